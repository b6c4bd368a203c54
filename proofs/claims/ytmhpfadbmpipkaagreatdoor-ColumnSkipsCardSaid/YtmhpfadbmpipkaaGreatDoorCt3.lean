/- The walk of column.Texts. Condition: at most 512 texts of at most 200 bytes. -/
import Derived.Test.YtmhpfadbmpipkaaGreatDoorCt2
set_option linter.unusedVariables false
set_option linter.unusedSimpArgs false
namespace Go.Proofs.YtmhpfadbmpipkaaGreatDoor.Cl
open Go Go.RowKit Go.Proofs Go.Proofs.YtmhpfadbmpipkaaGreatDoor.Vc Go.Proofs.YtmhpfadbmpipkaaGreatDoor.Ax
attribute [local irreducible] loadVar storeVar Instr.indexAt Instr.index Instr.sliceAt Instr.makeSlice Instr.lookup Instr.mapUpdate Instr.range Instr.next Instr.entry Instr.makeMap Builtin.append_ Builtin.copy_ Builtin.len_ Builtin.min_ Builtin.max_ Builtin.cap_ Builtin.delete_ Builtin.clear_ convert binOp eqGuard Op.unary Calls
attribute [local irreducible] best ints en bd
theorem keys_take {d : Tx} {i : Nat} (h : i < d.length) : (d.take (i + 1)).flatMap putT = (d.take i).flatMap putT ++ putT d[i] := by
  rw [List.take_succ_eq_append_getElem h, List.flatMap_append, List.flatMap_cons, List.flatMap_nil, List.append_nil]
theorem key_at (l x : Tx) {k : Nat} (h : k < (dsT l).length) : (dsT l ++ x)[0 + k]? = some (dsT l)[k] := by rw [Nat.zero_add, List.getElem?_append_left h, List.getElem?_eq_getElem h]
theorem ixT_take {d l : Tx} {k : Nat} (h : k < l.length) : ixT d (l.take (k + 1)) = ixT d (l.take k) ++ [((idxT d l[k] : Nat) : Int)] := by
  unfold ixT
  rw [List.take_succ_eq_append_getElem h, List.map_append]; rfl
set_option maxHeartbeats 4000000 in
set_option maxRecDepth 100000 in
theorem textsNA (l : Tx) (hne : l ≠ []) (hs : l.length ≤ 512) (ht : TOK l) : AFn Tryz.prog GC 50 [tl l] 0 [] (Is (bs (txs l))) := by
  have hdl := dsT_len l
  have hkl := fun k => keys_len ((dsT l).take k) (ht.ds.take k)
  have n1 := (num_len ((dsT l).length : Int)).2
  refine afn_of Tryz.func50 rfl mixed (by kernel_rfl) ?_
  conv => whnf
  (refine acallF [] (by kernel_rfl) (cloneTA l hne (by omega)) ?_ ?_; (focus (repeat' (first | rfl | trivial | apply And.intro))))
  rintro _ _ _ ⟨rfl, rfl, rfl⟩
  conv => whnf
  refine acallM [0] [] (by kernel_rfl) (sortTA l hne (by omega)) rfl (by repeat' (first | rfl | trivial | apply And.intro)) (by repeat' (first | rfl | trivial | apply And.intro)) ?_
  rintro _ _ _ ⟨rfl, rfl, rfl⟩
  refine ⟨rfl, ?_⟩
  conv => whnf
  refine acallM [0] [] (by kernel_rfl) (compactTA l hne (by omega)) rfl (by repeat' (first | rfl | trivial | apply And.intro)) (by repeat' (first | rfl | trivial | apply And.intro)) ?_
  rintro _ _ _ ⟨rfl, rfl, rfl⟩
  refine ⟨rfl, ?_⟩
  conv => whnf
  (refine acallF [0] (by kernel_rfl) (putA [] ((dsT l).length : Int) (i64_nat (by omega)) (by simp)) ?_ ?_; (focus (repeat' (first | rfl | trivial | apply And.intro))))
  rintro _ _ _ ⟨rfl, rfl, rfl⟩
  conv => whnf
  refine aloop ws50_1 3 [4, 23] (fun k : Nat => [(4, .own 2), (23, iv k)]) (fun k => [(0, .fz 1 ((dsT l ++ List.replicate (l.length - (dsT l).length) []).map enT)), (2, .rows 5 1 ((num ((dsT l).length : Int) ++ ((dsT l).take k).flatMap putT).map enB))]) (fun k => k ≤ (dsT l).length) (fun k => (dsT l).length - k) [(2, .lab 1)] [] 0 (by kernel_rfl) (fun _ => rfl) rfl (Nat.zero_le _) ⟨⟨rfl, rfl⟩, ⟨rfl, rfl, by simp⟩, trivial⟩ ⟨rfl, rfl, trivial⟩ ?_
  rintro k hk
  have hkk := hkl k
  rw [List.length_take] at hkk
  conv => whnf
  refine vif_split (fun h => ?_) (fun h => ?_)
  · have hlt : k < (dsT l).length := by simp at h; omega
    have hmem : (dsT l)[k] ∈ dsT l := List.getElem_mem hlt
    conv => whnf
    refine AIn.mk' k rfl hlt ?_
    conv => whnf
    refine ARd.mapAt (key_at l _ hlt) ?_
    conv => whnf
    refine acallF [2] (by kernel_rfl) (putTA (num ((dsT l).length : Int) ++ ((dsT l).take k).flatMap putT) (dsT l)[k] (by rw [List.length_append]; omega) (ht.ds _ hmem)) ⟨⟨rfl, rfl, rfl⟩, rfl, trivial⟩ ?_
    rintro _ _ _ ⟨rfl, rfl, rfl⟩
    conv => whnf
    refine AAr.i64 (by omega) ?_
    conv => whnf
    refine aback (k + 1) [(2, .lab 3)] [] rfl (by show (dsT l).length - (k + 1) < (dsT l).length - k; omega) hlt ⟨⟨rfl, rfl⟩, ⟨rfl, rfl, ?_⟩, trivial⟩ ⟨rfl, rfl, trivial⟩
    rw [keys_take hlt, ← List.append_assoc]
  · have : k = (dsT l).length := by simp at h; omega
    subst this
    rw [List.take_length]
    conv => whnf
    refine aloop ws50_2 4 [7, 33] (fun k : Nat => [(7, .own 3), (33, iv k)]) (fun k => [(0, .fz 1 ((dsT l ++ List.replicate (l.length - (dsT l).length) []).map enT)), (2, .rows 5 1 ((num ((dsT l).length : Int) ++ (dsT l).flatMap putT).map enB)), (3, .rows 3 1 ((ixT (dsT l) (l.take k)).map enI))]) (fun k => k ≤ l.length) (fun k => l.length - k) [(3, .nil)] [] 0 (by kernel_rfl) (fun _ => rfl) rfl (Nat.zero_le _) ⟨⟨rfl, rfl⟩, ⟨rfl, rfl, rfl⟩, rfl, trivial⟩ ⟨trivial, rfl, trivial⟩ ?_
    rintro k hk
    conv => whnf
    refine vif_split (fun h => ?_) (fun h => ?_)
    · have hlt : k < l.length := by simp at h; omega
      have hmem : l[k] ∈ dsT l := (dsT_mem l _).2 (List.getElem_mem hlt)
      have hil := (idxT_lt hmem).1
      conv => whnf
      (repeat' (first | (refine And.intro ?_ ?_ <;> (conv => whnf)) | (refine vif_split (fun h => ?_) (fun h => ?_) <;> (try simp only [sEqD, cond_true, cond_false, Bool.not_eq_true', Bool.not_eq_false', decide_eq_true_eq, decide_eq_false_iff_not, beq_iff_eq, bne_iff_ne, beq_eq_false_iff_ne, bne_eq_false_iff_eq, ne_eq, Bool.not_eq_eq_eq_not, Bool.not_true, Bool.not_false, Bool.false_eq_true, Bool.true_eq_false, Decidable.not_not, gt_iff_lt, ge_iff_le, Int.not_lt, Int.not_le] at h) <;> (conv => whnf)) | (refine AAr.i64 (by first | omega | ((try simp only [List.length_map] at *); omega)) ?_; conv => whnf) | (refine AIn.mk' _ rfl (by first | omega | (simp only [List.length_map, List.length_append, List.length_cons, List.length_nil, List.length_take, List.length_drop, List.length_set, List.length_replicate]; omega) | (simp only [List.length_map, List.length_append, List.length_cons, List.length_nil, List.length_take, List.length_drop, List.length_set, List.length_replicate] at *; omega)) ?_; conv => whnf) | (refine ARd.mapAt (by assumption) ?_; conv => whnf) | (refine ARd.set (by (try simp only [List.length_map, List.length_append, List.length_cons, List.length_nil, List.length_take, List.length_drop, List.length_set, List.length_replicate] at *); omega) ?_; conv => whnf) | (refine ARd.map (by first | omega | (simp only [List.length_map] at *; omega)) ?_; conv => whnf) | (refine VReq.mk (by first | decide | omega) ?_; conv => whnf) | (refine AEq.mk (by kernel_rfl) rfl rfl ?_; conv => whnf) | (refine VReq.mk (app_ok (by (try simp only [List.length_map, List.length_append, List.length_cons, List.length_nil, List.length_take, List.length_drop, List.length_set, List.length_replicate] at *); omega) (by kernel_rfl)) ?_; conv => whnf)))
      refine acall [] (by kernel_rfl) (searchTA (dsT l) l[k] (dsT_ss l) hmem (by omega)) rfl ⟨⟨rfl, take_dsT l _⟩, rfl, trivial⟩ ?_
      conv => whnf
      refine VReq.mk (app_ok (by rw [List.length_map, ixT_len, List.length_take]; show _ + 1 ≤ _; omega) (by kernel_rfl)) ?_
      conv => whnf
      refine AAr.i64 (by omega) ?_
      conv => whnf
      refine aback (k + 1) [(3, .lab 5)] [] rfl (by show l.length - (k + 1) < l.length - k; omega) hlt ⟨⟨rfl, rfl⟩, ⟨rfl, rfl, rfl⟩, ⟨rfl, rfl, ?_⟩, trivial⟩ ⟨rfl, rfl, trivial⟩
      rw [ixT_take hlt, List.map_append]
      rfl
    · have : k = l.length := by simp at h; omega
      subst this
      rw [List.take_length]
      conv => whnf
      have hkk2 := keys_len (dsT l) ht.ds
      have hib := ints_short (ixT (dsT l) l) (by rw [ixT_len]; exact hs)
      (refine acallF [3] (by kernel_rfl) (intsA (ixT (dsT l) l) (ixT_all _ _ (fun x hx => (dsT_mem l x).2 hx) (by omega)) (by rw [ixT_len]; exact hs)) ?_ ?_; (focus (repeat' (first | rfl | trivial | apply And.intro))))
      rintro _ _ _ ⟨rfl, rfl, rfl⟩
      conv => whnf
      refine VReq.mk (app_ok (by simp only [List.length_map, List.length_append]; omega) (by kernel_rfl)) ?_
      conv => whnf
      refine aret [4] ⟨rfl, rfl, ?_⟩
      unfold txs
      simp only [List.map_append]
/-! no texts -/
set_option maxHeartbeats 4000000 in
set_option maxRecDepth 100000 in
theorem cloneT0A : AFn Tryz.prog GC 83 [tl []] 0 [] (fun a n H => (a = .v (.slice none 0 0) ∧ n = 0 ∧ H = []) ∨ (a = .own 0 ∧ n = 1 ∧ H = [(0, .rows 9 1 [])])) := by
  refine afn_of Tryz.func83 rfl mixed (by kernel_rfl) ?_
  conv => whnf
  refine ⟨fun b _ => ?_⟩
  cases b
  · conv => whnf
    (repeat' (first | (refine And.intro ?_ ?_ <;> (conv => whnf)) | (refine vif_split (fun h => ?_) (fun h => ?_) <;> (try simp only [sEqD, cond_true, cond_false, Bool.not_eq_true', Bool.not_eq_false', decide_eq_true_eq, decide_eq_false_iff_not, beq_iff_eq, bne_iff_ne, beq_eq_false_iff_ne, bne_eq_false_iff_eq, ne_eq, Bool.not_eq_eq_eq_not, Bool.not_true, Bool.not_false, Bool.false_eq_true, Bool.true_eq_false, Decidable.not_not, gt_iff_lt, ge_iff_le, Int.not_lt, Int.not_le] at h) <;> (conv => whnf)) | (refine AAr.i64 (by first | omega | ((try simp only [List.length_map] at *); omega)) ?_; conv => whnf) | (refine AIn.mk' _ rfl (by first | omega | (simp only [List.length_map, List.length_append, List.length_cons, List.length_nil, List.length_take, List.length_drop, List.length_set, List.length_replicate]; omega) | (simp only [List.length_map, List.length_append, List.length_cons, List.length_nil, List.length_take, List.length_drop, List.length_set, List.length_replicate] at *; omega)) ?_; conv => whnf) | (refine ARd.mapAt (by assumption) ?_; conv => whnf) | (refine ARd.set (by (try simp only [List.length_map, List.length_append, List.length_cons, List.length_nil, List.length_take, List.length_drop, List.length_set, List.length_replicate] at *); omega) ?_; conv => whnf) | (refine ARd.map (by first | omega | (simp only [List.length_map] at *; omega)) ?_; conv => whnf) | (refine VReq.mk (by first | decide | omega) ?_; conv => whnf) | (refine AEq.mk (by kernel_rfl) rfl rfl ?_; conv => whnf) | (refine VReq.mk (app_ok (by (try simp only [List.length_map, List.length_append, List.length_cons, List.length_nil, List.length_take, List.length_drop, List.length_set, List.length_replicate] at *); omega) (by kernel_rfl)) ?_; conv => whnf)))
    exact aend (.own 0) 1 _ [(0, .lab 1)] [] (.inr ⟨rfl, rfl, rfl⟩) rfl (by repeat' (first | rfl | trivial | apply And.intro)) (by repeat' (first | rfl | trivial | apply And.intro))
  · conv => whnf
    exact aend (.v (.slice none 0 0)) 0 [] [] [] (.inl ⟨rfl, rfl, rfl⟩) rfl (by repeat' (first | rfl | trivial | apply And.intro)) (by repeat' (first | rfl | trivial | apply And.intro))
set_option maxHeartbeats 4000000 in
set_option maxRecDepth 100000 in
theorem len0A : AFn Tryz.prog GC 109 [uv 0] 0 [] (Is (iv 0)) := by
  have h : AFn Tryz.prog GC 104 [uv 0] 0 [] (Is (iv 0)) := len64A 0 (by decide)
  refine afn_of Tryz.func109 rfl mixed (by kernel_rfl) ?_
  conv => whnf
  (refine acall [] (by kernel_rfl) (h) rfl ?_ ?_; (focus (repeat' (first | rfl | trivial | apply And.intro))))
  conv => whnf
  exact aret [] (by repeat' (first | rfl | trivial | apply And.intro))
set_option maxHeartbeats 4000000 in
set_option maxRecDepth 100000 in
theorem ins0A : AFn Tryz.prog GC 121 [tl [], iv 0, iv 0] 0 [] (Is (.tup [])) := by
  refine afn_of Tryz.func121 rfl mixed (by kernel_rfl) ?_
  conv => whnf
  refine AAr.i64 (by decide) ?_
  conv => whnf
  refine aloop ws121_1 0 [6] (fun i : Nat => [(6, iv i)]) (fun _ => []) (fun i => i = 1) (fun _ => 0) [] [] 1 (by kernel_rfl) (fun _ => rfl) rfl rfl trivial ⟨rfl, trivial⟩ ?_
  rintro i rfl
  conv => whnf
  exact aret [] (by repeat' (first | rfl | trivial | apply And.intro))
set_option maxHeartbeats 4000000 in
set_option maxRecDepth 100000 in
theorem pdq0A : AFn Tryz.prog GC 108 [tl [], iv 0, iv 0, iv 0] 0 [] (Is (.tup [])) := by
  refine afn_of Tryz.func108 rfl mixed (by kernel_rfl) ?_
  conv => whnf
  refine aloop ws108_1 0 [1, 2, 3, 8, 9] (fun _ : Nat => [(1, iv 0), (2, iv 0), (3, iv 0), (8, bv true), (9, bv true)]) (fun _ => []) (fun _ => True) (fun _ => 0) [] [] 0 (by kernel_rfl) (fun _ => rfl) rfl trivial trivial (by repeat' (first | rfl | trivial | apply And.intro)) ?_
  rintro i _
  conv => whnf
  refine AAr.i64 (by decide) ?_
  conv => whnf
  (refine acall [] (by kernel_rfl) (ins0A) rfl ?_ ?_; (focus (repeat' (first | rfl | trivial | apply And.intro))))
  conv => whnf
  exact aret [] (by repeat' (first | rfl | trivial | apply And.intro))
set_option maxHeartbeats 4000000 in
set_option maxRecDepth 100000 in
theorem sortT0A : AFn Tryz.prog GC 84 [tl []] 0 [] (Is (.tup [])) := by
  refine afn_of Tryz.func84 rfl mixed (by kernel_rfl) ?_
  conv => whnf
  refine AAr.to (y := 0) rfl ?_
  conv => whnf
  (refine acall [] (by kernel_rfl) (len0A) rfl ?_ ?_; (focus (repeat' (first | rfl | trivial | apply And.intro))))
  conv => whnf
  (refine acall [] (by kernel_rfl) (pdq0A) rfl ?_ ?_; (focus (repeat' (first | rfl | trivial | apply And.intro))))
  conv => whnf
  exact aret [] (by repeat' (first | rfl | trivial | apply And.intro))
set_option maxHeartbeats 4000000 in
set_option maxRecDepth 100000 in
theorem compactT0A : AFn Tryz.prog GC 85 [tl []] 0 [] (Is (tl [])) := by
  refine afn_of Tryz.func85 rfl mixed (by kernel_rfl) ?_
  conv => whnf
  exact aret [] (by repeat' (first | rfl | trivial | apply And.intro))
theorem txs_nil : txs [] = num 0 ++ ints [] := by
  unfold txs
  simp [dsT, ixT]
set_option maxHeartbeats 4000000 in
set_option maxRecDepth 100000 in
theorem textsEA : AFn Tryz.prog GC 50 [tl []] 0 [] (Is (bs (txs []))) := by
  refine afn_of Tryz.func50 rfl mixed (by kernel_rfl) ?_
  conv => whnf
  (refine acallF [] (by kernel_rfl) (cloneT0A) ?_ ?_; (focus (repeat' (first | rfl | trivial | apply And.intro))))
  rintro _ _ _ (⟨rfl, rfl, rfl⟩ | ⟨rfl, rfl, rfl⟩)
  · skip
    conv => whnf
    (refine acallF [] (by kernel_rfl) (sortT0A) ?_ ?_; (focus (repeat' (first | rfl | trivial | apply And.intro))))
    rintro _ _ _ ⟨rfl, rfl, rfl⟩
    conv => whnf
    (refine acallF [] (by kernel_rfl) (compactT0A) ?_ ?_; (focus (repeat' (first | rfl | trivial | apply And.intro))))
    rintro _ _ _ ⟨rfl, rfl, rfl⟩
    conv => whnf
    (refine acallF [] (by kernel_rfl) (putA [] 0 (by unfold I64; omega) (by simp)) ?_ ?_; (focus (repeat' (first | rfl | trivial | apply And.intro))))
    rintro _ _ _ ⟨rfl, rfl, rfl⟩
    conv => whnf
    refine aloop ws50_1 (0 + 2) [4, 23] (fun k : Nat => [(4, .own (0 + 1)), (23, iv k)]) (fun _ => [(0 + 1, .rows 5 1 ((num 0).map enB))]) (fun k => k = 0) (fun _ => 0) [(0 + 1, .lab 0)] [] 0 (by kernel_rfl) (fun _ => rfl) rfl rfl ⟨⟨rfl, rfl, rfl⟩, trivial⟩ ⟨rfl, rfl, trivial⟩ ?_
    rintro k rfl
    conv => whnf
    refine aloop ws50_2 (0 + 2) [7, 33] (fun k : Nat => [(7, .v (.slice none 0 0)), (33, iv k)]) (fun _ => [(0 + 1, .rows 5 1 ((num 0).map enB))]) (fun k => k = 0) (fun _ => 0) [] [] 0 (by kernel_rfl) (fun _ => rfl) rfl rfl ⟨⟨rfl, rfl, rfl⟩, trivial⟩ ⟨rfl, rfl, trivial⟩ ?_
    rintro k rfl
    conv => whnf
    (refine acallF [] (by kernel_rfl) (intsA [] AllI.nil (by simp)) ?_ ?_; (focus (repeat' (first | rfl | trivial | apply And.intro))))
    rintro _ _ _ ⟨rfl, rfl, rfl⟩
    conv => whnf
    have hib := ints_short [] (by simp)
    have hn := (num_len 0).2
    refine VReq.mk (app_ok (by simp only [List.length_map]; omega) (by kernel_rfl)) ?_
    conv => whnf
    refine aret [0 + 2] ⟨rfl, rfl, ?_⟩
    rw [txs_nil, List.map_append]
  · skip
    conv => whnf
    (refine acallF [0] (by kernel_rfl) (sortT0A) ?_ ?_; (focus (repeat' (first | rfl | trivial | apply And.intro))))
    rintro _ _ _ ⟨rfl, rfl, rfl⟩
    conv => whnf
    (refine acallF [] (by kernel_rfl) (compactT0A) ?_ ?_; (focus (repeat' (first | rfl | trivial | apply And.intro))))
    rintro _ _ _ ⟨rfl, rfl, rfl⟩
    conv => whnf
    (refine acallF [] (by kernel_rfl) (putA [] 0 (by unfold I64; omega) (by simp)) ?_ ?_; (focus (repeat' (first | rfl | trivial | apply And.intro))))
    rintro _ _ _ ⟨rfl, rfl, rfl⟩
    conv => whnf
    refine aloop ws50_1 (1 + 2) [4, 23] (fun k : Nat => [(4, .own (1 + 1)), (23, iv k)]) (fun _ => [(1 + 1, .rows 5 1 ((num 0).map enB))]) (fun k => k = 0) (fun _ => 0) [(1 + 1, .lab 1)] [] 0 (by kernel_rfl) (fun _ => rfl) rfl rfl ⟨⟨rfl, rfl, rfl⟩, trivial⟩ ⟨rfl, rfl, trivial⟩ ?_
    rintro k rfl
    conv => whnf
    refine aloop ws50_2 (1 + 2) [7, 33] (fun k : Nat => [(7, .v (.slice none 0 0)), (33, iv k)]) (fun _ => [(1 + 1, .rows 5 1 ((num 0).map enB))]) (fun k => k = 0) (fun _ => 0) [] [] 0 (by kernel_rfl) (fun _ => rfl) rfl rfl ⟨⟨rfl, rfl, rfl⟩, trivial⟩ ⟨rfl, rfl, trivial⟩ ?_
    rintro k rfl
    conv => whnf
    (refine acallF [] (by kernel_rfl) (intsA [] AllI.nil (by simp)) ?_ ?_; (focus (repeat' (first | rfl | trivial | apply And.intro))))
    rintro _ _ _ ⟨rfl, rfl, rfl⟩
    conv => whnf
    have hib := ints_short [] (by simp)
    have hn := (num_len 0).2
    refine VReq.mk (app_ok (by simp only [List.length_map]; omega) (by kernel_rfl)) ?_
    conv => whnf
    refine aret [1 + 2] ⟨rfl, rfl, ?_⟩
    rw [txs_nil, List.map_append]
theorem textsA (l : Tx) (hs : l.length ≤ 512) (ht : TOK l) : AFn Tryz.prog GC 50 [tl l] 0 [] (Is (bs (txs l))) := by
  by_cases h : l = []
  · subst h; exact textsEA
  · exact textsNA l h hs ht
theorem by_inj {a b : By} (h : (⟨a.toArray⟩ : ByteArray) = ⟨b.toArray⟩) : a = b := by
  injection h with h
  simpa using congrArg Array.toList h
end Go.Proofs.YtmhpfadbmpipkaaGreatDoor.Cl
