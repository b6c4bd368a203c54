/- The walks of both readers' Text and of flagstoneref1's Same. Condition: sizes. -/
import Derived.Test.YtmhpfadbmpipkaaGreatCt3
import Derived.Test.YtmhpfadbmpipkaaGreatCi3
set_option linter.unusedVariables false
set_option linter.unusedSimpArgs false
namespace Go.Proofs.YtmhpfadbmpipkaaGreat.Cl
open Go Go.RowKit Go.Proofs Go.Proofs.YtmhpfadbmpipkaaGreat.Vc Go.Proofs.YtmhpfadbmpipkaaGreat.Ax
attribute [local irreducible] loadVar storeVar Instr.indexAt Instr.index Instr.sliceAt Instr.makeSlice Instr.lookup Instr.mapUpdate Instr.range Instr.next Instr.entry Instr.makeMap Builtin.append_ Builtin.copy_ Builtin.len_ Builtin.min_ Builtin.max_ Builtin.cap_ Builtin.delete_ Builtin.clear_ convert binOp eqGuard Op.unary Calls
set_option maxHeartbeats 4000000 in
set_option maxRecDepth 100000 in
theorem takeA (b : By) (n : Nat) (hn : n ≤ 200) : AFn Tryz.prog GC 43 [.ptr 0 0, iv n] 1 [(0, rdB b 0)] (fun a m H => a = bs (if n ≤ b.length then b.take n else []) ∧ m = 1 ∧ H = [(0, rdB (if n ≤ b.length then b.drop n else b) (if n ≤ b.length then 0 else 16))]) := by
  refine afn_of Tryz.func43 rfl mixed (by kernel_rfl) ?_
  conv => whnf
  refine vif_split (fun h => ?_) (fun h => ?_)
  · have hl : ¬ n ≤ b.length := by simp at h; omega
    simp only [hl, if_false]
    conv => whnf
    exact aend (bs []) 1 [(0, rdB b 16)] [] [] ⟨rfl, rfl, rfl⟩ rfl (by repeat' (first | rfl | trivial | apply And.intro)) (by repeat' (first | rfl | trivial | apply And.intro))
  have hl : n ≤ b.length := by simp at h; omega
  simp only [hl, if_true]
  conv => whnf
  refine VReq.mk ⟨Int.le_refl _, by rw [List.length_map]; omega⟩ ?_
  refine ABd.mk' 0 n rfl rfl (Nat.zero_le _) (by rw [List.length_map]; exact hl) ?_
  conv => whnf
  refine ABd.mk' n b.length rfl (by rw [List.length_map]) hl (by rw [List.length_map]; exact Nat.le_refl _) ?_
  conv => whnf
  exact aend (bs (b.take n)) 1 [(0, rdB (b.drop n) 0)] [] [] ⟨rfl, rfl, rfl⟩ rfl ⟨⟨rfl, ⟨rfl, List.map_drop.symm⟩, rfl, trivial⟩, trivial⟩ ⟨rfl, List.map_take.symm⟩
set_option maxHeartbeats 4000000 in
set_option maxRecDepth 100000 in
theorem takeEA (b : By) (e : Int) (he : e ≠ 0) : AFn Tryz.prog GC 43 [.ptr 0 0, iv 0] 1 [(0, rdB b e)] (fun a m H => a = bs [] ∧ m = 1 ∧ H = [(0, rdB b e)]) := by
  refine afn_of Tryz.func43 rfl mixed (by kernel_rfl) ?_
  have hq : (e == 0) = false := by simpa using he
  conv => whnf
  rw [hq]
  conv => whnf
  refine vif_split (fun h => ?_) (fun h => ?_)
  rotate_left 1
  · exfalso; simp at h; exact he h
  conv => whnf
  exact aend (bs []) 1 [(0, rdB b e)] [] [] ⟨rfl, rfl, rfl⟩ rfl (by repeat' (first | rfl | trivial | apply And.intro)) (by repeat' (first | rfl | trivial | apply And.intro))
set_option maxHeartbeats 4000000 in
set_option maxRecDepth 100000 in
theorem textA (b : By) (e : Int) (hb : b.length ≤ 3000000) : AFn Tryz.prog GC 22 [.ptr 0 0, iv 200] 1 [(0, rdB b e)] (fun a n H => a = tv (txT b e).1 ∧ n = 1 ∧ H = [(0, rdB (b.drop (txT b e).2.1) (txT b e).2.2)]) := by
  have hL := lengthA b e 200 4 hb (by decide) (by decide)
  have hr := cnT_rng b e 200 4 (by decide) (by decide)
  have hz : (cnT b e 200 4).2.2 ≠ 0 → (cnT b e 200 4).1 = 0 := fun h => by rw [cnT_def] at h ⊢; simp only at h ⊢; rw [if_neg h]
  have hd := txT_def b e
  generalize cnT b e 200 4 = c at *
  obtain ⟨x, k, e'⟩ := c
  simp only at hL hr hz hd
  obtain ⟨n, rfl⟩ : ∃ n : Nat, x = (n : Int) := ⟨x.toNat, by omega⟩
  have hn : n ≤ 200 := by omega
  rw [Int.toNat_natCast] at hd
  by_cases he : e' = 0
  · subst he
    rw [if_pos rfl] at hd
    have hT := takeA (b.drop k) n hn
    by_cases h : n ≤ (b.drop k).length
    · have h2 : ¬ ((b.drop k).length : Int) < (n : Int) := by omega
      rw [if_neg h2] at hd
      rw [hd]
      simp only [h, if_true] at hT
      refine afn_of Tryz.func22 rfl mixed (by kernel_rfl) ?_
      conv => whnf
      refine acallM [0] [] (by kernel_rfl) hL rfl (by repeat' (first | rfl | trivial | apply And.intro)) (by repeat' (first | rfl | trivial | apply And.intro)) ?_
      rintro _ _ _ ⟨rfl, rfl, rfl⟩
      refine ⟨rfl, ?_⟩
      conv => whnf
      refine acallM [0] [] (by kernel_rfl) hT rfl (by repeat' (first | rfl | trivial | apply And.intro)) (by repeat' (first | rfl | trivial | apply And.intro)) ?_
      rintro _ _ _ ⟨rfl, rfl, rfl⟩
      refine ⟨rfl, ?_⟩
      conv => whnf
      refine ABy.of ?_
      conv => whnf
      exact aend (tv ((b.drop k).take n)) 1 [(0, rdB (b.drop (k + n)) 0)] [] [] ⟨rfl, rfl, rfl⟩ rfl ⟨⟨rfl, ⟨rfl, by rw [List.drop_drop]⟩, rfl, trivial⟩, trivial⟩ (by repeat' (first | rfl | trivial | apply And.intro))
    · have h2 : ((b.drop k).length : Int) < (n : Int) := by omega
      rw [if_pos h2] at hd
      rw [hd]
      simp only [h, if_false] at hT
      refine afn_of Tryz.func22 rfl mixed (by kernel_rfl) ?_
      conv => whnf
      refine acallM [0] [] (by kernel_rfl) hL rfl (by repeat' (first | rfl | trivial | apply And.intro)) (by repeat' (first | rfl | trivial | apply And.intro)) ?_
      rintro _ _ _ ⟨rfl, rfl, rfl⟩
      refine ⟨rfl, ?_⟩
      conv => whnf
      refine acallM [0] [] (by kernel_rfl) hT rfl (by repeat' (first | rfl | trivial | apply And.intro)) (by repeat' (first | rfl | trivial | apply And.intro)) ?_
      rintro _ _ _ ⟨rfl, rfl, rfl⟩
      refine ⟨rfl, ?_⟩
      conv => whnf
      refine ABy.of (s := []) ?_
      conv => whnf
      exact aend (tv []) 1 [(0, rdB (b.drop k) 16)] [] [] ⟨rfl, rfl, rfl⟩ rfl (by repeat' (first | rfl | trivial | apply And.intro)) (by repeat' (first | rfl | trivial | apply And.intro))
  · have h0 := hz he
    have hn0 : n = 0 := by omega
    subst hn0
    rw [if_neg he] at hd
    rw [hd]
    refine afn_of Tryz.func22 rfl mixed (by kernel_rfl) ?_
    conv => whnf
    refine acallM [0] [] (by kernel_rfl) hL rfl (by repeat' (first | rfl | trivial | apply And.intro)) (by repeat' (first | rfl | trivial | apply And.intro)) ?_
    rintro _ _ _ ⟨rfl, rfl, rfl⟩
    refine ⟨rfl, ?_⟩
    conv => whnf
    refine acallM [0] [] (by kernel_rfl) (takeEA (b.drop k) e' he) rfl (by repeat' (first | rfl | trivial | apply And.intro)) (by repeat' (first | rfl | trivial | apply And.intro)) ?_
    rintro _ _ _ ⟨rfl, rfl, rfl⟩
    refine ⟨rfl, ?_⟩
    conv => whnf
    refine ABy.of (s := []) ?_
    conv => whnf
    exact aend (tv []) 1 [(0, rdB (b.drop k) e')] [] [] ⟨rfl, rfl, rfl⟩ rfl (by repeat' (first | rfl | trivial | apply And.intro)) (by repeat' (first | rfl | trivial | apply And.intro))
set_option maxHeartbeats 4000000 in
set_option maxRecDepth 100000 in
theorem sameTA (a b : Tx) (ha : a.length ≤ 1000000) : AFn Tryz.prog GC 9 [tl a, tl b] 0 [] (Is (bv (decide (a = b)))) := by
  refine afn_of Tryz.func9 rfl mixed (by kernel_rfl) ?_
  conv => whnf
  refine vif_split (fun h => ?_) (fun h => ?_)
  · conv => whnf
    refine aret [] (congrArg Value.bool ?_)
    refine (decide_eq_false fun e => ?_).symm
    subst e
    simp at h
  have hl : a.length = b.length := by simp at h; omega
  conv => whnf
  refine aloopH ws9_1 [5] (fun k : Nat => [(5, iv k)]) (fun k => k ≤ a.length ∧ ∀ j (h1 : j < k) (h2 : j < a.length) (h3 : j < b.length), a[j] = b[j]) (fun k => a.length - k) 0 (by kernel_rfl) (fun _ => rfl) (by kernel_rfl) ⟨Nat.zero_le _, fun j h1 => absurd h1 (Nat.not_lt_zero j)⟩ (by repeat' (first | rfl | trivial | apply And.intro)) (by repeat' (first | rfl | trivial | apply And.intro)) ?_
  rintro k ⟨hk, hno⟩
  conv => whnf
  refine vif_split (fun hlt => ?_) (fun hge => ?_)
  · have hlt : k < a.length := by simp at hlt; omega
    have hlb : k < b.length := by omega
    conv => whnf
    (refine adraw pln9 [] (by kernel_rfl) ?_; conv => whnf)
    (repeat' (first | (refine And.intro ?_ ?_ <;> (conv => whnf)) | (refine vif_split (fun h => ?_) (fun h => ?_) <;> (try simp only [sEqD, cond_true, cond_false, Bool.not_eq_true', Bool.not_eq_false', decide_eq_true_eq, decide_eq_false_iff_not, beq_iff_eq, bne_iff_ne, beq_eq_false_iff_ne, bne_eq_false_iff_eq, ne_eq, Bool.not_eq_eq_eq_not, Bool.not_true, Bool.not_false, Bool.false_eq_true, Bool.true_eq_false, Decidable.not_not, gt_iff_lt, ge_iff_le, Int.not_lt, Int.not_le] at h) <;> (conv => whnf)) | (refine AAr.i64 (by first | omega | ((try simp only [List.length_map] at *); omega)) ?_; conv => whnf) | (refine AIn.mk' _ rfl (by first | omega | (simp only [List.length_map, List.length_append, List.length_cons, List.length_nil, List.length_take, List.length_drop, List.length_set, List.length_replicate]; omega) | (simp only [List.length_map, List.length_append, List.length_cons, List.length_nil, List.length_take, List.length_drop, List.length_set, List.length_replicate] at *; omega)) ?_; conv => whnf) | (refine ARd.mapAt (by assumption) ?_; conv => whnf) | (refine ARd.set (by (try simp only [List.length_map, List.length_append, List.length_cons, List.length_nil, List.length_take, List.length_drop, List.length_set, List.length_replicate] at *); omega) ?_; conv => whnf) | (refine ARd.map (by first | omega | (simp only [List.length_map] at *; omega)) ?_; conv => whnf) | (refine VReq.mk (by first | decide | omega) ?_; conv => whnf) | (refine AEq.mk (by kernel_rfl) rfl rfl ?_; conv => whnf) | (refine VReq.mk (app_ok (by (try simp only [List.length_map, List.length_append, List.length_cons, List.length_nil, List.length_take, List.length_drop, List.length_set, List.length_replicate] at *); omega) (by kernel_rfl)) ?_; conv => whnf)))
    · refine aret [] (congrArg Value.bool ?_)
      exact (decide_eq_false fun e => h (by subst e; rfl)).symm
    · refine aback (k + 1) [] [] rfl (by show a.length - (k + 1) < a.length - k; omega) ⟨hlt, fun j h1 h2 h3 => ?_⟩ trivial ⟨rfl, trivial⟩
      rcases Nat.lt_or_ge j k with h4 | h4
      · exact hno j h4 h2 h3
      · have : j = k := by omega
        subst this; exact by_inj h
  · have : k = a.length := by simp at hge; omega
    subst this
    conv => whnf
    refine aret [] (congrArg Value.bool ?_)
    exact (decide_eq_true (List.ext_getElem hl fun j h1 h2 => hno j h1 h1 h2)).symm
/-- what the document's reader does -/
def RdT2 (b : By) (j : Nat) (t : By × Nat × Int) (a : AV) (n : Nat) (H : AHeap) : Prop := a = tv t.1 ∧ n = 1 ∧ H = [(0, rd2 b (j + if t.2.2 = 0 then t.2.1 else 0) t.2.2)]
set_option maxHeartbeats 4000000 in
set_option maxRecDepth 100000 in
theorem text2A (b : By) (j : Nat) (e : Int) (hb : b.length ≤ 3000000) (hj : j ≤ b.length) : AFn Tryz.prog GC 31 [.ptr 0 0, iv 200] 1 [(0, rd2 b j e)] (RdT2 b j (txT (b.drop j) e)) := by
  have hN := number2A b j e hb hj
  have hd := txT_def (b.drop j) e
  have ho := (rnT_ok (b.drop j) e).2.1
  rw [cnT_def] at hd
  generalize rnT (b.drop j) e = c at *
  obtain ⟨x, k, e'⟩ := c
  simp only at hN hd ho
  have hdl : (b.drop j).length = b.length - j := List.length_drop
  have hdk : ((b.drop j).drop k).length = b.length - j - k := by rw [List.length_drop, hdl]
  by_cases he : e' = 0
  · subst he
    simp only [if_true] at hd
    by_cases h1 : x < 0
    · simp only [h1, if_true] at hd
      rw [if_neg (by decide)] at hd
      rw [hd]
      refine afn_of Tryz.func31 rfl mixed (by kernel_rfl) ?_
      conv => whnf
      refine acallM [0] [] (by kernel_rfl) hN rfl (by repeat' (first | rfl | trivial | apply And.intro)) (by repeat' (first | rfl | trivial | apply And.intro)) ?_
      rintro _ _ _ ⟨rfl, rfl, rfl⟩
      refine ⟨rfl, ?_⟩
      conv => whnf
      refine vif_split (fun h => ?_) (fun h => ?_)
      rotate_left 1
      · exfalso; simp at h; omega
      conv => whnf
      refine acallM [0] [] (by kernel_rfl) (fail2A b (j + k) 0 3) rfl (by repeat' (first | rfl | trivial | apply And.intro)) (by repeat' (first | rfl | trivial | apply And.intro)) ?_
      rintro _ _ _ ⟨rfl, rfl, rfl⟩
      refine ⟨rfl, ?_⟩
      conv => whnf
      exact aend (tv []) 1 [(0, rd2 b j 3)] [] [] ⟨rfl, rfl, rfl⟩ rfl (by repeat' (first | rfl | trivial | apply And.intro)) (by repeat' (first | rfl | trivial | apply And.intro))
    rw [if_neg h1] at hd
    by_cases h2 : 200 < x
    · simp only [h2, if_true] at hd
      rw [if_neg (by decide)] at hd
      rw [hd]
      refine afn_of Tryz.func31 rfl mixed (by kernel_rfl) ?_
      conv => whnf
      refine acallM [0] [] (by kernel_rfl) hN rfl (by repeat' (first | rfl | trivial | apply And.intro)) (by repeat' (first | rfl | trivial | apply And.intro)) ?_
      rintro _ _ _ ⟨rfl, rfl, rfl⟩
      refine ⟨rfl, ?_⟩
      conv => whnf
      refine vif_split (fun h => ?_) (fun h => ?_)
      · exfalso; simp at h; omega
      conv => whnf
      refine vif_split (fun h => ?_) (fun h => ?_)
      rotate_left 1
      · exfalso; simp at h; omega
      conv => whnf
      refine acallM [0] [] (by kernel_rfl) (fail2A b (j + k) 0 4) rfl (by repeat' (first | rfl | trivial | apply And.intro)) (by repeat' (first | rfl | trivial | apply And.intro)) ?_
      rintro _ _ _ ⟨rfl, rfl, rfl⟩
      refine ⟨rfl, ?_⟩
      conv => whnf
      exact aend (tv []) 1 [(0, rd2 b j 4)] [] [] ⟨rfl, rfl, rfl⟩ rfl (by repeat' (first | rfl | trivial | apply And.intro)) (by repeat' (first | rfl | trivial | apply And.intro))
    simp only [h2, if_false, if_true] at hd
    obtain ⟨n, rfl⟩ : ∃ n : Nat, x = (n : Int) := ⟨x.toNat, by omega⟩
    rw [Int.toNat_natCast] at hd
    by_cases h3 : (((b.drop j).drop k).length : Int) < (n : Int)
    · rw [if_pos h3] at hd
      rw [hd]
      refine afn_of Tryz.func31 rfl mixed (by kernel_rfl) ?_
      conv => whnf
      refine acallM [0] [] (by kernel_rfl) hN rfl (by repeat' (first | rfl | trivial | apply And.intro)) (by repeat' (first | rfl | trivial | apply And.intro)) ?_
      rintro _ _ _ ⟨rfl, rfl, rfl⟩
      refine ⟨rfl, ?_⟩
      conv => whnf
      refine vif_split (fun h => ?_) (fun h => ?_)
      · exfalso; simp at h; omega
      conv => whnf
      (refine adraw pln31 [] (by kernel_rfl) ?_; conv => whnf)
      refine AAr.to (y := ((b.length - j - k : Nat) : Int)) (by rw [List.length_map, IntWalk.i64_in _ (by omega)]; omega) ?_
      conv => whnf
      refine vif_split (fun h => ?_) (fun h => ?_)
      rotate_left 1
      · exfalso; simp at h; omega
      conv => whnf
      refine acallM [0] [] (by kernel_rfl) (fail2A b (j + k) 0 16) rfl (by repeat' (first | rfl | trivial | apply And.intro)) (by repeat' (first | rfl | trivial | apply And.intro)) ?_
      rintro _ _ _ ⟨rfl, rfl, rfl⟩
      refine ⟨rfl, ?_⟩
      conv => whnf
      exact aend (tv []) 1 [(0, rd2 b j 16)] [] [] ⟨rfl, rfl, rfl⟩ rfl (by repeat' (first | rfl | trivial | apply And.intro)) (by repeat' (first | rfl | trivial | apply And.intro))
    · rw [if_neg h3] at hd
      rw [hd]
      refine afn_of Tryz.func31 rfl mixed (by kernel_rfl) ?_
      conv => whnf
      refine acallM [0] [] (by kernel_rfl) hN rfl (by repeat' (first | rfl | trivial | apply And.intro)) (by repeat' (first | rfl | trivial | apply And.intro)) ?_
      rintro _ _ _ ⟨rfl, rfl, rfl⟩
      refine ⟨rfl, ?_⟩
      conv => whnf
      refine vif_split (fun h => ?_) (fun h => ?_)
      · exfalso; simp at h; omega
      conv => whnf
      (refine adraw pln31 [] (by kernel_rfl) ?_; conv => whnf)
      refine AAr.to (y := ((b.length - j - k : Nat) : Int)) (by rw [List.length_map, IntWalk.i64_in _ (by omega)]; omega) ?_
      conv => whnf
      refine vif_split (fun h => ?_) (fun h => ?_)
      · exfalso; simp at h; omega
      conv => whnf
      refine AAr.to (y := ((j + k + n : Nat) : Int)) (by rw [← Int.natCast_add]; exact IntWalk.i64_in _ (by omega)) ?_
      conv => whnf
      (refine adraw pln31 [] (by kernel_rfl) ?_; conv => whnf)
      repeat' (first
        | (refine And.intro ?_ ?_ <;> (conv => whnf))
        | (refine AAr.to (y := ((j + k : Nat) : Int)) (by rw [IntWalk.i64_in _ (by omega)]; omega) ?_; conv => whnf)
        | (refine ABd.mk' (j + k) (j + k + n) rfl rfl (by omega) (by rw [List.length_map]; omega) ?_; conv => whnf))
      have ec : ((b.map enB).take (j + k + n)).drop (j + k) = (((b.drop j).drop k).take n).map enB := by
        rw [List.drop_take, List.map_take, List.map_drop, List.map_drop, List.drop_drop, show j + k + n - (j + k) = n by omega]
      show ABy (((b.map enB).take (j + k + n)).drop (j + k)) _
      rw [ec]
      refine ABy.of ?_
      conv => whnf
      exact aend (tv (((b.drop j).drop k).take n)) 1 [(0, rd2 b (j + k + n) 0)] [] [] ⟨rfl, rfl, by show _ = [(0, rd2 b (j + (k + n)) 0)]; rw [← Nat.add_assoc]⟩ rfl (by repeat' (first | rfl | trivial | apply And.intro)) (by repeat' (first | rfl | trivial | apply And.intro))
  · simp only [he, if_false] at hd
    rw [hd]
    · skip
      refine afn_of Tryz.func31 rfl mixed (by kernel_rfl) ?_
      conv => whnf
      refine acallM [0] [] (by kernel_rfl) hN rfl (by repeat' (first | rfl | trivial | apply And.intro)) (by repeat' (first | rfl | trivial | apply And.intro)) ?_
      rintro _ _ _ ⟨rfl, rfl, rfl⟩
      refine ⟨rfl, ?_⟩
      conv => whnf
      have hq2 : (e' != 0) = true := by simpa using he
      rw [hq2]
      conv => whnf
      exact aend (tv []) 1 [(0, rd2 b j e')] [] [] ⟨rfl, rfl, by show _ = [(0, rd2 b (j + if e' = 0 then k else 0) e')]; rw [if_neg he]; rfl⟩ rfl (by repeat' (first | rfl | trivial | apply And.intro)) (by repeat' (first | rfl | trivial | apply And.intro))
end Go.Proofs.YtmhpfadbmpipkaaGreat.Cl
