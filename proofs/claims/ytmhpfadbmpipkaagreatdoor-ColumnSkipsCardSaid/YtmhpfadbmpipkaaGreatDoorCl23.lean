/- The walks of bytes.Equal, bytes.HasPrefix and column.ReadInts. Condition: at most 100000 bytes. -/
import Derived.Test.YtmhpfadbmpipkaaGreatDoorCl22
import Derived.Test.YtmhpfadbmpipkaaGreatDoorCl11
set_option linter.unusedVariables false
set_option linter.unusedSimpArgs false
namespace Go.Proofs.YtmhpfadbmpipkaaGreatDoor.Cl
open Go Go.RowKit Go.Proofs Go.Proofs.YtmhpfadbmpipkaaGreatDoor.Vc Go.Proofs.YtmhpfadbmpipkaaGreatDoor.Ax
attribute [local irreducible] loadVar storeVar Instr.indexAt Instr.index Instr.sliceAt Instr.makeSlice Instr.lookup Instr.mapUpdate Instr.range Instr.next Instr.entry Instr.makeMap Builtin.append_ Builtin.copy_ Builtin.len_ Builtin.min_ Builtin.max_ Builtin.cap_ Builtin.delete_ Builtin.clear_ convert binOp eqGuard Op.unary Calls
theorem sEq_by (a b : By) : sEq ⟨a.toArray⟩ ⟨b.toArray⟩ = decide (a = b) := by
  rw [sEqD]
  by_cases h : a = b
  · subst h; simp
  · rw [decide_eq_false h]
    refine decide_eq_false fun e => h ?_
    injection e with e
    simpa using congrArg Array.toList e
set_option maxHeartbeats 4000000 in
set_option maxRecDepth 100000 in
theorem equalA (a b : By) : AFn Tryz.prog GC 35 [bs a, bs b] 0 [] (Is (bv (decide (a = b)))) := by
  refine afn_of Tryz.func35 rfl mixed (by kernel_rfl) ?_
  conv => whnf
  refine ABy.of ?_
  conv => whnf
  refine ABy.of ?_
  conv => whnf
  exact aret [] (congrArg Value.bool (sEq_by a b))
set_option maxHeartbeats 4000000 in
set_option maxRecDepth 100000 in
theorem prefixA (b x : By) : AFn Tryz.prog GC 94 [bs b, bs x] 0 [] (Is (bv (decide (b.take x.length = x)))) := by
  refine afn_of Tryz.func94 rfl mixed (by kernel_rfl) ?_
  conv => whnf
  refine vif_split (fun h => ?_) (fun h => ?_)
  · have hl : x.length ≤ b.length := by simp at h; omega
    conv => whnf
    refine ABd.mk' 0 x.length rfl (by rw [List.length_map]) (Nat.zero_le _) (by rw [List.length_map]; exact hl) ?_
    conv => whnf
    have he := equalA (b.take x.length) x
    refine acall [] (by kernel_rfl) he rfl ⟨⟨rfl, (List.map_take).symm⟩, ⟨rfl, rfl⟩, trivial⟩ ?_
    conv => whnf
    exact aret [] (by repeat' (first | rfl | trivial | apply And.intro))
  · have hl : b.length < x.length := by simp at h; omega
    conv => whnf
    refine aret [] (congrArg Value.bool ?_)
    refine (decide_eq_false fun e => ?_).symm
    have := congrArg List.length e
    rw [List.length_take] at this
    omega
theorem ints_form (l : Li) : ∃ (k : Nat) (body : By), 1 ≤ k ∧ k ≤ 5 ∧ ints l = num (k : Int) ++ (num (l.length : Int) ++ body) ∧ (l ≠ [] → body = bd k l) := by
  by_cases h : l = []
  · subst h
    exact ⟨1, [], by omega, by omega, by decide, fun h => absurd rfl h⟩
  · obtain ⟨k, h1, h2, h3⟩ := ints_in h
    exact ⟨k, bd k l, h1, h2, by rw [h3]; unfold en; rw [List.append_assoc], fun _ => rfl⟩
/-- what is known of all good readings -/
def Gd (b : By) (Q : Li → By → Prop) : Prop := ∀ l0 r, AllI l0 → l0.length ≤ 512 → b = ints l0 ++ r → Q l0 r
/-- the heads of an encoding -/
theorem gd_head (b : By) : Gd b fun l0 r => (cnT (b.drop (rnT b 0).2.1) (rnT b 0).2.2 512 5).2.2 = 0 ∧ ∃ k : Nat, 1 ≤ k ∧ k ≤ 5 ∧ (rnT b 0).1 = (k : Int) ∧ (cnT (b.drop (rnT b 0).2.1) (rnT b 0).2.2 512 5).1 = (l0.length : Int) ∧ (l0 ≠ [] → b = num (k : Int) ++ (num (l0.length : Int) ++ (bd k l0 ++ r))) := fun l0 r ha hl h => by
  obtain ⟨k, body, k1, k2, he, hbd⟩ := ints_form l0
  have hb : b = num (k : Int) ++ (num (l0.length : Int) ++ (body ++ r)) := by rw [h, he]; simp only [List.append_assoc]
  have r1 := rd1 (b := b) (e := 0) (z := num (l0.length : Int) ++ (body ++ r)) (i64_nat (by omega : k ≤ 9223372036854775807)) rfl hb
  have r2 := rd1 (e := 0) (i64_nat (by omega : l0.length ≤ 9223372036854775807)) rfl (rfl : num (l0.length : Int) ++ (body ++ r) = _)
  rw [r1.1, r1.2.1, r1.2.2]
  rw [cnT_def]
  simp only
  rw [r2.1, r2.2.1, if_pos rfl, if_neg (by omega), if_neg (by omega), if_pos rfl]
  exact ⟨rfl, k, k1, k2, rfl, rfl, fun hne => by rw [hb, hbd hne]⟩
theorem rd_heads {b : By} (h : (cnT (b.drop (rnT b 0).2.1) (rnT b 0).2.2 512 5).2.2 = 0) : ∃ (n : Nat) (rest : By), n ≤ 512 ∧ (cnT (b.drop (rnT b 0).2.1) (rnT b 0).2.2 512 5).1 = (n : Int) ∧ I64 (rnT b 0).1 ∧ b = num (rnT b 0).1 ++ (num (n : Int) ++ rest) := by
  have hr := cnT_rng (b.drop (rnT b 0).2.1) (rnT b 0).2.2 512 5 (by decide) (by decide)
  have h2 := hr.2.2.2 h
  have o2 := (rnT_ok (b.drop (rnT b 0).2.1) (rnT b 0).2.2).2.2.1 h2.1
  have o1 := rnT_ok b 0
  have o3 := o1.2.2.1 o2.1
  refine ⟨(cnT (b.drop (rnT b 0).2.1) (rnT b 0).2.2 512 5).1.toNat, (b.drop (rnT b 0).2.1).drop (rnT (b.drop (rnT b 0).2.1) (rnT b 0).2.2).2.1, by omega, by omega, o1.1, ?_⟩
  have e : (((cnT (b.drop (rnT b 0).2.1) (rnT b 0).2.2 512 5).1.toNat : Nat) : Int) = (rnT (b.drop (rnT b 0).2.1) (rnT b 0).2.2).1 := by omega
  rw [e, ← o2.2.1]
  exact o3.2.1
/-- what ReadInts answers -/
def RIs (b : By) (l : Li) (n : Nat) (e : Int) : Prop := AllI l ∧ l.length ≤ 512 ∧ ((e = 0 ∧ n = (ints l).length ∧ b.take (ints l).length = ints l) ∨ (e = 1 ∧ l = [] ∧ n = 0)) ∧ Gd b fun l0 _ => e = 0 ∧ l = l0
def RIa (b : By) (a : AV) (m : Nat) (H : AHeap) : Prop := ∃ l n e, RIs b l n e ∧ a = .tup [li l, iv (n : Nat), iv e] ∧ m = 0 ∧ H = []
theorem RIs.bad {b : By} (h : Gd b fun _ _ => False) : RIs b [] 0 1 := ⟨AllI.nil, Nat.zero_le _, .inr ⟨rfl, rfl, rfl⟩, fun l0 r ha hl hb => (h l0 r ha hl hb).elim⟩
theorem RIs.two (b : By) {l : Li} {n : Nat} {e : Int} (h1 : RIs b l n e) {l' : Li} {n' : Nat} {e' : Int} (h2 : RIs b l' n' e') : l = l' ∧ n = n' ∧ e = e' := by
  obtain ⟨a1, a2, a3, a4⟩ := h1
  obtain ⟨b1, b2, b3, b4⟩ := h2
  rcases a3 with ⟨rfl, rfl, p1⟩ | ⟨rfl, rfl, rfl⟩
  · have := b4 l (b.drop (ints l).length) a1 a2 (by rw [← p1]; rw [p1]; conv => lhs; rw [← List.take_append_drop (ints l).length b, p1])
    obtain ⟨rfl, rfl⟩ := this
    rcases b3 with ⟨_, rfl, _⟩ | ⟨h, _⟩
    · exact ⟨rfl, rfl, rfl⟩
    · omega
  · rcases b3 with ⟨rfl, rfl, p1⟩ | ⟨rfl, rfl, rfl⟩
    · have := a4 l' (b.drop (ints l').length) b1 b2 (by conv => lhs; rw [← List.take_append_drop (ints l').length b, p1])
      omega
    · exact ⟨rfl, rfl, rfl⟩
theorem readsA (b : By) (n : Nat) (hb : b.length ≤ 3000000) (hn : n ≤ 512) : (AFn Tryz.prog GC 63 [bs b, iv n] 0 [] (DecA (bd 1) b n)) ∧ (AFn Tryz.prog GC 65 [bs b, iv n] 0 [] (DecA (bd 2) b n)) ∧ (AFn Tryz.prog GC 67 [bs b, iv n] 0 [] (DecA (bd 3) b n)) ∧ (AFn Tryz.prog GC 69 [bs b, iv n] 0 [] (DecA (bd 4) b n)) ∧ (AFn Tryz.prog GC 71 [bs b, iv n] 0 [] (DecA (bd 5) b n)) :=
  ⟨readPlainA b n hb hn, readRunsA b n hb hn, readStepsA b n hb hn, readIndexA b n hb hn, readBitsA b n hb hn⟩
attribute [local irreducible] best ints en bd
set_option maxHeartbeats 16000000 in
set_option maxRecDepth 100000 in
theorem readIntsA (b : By) (hb : b.length ≤ 100000) : AFn Tryz.prog GC 58 [bs b] 0 [] (RIa b) := by
  have hhead := gd_head b
  have hrd := rd_heads (b := b)
  have hN := numberA b 0 (by omega)
  have hC := countA (b.drop (rnT b 0).2.1) (rnT b 0).2.2 512 (drop_le (by omega)) (by decide)
  generalize hc : cnT (b.drop (rnT b 0).2.1) (rnT b 0).2.2 512 5 = t at *
  obtain ⟨nn, j2, e2⟩ := t
  simp only at hhead hrd hC
  generalize (rnT b 0).1 = kk at *
  generalize hb1 : b.drop (rnT b 0).2.1 = b1' at *
  generalize (rnT b 0).2.2 = e1 at *
  generalize b1'.drop j2 = b2' at *
  clear hc hb1
  refine afn_of Tryz.func58 rfl mixed (by kernel_rfl) ?_
  conv => whnf
  (refine acallF [] (by kernel_rfl) (newA b (by omega)) ?_ ?_; (focus (repeat' (first | rfl | trivial | apply And.intro))))
  rintro _ _ _ ⟨rfl, rfl, rfl⟩
  conv => whnf
  refine acallM [0] [] (by kernel_rfl) hN rfl (by repeat' (first | rfl | trivial | apply And.intro)) (by repeat' (first | rfl | trivial | apply And.intro)) ?_
  rintro _ _ _ ⟨rfl, rfl, rfl⟩
  refine ⟨rfl, ?_⟩
  conv => whnf
  refine acallM [0] [] (by kernel_rfl) hC rfl (by repeat' (first | rfl | trivial | apply And.intro)) (by repeat' (first | rfl | trivial | apply And.intro)) ?_
  rintro _ _ _ ⟨rfl, rfl, rfl⟩
  refine ⟨rfl, ?_⟩
  conv => whnf
  refine acallM [0] [] (by kernel_rfl) (errA b2' e2) rfl (by repeat' (first | rfl | trivial | apply And.intro)) (by repeat' (first | rfl | trivial | apply And.intro)) ?_
  rintro _ _ _ ⟨rfl, rfl, rfl⟩
  refine ⟨rfl, ?_⟩
  conv => whnf
  refine vif_split (fun h => ?_) (fun h => ?_)
  · have he : e2 ≠ 0 := by simpa using h
    conv => whnf
    exact aend (.tup [li [], iv (0 : Nat), iv 1]) 0 [] [] [] ⟨[], 0, 1, (RIs.bad fun l0 r ha hl h => he (hhead l0 r ha hl h).1), rfl, rfl, rfl⟩ rfl trivial (by repeat' (first | rfl | trivial | apply And.intro))
  have he : e2 = 0 := by simpa using h
  subst he
  conv => whnf
  refine vif_split (fun h => ?_) (fun h => ?_)
  · have hk : kk < 1 := by simpa using h
    conv => whnf
    exact aend (.tup [li [], iv (0 : Nat), iv 1]) 0 [] [] [] ⟨[], 0, 1, (RIs.bad fun l0 r ha hl h => by obtain ⟨_, k, k1, k2, k3, _⟩ := hhead l0 r ha hl h; omega), rfl, rfl, rfl⟩ rfl trivial (by repeat' (first | rfl | trivial | apply And.intro))
  have hk1 : 1 ≤ kk := by simp at h; omega
  conv => whnf
  refine vif_split (fun h => ?_) (fun h => ?_)
  · have hk : 5 < kk := by simpa using h
    conv => whnf
    exact aend (.tup [li [], iv (0 : Nat), iv 1]) 0 [] [] [] ⟨[], 0, 1, (RIs.bad fun l0 r ha hl h => by obtain ⟨_, k, k1, k2, k3, _⟩ := hhead l0 r ha hl h; omega), rfl, rfl, rfl⟩ rfl trivial (by repeat' (first | rfl | trivial | apply And.intro))
  have hk2 : kk ≤ 5 := by simp at h; omega
  obtain ⟨n, rest, hn, rfl, hi, hbe⟩ := hrd rfl
  have n1 := (num_len kk).2
  have n2 := (num_len (n : Int)).2
  have hbl := congrArg List.length hbe
  simp only [List.length_append] at hbl
  conv => whnf
  refine vif_split (fun h => ?_) (fun h => ?_)
  · have hn0 : 0 < n := by simp at h; omega
    have hdrop : (b.map enB).drop (num kk ++ num (n : Int)).length = rest.map enB := by
      rw [← List.map_drop, hbe, ← List.append_assoc, List.drop_left]
    have hcs : kk = 1 ∨ kk = 2 ∨ kk = 3 ∨ kk = 4 ∨ kk = 5 := by omega
    have hreads := readsA rest n (by omega) hn
    rcases hcs with rfl | rfl | rfl | rfl | rfl
    · conv => whnf
      have hread := hreads.1
      (refine adraw pln58 [1, 2] (by kernel_rfl) ?_; conv => whnf)
      refine AAr.i64 (by decide) ?_
      conv => whnf
      (refine acallF [] (by kernel_rfl) (codecsA) ?_ ?_; (focus (repeat' (first | rfl | trivial | apply And.intro))))
      rintro _ _ _ ⟨rfl, rfl, rfl⟩
      conv => whnf
      refine AIn.mk' (1 - 1) rfl (by decide) ?_
      conv => whnf
      (refine acallF [] (by kernel_rfl) (putA [] 1 hi (by simp)) ?_ ?_; (focus (repeat' (first | rfl | trivial | apply And.intro))))
      rintro _ _ _ ⟨rfl, rfl, rfl⟩
      conv => whnf
      (refine acallF [1] (by kernel_rfl) (putA (num 1) (n : Int) (i64_nat (by omega)) (by omega)) ?_ ?_; (focus (repeat' (first | rfl | trivial | apply And.intro))))
      rintro _ _ _ ⟨rfl, rfl, rfl⟩
      conv => whnf
      refine ABd.mk' (num 1 ++ num (n : Int)).length b.length (by rw [List.length_map]) (by rw [List.length_map]) (by rw [List.length_append]; omega) (by rw [List.length_map]; exact Nat.le_refl _) ?_
      rw [show cut (some (AV.v (.int .i64 (((num 1 ++ num (n : Int)).map enB).length : Nat)))) none (num 1 ++ num (n : Int)).length b.length (b.map enB) = rest.map enB from hdrop]
      conv => whnf
      (refine acallF [] (by kernel_rfl) (hread) ?_ ?_; (focus (repeat' (first | rfl | trivial | apply And.intro))))
      rintro _ _ _ ⟨l, ok, hd, rfl, rfl, rfl⟩
      have hll := hd.2.1
      have hgood : Gd b fun l0 _ => ok = true ∧ l = l0 := fun l0 r ha hl h => by
        obtain ⟨_, k, k1, k2, k3, k4, k5⟩ := hhead l0 r ha hl h
        have e1 : k = 1 := by omega
        have e2 : l0.length = n := by omega
        have hne : l0 ≠ [] := fun e => by subst e; simp at e2; omega
        have h5 := k5 hne
        rw [e1, e2] at h5
        rw [hbe] at h5
        have h5 := List.append_cancel_left (List.append_cancel_left h5)
        exact hd.2.2 l0 r ha e2 h5
      conv => whnf
      cases ok
      · conv => whnf
        exact aend (.tup [li [], iv (0 : Nat), iv 1]) 0 [] [] [] ⟨[], 0, 1, RIs.bad fun l0 r ha hl h => absurd (hgood l0 r ha hl h).1 (by decide), rfl, rfl, rfl⟩ rfl trivial (by repeat' (first | rfl | trivial | apply And.intro))
      conv => whnf
      have hI := intsA l hd.1 (by omega)
      have hpre := prefixA b (ints l)
      (refine acallF [3] (by kernel_rfl) (hI) ?_ ?_; (focus (repeat' (first | rfl | trivial | apply And.intro))))
      rintro _ _ _ ⟨rfl, rfl, rfl⟩
      conv => whnf
      (refine acall [] (by kernel_rfl) (hpre) rfl ?_ ?_; (focus (repeat' (first | rfl | trivial | apply And.intro))))
      conv => whnf
      refine vif_split (fun h => ?_) (fun h => ?_)
      · have hp : ¬ b.take (ints l).length = ints l := by simpa using h
        conv => whnf
        exact aend (.tup [li [], iv (0 : Nat), iv 1]) 0 [] [] [] ⟨[], 0, 1, RIs.bad fun l0 r ha hl h => hp (by rw [(hgood l0 r ha hl h).2, h, List.take_left]), rfl, rfl, rfl⟩ rfl trivial (by repeat' (first | rfl | trivial | apply And.intro))
      · have hp : b.take (ints l).length = ints l := by simpa using h
        conv => whnf
        exact aend (.tup [li l, iv ((ints l).length : Nat), iv 0]) 0 [] [] [] ⟨l, (ints l).length, 0, ⟨hd.1, by omega, .inl ⟨rfl, rfl, hp⟩, fun l0 r ha hl h => ⟨rfl, (hgood l0 r ha hl h).2⟩⟩, rfl, rfl, rfl⟩ rfl trivial ⟨⟨rfl, rfl⟩, congrArg (fun n : Nat => Value.int .i64 (n : Int)) (List.length_map _), rfl, trivial⟩
    · conv => whnf
      have hread := hreads.2.1
      (refine adraw pln58 [1, 2] (by kernel_rfl) ?_; conv => whnf)
      refine AAr.i64 (by decide) ?_
      conv => whnf
      (refine acallF [] (by kernel_rfl) (codecsA) ?_ ?_; (focus (repeat' (first | rfl | trivial | apply And.intro))))
      rintro _ _ _ ⟨rfl, rfl, rfl⟩
      conv => whnf
      refine AIn.mk' (2 - 1) rfl (by decide) ?_
      conv => whnf
      (refine acallF [] (by kernel_rfl) (putA [] 2 hi (by simp)) ?_ ?_; (focus (repeat' (first | rfl | trivial | apply And.intro))))
      rintro _ _ _ ⟨rfl, rfl, rfl⟩
      conv => whnf
      (refine acallF [1] (by kernel_rfl) (putA (num 2) (n : Int) (i64_nat (by omega)) (by omega)) ?_ ?_; (focus (repeat' (first | rfl | trivial | apply And.intro))))
      rintro _ _ _ ⟨rfl, rfl, rfl⟩
      conv => whnf
      refine ABd.mk' (num 2 ++ num (n : Int)).length b.length (by rw [List.length_map]) (by rw [List.length_map]) (by rw [List.length_append]; omega) (by rw [List.length_map]; exact Nat.le_refl _) ?_
      rw [show cut (some (AV.v (.int .i64 (((num 2 ++ num (n : Int)).map enB).length : Nat)))) none (num 2 ++ num (n : Int)).length b.length (b.map enB) = rest.map enB from hdrop]
      conv => whnf
      (refine acallF [] (by kernel_rfl) (hread) ?_ ?_; (focus (repeat' (first | rfl | trivial | apply And.intro))))
      rintro _ _ _ ⟨l, ok, hd, rfl, rfl, rfl⟩
      have hll := hd.2.1
      have hgood : Gd b fun l0 _ => ok = true ∧ l = l0 := fun l0 r ha hl h => by
        obtain ⟨_, k, k1, k2, k3, k4, k5⟩ := hhead l0 r ha hl h
        have e1 : k = 2 := by omega
        have e2 : l0.length = n := by omega
        have hne : l0 ≠ [] := fun e => by subst e; simp at e2; omega
        have h5 := k5 hne
        rw [e1, e2] at h5
        rw [hbe] at h5
        have h5 := List.append_cancel_left (List.append_cancel_left h5)
        exact hd.2.2 l0 r ha e2 h5
      conv => whnf
      cases ok
      · conv => whnf
        exact aend (.tup [li [], iv (0 : Nat), iv 1]) 0 [] [] [] ⟨[], 0, 1, RIs.bad fun l0 r ha hl h => absurd (hgood l0 r ha hl h).1 (by decide), rfl, rfl, rfl⟩ rfl trivial (by repeat' (first | rfl | trivial | apply And.intro))
      conv => whnf
      have hI := intsA l hd.1 (by omega)
      have hpre := prefixA b (ints l)
      (refine acallF [3] (by kernel_rfl) (hI) ?_ ?_; (focus (repeat' (first | rfl | trivial | apply And.intro))))
      rintro _ _ _ ⟨rfl, rfl, rfl⟩
      conv => whnf
      (refine acall [] (by kernel_rfl) (hpre) rfl ?_ ?_; (focus (repeat' (first | rfl | trivial | apply And.intro))))
      conv => whnf
      refine vif_split (fun h => ?_) (fun h => ?_)
      · have hp : ¬ b.take (ints l).length = ints l := by simpa using h
        conv => whnf
        exact aend (.tup [li [], iv (0 : Nat), iv 1]) 0 [] [] [] ⟨[], 0, 1, RIs.bad fun l0 r ha hl h => hp (by rw [(hgood l0 r ha hl h).2, h, List.take_left]), rfl, rfl, rfl⟩ rfl trivial (by repeat' (first | rfl | trivial | apply And.intro))
      · have hp : b.take (ints l).length = ints l := by simpa using h
        conv => whnf
        exact aend (.tup [li l, iv ((ints l).length : Nat), iv 0]) 0 [] [] [] ⟨l, (ints l).length, 0, ⟨hd.1, by omega, .inl ⟨rfl, rfl, hp⟩, fun l0 r ha hl h => ⟨rfl, (hgood l0 r ha hl h).2⟩⟩, rfl, rfl, rfl⟩ rfl trivial ⟨⟨rfl, rfl⟩, congrArg (fun n : Nat => Value.int .i64 (n : Int)) (List.length_map _), rfl, trivial⟩
    · conv => whnf
      have hread := hreads.2.2.1
      (refine adraw pln58 [1, 2] (by kernel_rfl) ?_; conv => whnf)
      refine AAr.i64 (by decide) ?_
      conv => whnf
      (refine acallF [] (by kernel_rfl) (codecsA) ?_ ?_; (focus (repeat' (first | rfl | trivial | apply And.intro))))
      rintro _ _ _ ⟨rfl, rfl, rfl⟩
      conv => whnf
      refine AIn.mk' (3 - 1) rfl (by decide) ?_
      conv => whnf
      (refine acallF [] (by kernel_rfl) (putA [] 3 hi (by simp)) ?_ ?_; (focus (repeat' (first | rfl | trivial | apply And.intro))))
      rintro _ _ _ ⟨rfl, rfl, rfl⟩
      conv => whnf
      (refine acallF [1] (by kernel_rfl) (putA (num 3) (n : Int) (i64_nat (by omega)) (by omega)) ?_ ?_; (focus (repeat' (first | rfl | trivial | apply And.intro))))
      rintro _ _ _ ⟨rfl, rfl, rfl⟩
      conv => whnf
      refine ABd.mk' (num 3 ++ num (n : Int)).length b.length (by rw [List.length_map]) (by rw [List.length_map]) (by rw [List.length_append]; omega) (by rw [List.length_map]; exact Nat.le_refl _) ?_
      rw [show cut (some (AV.v (.int .i64 (((num 3 ++ num (n : Int)).map enB).length : Nat)))) none (num 3 ++ num (n : Int)).length b.length (b.map enB) = rest.map enB from hdrop]
      conv => whnf
      (refine acallF [] (by kernel_rfl) (hread) ?_ ?_; (focus (repeat' (first | rfl | trivial | apply And.intro))))
      rintro _ _ _ ⟨l, ok, hd, rfl, rfl, rfl⟩
      have hll := hd.2.1
      have hgood : Gd b fun l0 _ => ok = true ∧ l = l0 := fun l0 r ha hl h => by
        obtain ⟨_, k, k1, k2, k3, k4, k5⟩ := hhead l0 r ha hl h
        have e1 : k = 3 := by omega
        have e2 : l0.length = n := by omega
        have hne : l0 ≠ [] := fun e => by subst e; simp at e2; omega
        have h5 := k5 hne
        rw [e1, e2] at h5
        rw [hbe] at h5
        have h5 := List.append_cancel_left (List.append_cancel_left h5)
        exact hd.2.2 l0 r ha e2 h5
      conv => whnf
      cases ok
      · conv => whnf
        exact aend (.tup [li [], iv (0 : Nat), iv 1]) 0 [] [] [] ⟨[], 0, 1, RIs.bad fun l0 r ha hl h => absurd (hgood l0 r ha hl h).1 (by decide), rfl, rfl, rfl⟩ rfl trivial (by repeat' (first | rfl | trivial | apply And.intro))
      conv => whnf
      have hI := intsA l hd.1 (by omega)
      have hpre := prefixA b (ints l)
      (refine acallF [3] (by kernel_rfl) (hI) ?_ ?_; (focus (repeat' (first | rfl | trivial | apply And.intro))))
      rintro _ _ _ ⟨rfl, rfl, rfl⟩
      conv => whnf
      (refine acall [] (by kernel_rfl) (hpre) rfl ?_ ?_; (focus (repeat' (first | rfl | trivial | apply And.intro))))
      conv => whnf
      refine vif_split (fun h => ?_) (fun h => ?_)
      · have hp : ¬ b.take (ints l).length = ints l := by simpa using h
        conv => whnf
        exact aend (.tup [li [], iv (0 : Nat), iv 1]) 0 [] [] [] ⟨[], 0, 1, RIs.bad fun l0 r ha hl h => hp (by rw [(hgood l0 r ha hl h).2, h, List.take_left]), rfl, rfl, rfl⟩ rfl trivial (by repeat' (first | rfl | trivial | apply And.intro))
      · have hp : b.take (ints l).length = ints l := by simpa using h
        conv => whnf
        exact aend (.tup [li l, iv ((ints l).length : Nat), iv 0]) 0 [] [] [] ⟨l, (ints l).length, 0, ⟨hd.1, by omega, .inl ⟨rfl, rfl, hp⟩, fun l0 r ha hl h => ⟨rfl, (hgood l0 r ha hl h).2⟩⟩, rfl, rfl, rfl⟩ rfl trivial ⟨⟨rfl, rfl⟩, congrArg (fun n : Nat => Value.int .i64 (n : Int)) (List.length_map _), rfl, trivial⟩
    · conv => whnf
      have hread := hreads.2.2.2.1
      (refine adraw pln58 [1, 2] (by kernel_rfl) ?_; conv => whnf)
      refine AAr.i64 (by decide) ?_
      conv => whnf
      (refine acallF [] (by kernel_rfl) (codecsA) ?_ ?_; (focus (repeat' (first | rfl | trivial | apply And.intro))))
      rintro _ _ _ ⟨rfl, rfl, rfl⟩
      conv => whnf
      refine AIn.mk' (4 - 1) rfl (by decide) ?_
      conv => whnf
      (refine acallF [] (by kernel_rfl) (putA [] 4 hi (by simp)) ?_ ?_; (focus (repeat' (first | rfl | trivial | apply And.intro))))
      rintro _ _ _ ⟨rfl, rfl, rfl⟩
      conv => whnf
      (refine acallF [1] (by kernel_rfl) (putA (num 4) (n : Int) (i64_nat (by omega)) (by omega)) ?_ ?_; (focus (repeat' (first | rfl | trivial | apply And.intro))))
      rintro _ _ _ ⟨rfl, rfl, rfl⟩
      conv => whnf
      refine ABd.mk' (num 4 ++ num (n : Int)).length b.length (by rw [List.length_map]) (by rw [List.length_map]) (by rw [List.length_append]; omega) (by rw [List.length_map]; exact Nat.le_refl _) ?_
      rw [show cut (some (AV.v (.int .i64 (((num 4 ++ num (n : Int)).map enB).length : Nat)))) none (num 4 ++ num (n : Int)).length b.length (b.map enB) = rest.map enB from hdrop]
      conv => whnf
      (refine acallF [] (by kernel_rfl) (hread) ?_ ?_; (focus (repeat' (first | rfl | trivial | apply And.intro))))
      rintro _ _ _ ⟨l, ok, hd, rfl, rfl, rfl⟩
      have hll := hd.2.1
      have hgood : Gd b fun l0 _ => ok = true ∧ l = l0 := fun l0 r ha hl h => by
        obtain ⟨_, k, k1, k2, k3, k4, k5⟩ := hhead l0 r ha hl h
        have e1 : k = 4 := by omega
        have e2 : l0.length = n := by omega
        have hne : l0 ≠ [] := fun e => by subst e; simp at e2; omega
        have h5 := k5 hne
        rw [e1, e2] at h5
        rw [hbe] at h5
        have h5 := List.append_cancel_left (List.append_cancel_left h5)
        exact hd.2.2 l0 r ha e2 h5
      conv => whnf
      cases ok
      · conv => whnf
        exact aend (.tup [li [], iv (0 : Nat), iv 1]) 0 [] [] [] ⟨[], 0, 1, RIs.bad fun l0 r ha hl h => absurd (hgood l0 r ha hl h).1 (by decide), rfl, rfl, rfl⟩ rfl trivial (by repeat' (first | rfl | trivial | apply And.intro))
      conv => whnf
      have hI := intsA l hd.1 (by omega)
      have hpre := prefixA b (ints l)
      (refine acallF [3] (by kernel_rfl) (hI) ?_ ?_; (focus (repeat' (first | rfl | trivial | apply And.intro))))
      rintro _ _ _ ⟨rfl, rfl, rfl⟩
      conv => whnf
      (refine acall [] (by kernel_rfl) (hpre) rfl ?_ ?_; (focus (repeat' (first | rfl | trivial | apply And.intro))))
      conv => whnf
      refine vif_split (fun h => ?_) (fun h => ?_)
      · have hp : ¬ b.take (ints l).length = ints l := by simpa using h
        conv => whnf
        exact aend (.tup [li [], iv (0 : Nat), iv 1]) 0 [] [] [] ⟨[], 0, 1, RIs.bad fun l0 r ha hl h => hp (by rw [(hgood l0 r ha hl h).2, h, List.take_left]), rfl, rfl, rfl⟩ rfl trivial (by repeat' (first | rfl | trivial | apply And.intro))
      · have hp : b.take (ints l).length = ints l := by simpa using h
        conv => whnf
        exact aend (.tup [li l, iv ((ints l).length : Nat), iv 0]) 0 [] [] [] ⟨l, (ints l).length, 0, ⟨hd.1, by omega, .inl ⟨rfl, rfl, hp⟩, fun l0 r ha hl h => ⟨rfl, (hgood l0 r ha hl h).2⟩⟩, rfl, rfl, rfl⟩ rfl trivial ⟨⟨rfl, rfl⟩, congrArg (fun n : Nat => Value.int .i64 (n : Int)) (List.length_map _), rfl, trivial⟩
    · conv => whnf
      have hread := hreads.2.2.2.2
      (refine adraw pln58 [1, 2] (by kernel_rfl) ?_; conv => whnf)
      refine AAr.i64 (by decide) ?_
      conv => whnf
      (refine acallF [] (by kernel_rfl) (codecsA) ?_ ?_; (focus (repeat' (first | rfl | trivial | apply And.intro))))
      rintro _ _ _ ⟨rfl, rfl, rfl⟩
      conv => whnf
      refine AIn.mk' (5 - 1) rfl (by decide) ?_
      conv => whnf
      (refine acallF [] (by kernel_rfl) (putA [] 5 hi (by simp)) ?_ ?_; (focus (repeat' (first | rfl | trivial | apply And.intro))))
      rintro _ _ _ ⟨rfl, rfl, rfl⟩
      conv => whnf
      (refine acallF [1] (by kernel_rfl) (putA (num 5) (n : Int) (i64_nat (by omega)) (by omega)) ?_ ?_; (focus (repeat' (first | rfl | trivial | apply And.intro))))
      rintro _ _ _ ⟨rfl, rfl, rfl⟩
      conv => whnf
      refine ABd.mk' (num 5 ++ num (n : Int)).length b.length (by rw [List.length_map]) (by rw [List.length_map]) (by rw [List.length_append]; omega) (by rw [List.length_map]; exact Nat.le_refl _) ?_
      rw [show cut (some (AV.v (.int .i64 (((num 5 ++ num (n : Int)).map enB).length : Nat)))) none (num 5 ++ num (n : Int)).length b.length (b.map enB) = rest.map enB from hdrop]
      conv => whnf
      (refine acallF [] (by kernel_rfl) (hread) ?_ ?_; (focus (repeat' (first | rfl | trivial | apply And.intro))))
      rintro _ _ _ ⟨l, ok, hd, rfl, rfl, rfl⟩
      have hll := hd.2.1
      have hgood : Gd b fun l0 _ => ok = true ∧ l = l0 := fun l0 r ha hl h => by
        obtain ⟨_, k, k1, k2, k3, k4, k5⟩ := hhead l0 r ha hl h
        have e1 : k = 5 := by omega
        have e2 : l0.length = n := by omega
        have hne : l0 ≠ [] := fun e => by subst e; simp at e2; omega
        have h5 := k5 hne
        rw [e1, e2] at h5
        rw [hbe] at h5
        have h5 := List.append_cancel_left (List.append_cancel_left h5)
        exact hd.2.2 l0 r ha e2 h5
      conv => whnf
      cases ok
      · conv => whnf
        exact aend (.tup [li [], iv (0 : Nat), iv 1]) 0 [] [] [] ⟨[], 0, 1, RIs.bad fun l0 r ha hl h => absurd (hgood l0 r ha hl h).1 (by decide), rfl, rfl, rfl⟩ rfl trivial (by repeat' (first | rfl | trivial | apply And.intro))
      conv => whnf
      have hI := intsA l hd.1 (by omega)
      have hpre := prefixA b (ints l)
      (refine acallF [3] (by kernel_rfl) (hI) ?_ ?_; (focus (repeat' (first | rfl | trivial | apply And.intro))))
      rintro _ _ _ ⟨rfl, rfl, rfl⟩
      conv => whnf
      (refine acall [] (by kernel_rfl) (hpre) rfl ?_ ?_; (focus (repeat' (first | rfl | trivial | apply And.intro))))
      conv => whnf
      refine vif_split (fun h => ?_) (fun h => ?_)
      · have hp : ¬ b.take (ints l).length = ints l := by simpa using h
        conv => whnf
        exact aend (.tup [li [], iv (0 : Nat), iv 1]) 0 [] [] [] ⟨[], 0, 1, RIs.bad fun l0 r ha hl h => hp (by rw [(hgood l0 r ha hl h).2, h, List.take_left]), rfl, rfl, rfl⟩ rfl trivial (by repeat' (first | rfl | trivial | apply And.intro))
      · have hp : b.take (ints l).length = ints l := by simpa using h
        conv => whnf
        exact aend (.tup [li l, iv ((ints l).length : Nat), iv 0]) 0 [] [] [] ⟨l, (ints l).length, 0, ⟨hd.1, by omega, .inl ⟨rfl, rfl, hp⟩, fun l0 r ha hl h => ⟨rfl, (hgood l0 r ha hl h).2⟩⟩, rfl, rfl, rfl⟩ rfl trivial ⟨⟨rfl, rfl⟩, congrArg (fun n : Nat => Value.int .i64 (n : Int)) (List.length_map _), rfl, trivial⟩
  · have hn0 : n = 0 := by simp at h; omega
    subst hn0
    conv => whnf
    have hI := intsA [] AllI.nil (by decide)
    (refine acallF [] (by kernel_rfl) (hI) ?_ ?_; (focus (repeat' (first | rfl | trivial | apply And.intro))))
    rintro _ _ _ ⟨rfl, rfl, rfl⟩
    conv => whnf
    have hpre := prefixA b (ints [])
    (refine acall [] (by kernel_rfl) (hpre) rfl ?_ ?_; (focus (repeat' (first | rfl | trivial | apply And.intro))))
    conv => whnf
    refine vif_split (fun h => ?_) (fun h => ?_)
    · have hp : ¬ b.take (ints []).length = ints [] := by simpa using h
      conv => whnf
      exact aend (.tup [li [], iv (0 : Nat), iv 1]) 0 [] [] [] ⟨[], 0, 1, (RIs.bad fun l0 r ha hl h => by
        obtain ⟨_, k, k1, k2, k3, k4, _⟩ := hhead l0 r ha hl h
        have e0 : l0 = [] := List.eq_nil_of_length_eq_zero (by omega)
        subst e0
        exact hp (by rw [h, List.take_left])), rfl, rfl, rfl⟩ rfl trivial (by repeat' (first | rfl | trivial | apply And.intro))
    · have hp : b.take (ints []).length = ints [] := by simpa using h
      conv => whnf
      refine aend (.tup [li [], iv ((ints []).length : Nat), iv 0]) 0 [] [] [] ⟨[], (ints []).length, 0, ⟨AllI.nil, Nat.zero_le _, .inl ⟨rfl, rfl, hp⟩, fun l0 r ha hl h => ?_⟩, rfl, rfl, rfl⟩ rfl trivial ?_
      · obtain ⟨_, k, k1, k2, k3, k4, _⟩ := hhead l0 r ha hl h
        exact ⟨rfl, (List.eq_nil_of_length_eq_zero (by omega)).symm⟩
      · exact ⟨rfl, congrArg (fun n : Nat => Value.int .i64 (n : Int)) (List.length_map _), rfl, trivial⟩
end Go.Proofs.YtmhpfadbmpipkaaGreatDoor.Cl
