/- The walks of both readers' Text. Condition: sizes. The walk of column.ReadTexts. Condition: at most 100000 bytes. -/
import Derived.Test.YtmhpfadbmpipkaaGreatDoorCt3
import Derived.Test.YtmhpfadbmpipkaaGreatDoorCl23
set_option linter.unusedVariables false
set_option linter.unusedSimpArgs false
namespace Go.Proofs.YtmhpfadbmpipkaaGreatDoor.Cl
open Go Go.RowKit Go.Proofs Go.Proofs.YtmhpfadbmpipkaaGreatDoor.Vc Go.Proofs.YtmhpfadbmpipkaaGreatDoor.Ax
attribute [local irreducible] loadVar storeVar Instr.indexAt Instr.index Instr.sliceAt Instr.makeSlice Instr.lookup Instr.mapUpdate Instr.range Instr.next Instr.entry Instr.makeMap Builtin.append_ Builtin.copy_ Builtin.len_ Builtin.min_ Builtin.max_ Builtin.cap_ Builtin.delete_ Builtin.clear_ convert binOp eqGuard Op.unary Calls
set_option maxHeartbeats 4000000 in
set_option maxRecDepth 100000 in
theorem takeA (b : By) (n : Nat) (hn : n ≤ 200) : AFn Tryz.prog GC 115 [.ptr 0 0, iv n] 1 [(0, rdB b 0)] (fun a m H => a = bs (if n ≤ b.length then b.take n else []) ∧ m = 1 ∧ H = [(0, rdB (if n ≤ b.length then b.drop n else b) (if n ≤ b.length then 0 else 16))]) := by
  refine afn_of Tryz.func115 rfl mixed (by kernel_rfl) ?_
  conv => whnf
  refine vif_split (fun h => ?_) (fun h => ?_)
  · have hl : ¬ n ≤ b.length := by simp at h; omega
    simp only [hl, if_false]
    conv => whnf
    exact aend (bs []) 1 [(0, rdB b 16)] [] [] ⟨rfl, rfl, rfl⟩ rfl (by repeat' (first | rfl | trivial | apply And.intro)) (by repeat' (first | rfl | trivial | apply And.intro))
  have hl : n ≤ b.length := by simp at h; omega
  simp only [hl, if_true]
  conv => whnf
  refine VReq.mk ⟨Int.le_refl _, by rw [List.length_map]; omega⟩ ?_
  refine ABd.mk' 0 n rfl rfl (Nat.zero_le _) (by rw [List.length_map]; exact hl) ?_
  conv => whnf
  refine ABd.mk' n b.length rfl (by rw [List.length_map]) hl (by rw [List.length_map]; exact Nat.le_refl _) ?_
  conv => whnf
  exact aend (bs (b.take n)) 1 [(0, rdB (b.drop n) 0)] [] [] ⟨rfl, rfl, rfl⟩ rfl ⟨⟨rfl, ⟨rfl, List.map_drop.symm⟩, rfl, trivial⟩, trivial⟩ ⟨rfl, List.map_take.symm⟩
set_option maxHeartbeats 4000000 in
set_option maxRecDepth 100000 in
theorem takeEA (b : By) (e : Int) (he : e ≠ 0) : AFn Tryz.prog GC 115 [.ptr 0 0, iv 0] 1 [(0, rdB b e)] (fun a m H => a = bs [] ∧ m = 1 ∧ H = [(0, rdB b e)]) := by
  refine afn_of Tryz.func115 rfl mixed (by kernel_rfl) ?_
  have hq : (e == 0) = false := by simpa using he
  conv => whnf
  rw [hq]
  conv => whnf
  refine vif_split (fun h => ?_) (fun h => ?_)
  rotate_left 1
  · exfalso; simp at h; exact he h
  conv => whnf
  exact aend (bs []) 1 [(0, rdB b e)] [] [] ⟨rfl, rfl, rfl⟩ rfl (by repeat' (first | rfl | trivial | apply And.intro)) (by repeat' (first | rfl | trivial | apply And.intro))
set_option maxHeartbeats 4000000 in
set_option maxRecDepth 100000 in
theorem textA (b : By) (e : Int) (hb : b.length ≤ 3000000) : AFn Tryz.prog GC 93 [.ptr 0 0, iv 200] 1 [(0, rdB b e)] (fun a n H => a = tv (txT b e).1 ∧ n = 1 ∧ H = [(0, rdB (b.drop (txT b e).2.1) (txT b e).2.2)]) := by
  have hL := lengthA b e 200 4 hb (by decide) (by decide)
  have hr := cnT_rng b e 200 4 (by decide) (by decide)
  have hz : (cnT b e 200 4).2.2 ≠ 0 → (cnT b e 200 4).1 = 0 := fun h => by rw [cnT_def] at h ⊢; simp only at h ⊢; rw [if_neg h]
  have hd := txT_def b e
  generalize cnT b e 200 4 = c at *
  obtain ⟨x, k, e'⟩ := c
  simp only at hL hr hz hd
  obtain ⟨n, rfl⟩ : ∃ n : Nat, x = (n : Int) := ⟨x.toNat, by omega⟩
  have hn : n ≤ 200 := by omega
  rw [Int.toNat_natCast] at hd
  by_cases he : e' = 0
  · subst he
    rw [if_pos rfl] at hd
    have hT := takeA (b.drop k) n hn
    by_cases h : n ≤ (b.drop k).length
    · have h2 : ¬ ((b.drop k).length : Int) < (n : Int) := by omega
      rw [if_neg h2] at hd
      rw [hd]
      simp only [h, if_true] at hT
      refine afn_of Tryz.func93 rfl mixed (by kernel_rfl) ?_
      conv => whnf
      refine acallM [0] [] (by kernel_rfl) hL rfl (by repeat' (first | rfl | trivial | apply And.intro)) (by repeat' (first | rfl | trivial | apply And.intro)) ?_
      rintro _ _ _ ⟨rfl, rfl, rfl⟩
      refine ⟨rfl, ?_⟩
      conv => whnf
      refine acallM [0] [] (by kernel_rfl) hT rfl (by repeat' (first | rfl | trivial | apply And.intro)) (by repeat' (first | rfl | trivial | apply And.intro)) ?_
      rintro _ _ _ ⟨rfl, rfl, rfl⟩
      refine ⟨rfl, ?_⟩
      conv => whnf
      refine ABy.of ?_
      conv => whnf
      exact aend (tv ((b.drop k).take n)) 1 [(0, rdB (b.drop (k + n)) 0)] [] [] ⟨rfl, rfl, rfl⟩ rfl ⟨⟨rfl, ⟨rfl, by rw [List.drop_drop]⟩, rfl, trivial⟩, trivial⟩ (by repeat' (first | rfl | trivial | apply And.intro))
    · have h2 : ((b.drop k).length : Int) < (n : Int) := by omega
      rw [if_pos h2] at hd
      rw [hd]
      simp only [h, if_false] at hT
      refine afn_of Tryz.func93 rfl mixed (by kernel_rfl) ?_
      conv => whnf
      refine acallM [0] [] (by kernel_rfl) hL rfl (by repeat' (first | rfl | trivial | apply And.intro)) (by repeat' (first | rfl | trivial | apply And.intro)) ?_
      rintro _ _ _ ⟨rfl, rfl, rfl⟩
      refine ⟨rfl, ?_⟩
      conv => whnf
      refine acallM [0] [] (by kernel_rfl) hT rfl (by repeat' (first | rfl | trivial | apply And.intro)) (by repeat' (first | rfl | trivial | apply And.intro)) ?_
      rintro _ _ _ ⟨rfl, rfl, rfl⟩
      refine ⟨rfl, ?_⟩
      conv => whnf
      refine ABy.of (s := []) ?_
      conv => whnf
      exact aend (tv []) 1 [(0, rdB (b.drop k) 16)] [] [] ⟨rfl, rfl, rfl⟩ rfl (by repeat' (first | rfl | trivial | apply And.intro)) (by repeat' (first | rfl | trivial | apply And.intro))
  · have h0 := hz he
    have hn0 : n = 0 := by omega
    subst hn0
    rw [if_neg he] at hd
    rw [hd]
    refine afn_of Tryz.func93 rfl mixed (by kernel_rfl) ?_
    conv => whnf
    refine acallM [0] [] (by kernel_rfl) hL rfl (by repeat' (first | rfl | trivial | apply And.intro)) (by repeat' (first | rfl | trivial | apply And.intro)) ?_
    rintro _ _ _ ⟨rfl, rfl, rfl⟩
    refine ⟨rfl, ?_⟩
    conv => whnf
    refine acallM [0] [] (by kernel_rfl) (takeEA (b.drop k) e' he) rfl (by repeat' (first | rfl | trivial | apply And.intro)) (by repeat' (first | rfl | trivial | apply And.intro)) ?_
    rintro _ _ _ ⟨rfl, rfl, rfl⟩
    refine ⟨rfl, ?_⟩
    conv => whnf
    refine ABy.of (s := []) ?_
    conv => whnf
    exact aend (tv []) 1 [(0, rdB (b.drop k) e')] [] [] ⟨rfl, rfl, rfl⟩ rfl (by repeat' (first | rfl | trivial | apply And.intro)) (by repeat' (first | rfl | trivial | apply And.intro))
end Go.Proofs.YtmhpfadbmpipkaaGreatDoor.Cl

namespace Go.Proofs.YtmhpfadbmpipkaaGreatDoor.Cl
open Go Go.RowKit Go.Proofs Go.Proofs.YtmhpfadbmpipkaaGreatDoor.Vc Go.Proofs.YtmhpfadbmpipkaaGreatDoor.Ax
attribute [local irreducible] loadVar storeVar Instr.indexAt Instr.index Instr.sliceAt Instr.makeSlice Instr.lookup Instr.mapUpdate Instr.range Instr.next Instr.entry Instr.makeMap Builtin.append_ Builtin.copy_ Builtin.len_ Builtin.min_ Builtin.max_ Builtin.cap_ Builtin.delete_ Builtin.clear_ convert binOp eqGuard Op.unary Calls
attribute [local irreducible] best ints en bd
def RTa (b : By) (a : AV) (m : Nat) (H : AHeap) : Prop := ∃ l n e, RTs b l n e ∧ a = .tup [tl l, iv (n : Nat), iv e] ∧ m = 0 ∧ H = []
structure TX where
  ks : Tx
  b : By
/-- how far the texts are read -/
def KI (b : By) (n : Nat) (e : Int) (x : TX) : Prop := x.ks.length ≤ n ∧ TOK x.ks ∧ (e = 0 → b = num (n : Int) ++ x.ks.flatMap putT ++ x.b) ∧ GT b fun l0 r => e = 0 ∧ (dsT l0).length = n ∧ QT l0 r x.ks x.b
set_option maxHeartbeats 16000000 in
set_option maxRecDepth 100000 in
theorem readTextsA (b : By) (hb : b.length ≤ 100000) : AFn Tryz.prog GC 57 [bs b] 0 [] (RTa b) := by
  have hC := countA b 0 512 (by omega) (by decide)
  have hcr := cnT_rng b 0 512 5 (by decide) (by decide)
  have hhead := gt_head b
  have ho := rnT_ok b 0
  have hz : (cnT b 0 512 5).2.2 ≠ 0 → (cnT b 0 512 5).1 = 0 := fun h => by rw [cnT_def] at h ⊢; simp only at h ⊢; rw [if_neg h]
  rw [← hcr.2.2.1] at ho
  generalize cnT b 0 512 5 = c at *
  obtain ⟨x, k, e⟩ := c
  simp only at hC hcr hhead hz ho
  obtain ⟨n, rfl⟩ : ∃ n : Nat, x = (n : Int) := ⟨x.toNat, by omega⟩
  have hn : n ≤ 512 := by omega
  have hk0 : KI b n e ⟨[], b.drop k⟩ := ⟨Nat.zero_le _, fun _ h => (by cases h), fun he => by
    have := hcr.2.2.2 he
    have h3 := (ho.2.2.1 this.1).2.1
    rw [← this.2] at h3
    simpa using h3, fun l0 r hl ht hb => by
    have := hhead l0 r hl ht hb
    exact ⟨this.1, by omega, this.2.2⟩⟩
  have hbl : (b.drop k).length ≤ 100000 := drop_le hb
  generalize b.drop k = b1' at *
  clear hhead hcr ho
  refine afn_of Tryz.func57 rfl mixed (by kernel_rfl) ?_
  conv => whnf
  (refine acallF [] (by kernel_rfl) (newA b (by omega)) ?_ ?_; (focus (repeat' (first | rfl | trivial | apply And.intro))))
  rintro _ _ _ ⟨rfl, rfl, rfl⟩
  conv => whnf
  refine acallM [0] [] (by kernel_rfl) hC rfl (by repeat' (first | rfl | trivial | apply And.intro)) (by repeat' (first | rfl | trivial | apply And.intro)) ?_
  rintro _ _ _ ⟨rfl, rfl, rfl⟩
  refine ⟨rfl, ?_⟩
  conv => whnf
  (refine acallF [] (by kernel_rfl) (putA [] (n : Int) (i64_nat (by omega)) (by simp)) ?_ ?_; (focus (repeat' (first | rfl | trivial | apply And.intro))))
  rintro _ _ _ ⟨rfl, rfl, rfl⟩
  conv => whnf
  refine aloop ws57_1 3 [7, 8, 25] (fun x : TX => [(7, iv ((num (n : Int) ++ x.ks.flatMap putT).length : Nat)), (8, .own 2), (25, iv x.ks.length)]) (fun x => [(2, .rows 9 1 (x.ks.map enT)), (0, rdB x.b e)]) (fun x => x.b.length ≤ 100000 ∧ KI b n e x) (fun x => n - x.ks.length) [(2, .nil)] [] ⟨[], b1'⟩ (by kernel_rfl) (fun _ => rfl) rfl ⟨hbl, hk0⟩ ⟨rfl, (by repeat' (first | rfl | trivial | apply And.intro)), trivial⟩ ⟨congrArg (fun n : Nat => Value.int .i64 (n : Int)) (by simp), trivial, rfl, trivial⟩ ?_
  rintro ⟨ks, b'⟩ ⟨hb', hK⟩
  change b'.length ≤ 100000 at hb'
  obtain ⟨k1, k2, k3, k4⟩ := hK
  change ks.length ≤ n at k1
  change TOK ks at k2
  change e = 0 → b = num (n : Int) ++ ks.flatMap putT ++ b' at k3
  change GT b fun l0 r => e = 0 ∧ (dsT l0).length = n ∧ QT l0 r ks b' at k4
  have hkl := keys_len ks k2
  have hnl := (num_len (n : Int)).2
  conv => whnf
  refine vif_split (fun h => ?_) (fun h => ?_)
  · have hlt : ks.length < n := by simp at h; omega
    have he : e = 0 := Classical.byContradiction fun he => by have := hz he; omega
    subst he
    have hT := textA b' 0 (by omega)
    have hto := txT_ok b' 0
    have hstep : GT b fun l0 r => (txT b' 0).2.2 = 0 ∧ QT l0 r (ks ++ [(txT b' 0).1]) (b'.drop (txT b' 0).2.1) := fun l0 r hl ht hbb => by
      have := k4 l0 r hl ht hbb
      exact this.2.2.step ht (by omega)
    generalize txT b' 0 = t at *
    obtain ⟨s, j, f⟩ := t
    simp only at hT hto hstep
    conv => whnf
    refine acallM [0] [] (by kernel_rfl) hT rfl (by repeat' (first | rfl | trivial | apply And.intro)) (by repeat' (first | rfl | trivial | apply And.intro)) ?_
    rintro _ _ _ ⟨rfl, rfl, rfl⟩
    refine ⟨rfl, ?_⟩
    conv => whnf
    refine acallM [0] [] (by kernel_rfl) (errA (b'.drop j) f) rfl (by repeat' (first | rfl | trivial | apply And.intro)) (by repeat' (first | rfl | trivial | apply And.intro)) ?_
    rintro _ _ _ ⟨rfl, rfl, rfl⟩
    refine ⟨rfl, ?_⟩
    conv => whnf
    refine vif_split (fun h => ?_) (fun h => ?_)
    · have hf : f ≠ 0 := by simpa using h
      conv => whnf
      refine acallM [0] [] (by kernel_rfl) (errA (b'.drop j) f) rfl (by repeat' (first | rfl | trivial | apply And.intro)) (by repeat' (first | rfl | trivial | apply And.intro)) ?_
      rintro _ _ _ ⟨rfl, rfl, rfl⟩
      refine ⟨rfl, ?_⟩
      conv => whnf
      refine vif_split (fun h => ?_) (fun h => ?_)
      rotate_left 1
      · exfalso; simp at h; exact hf h
      conv => whnf
      exact aend (.tup [tl [], iv (0 : Nat), iv 1]) 0 [] [] [] ⟨[], 0, 1, RTs.bad fun l0 r ha hl h => hf (hstep l0 r ha hl h).1, rfl, rfl, rfl⟩ rfl trivial (by repeat' (first | rfl | trivial | apply And.intro))
    have hf : f = 0 := by simpa using h
    subst hf
    conv => whnf
    have hto3 := hto.2.2.1 rfl
    refine VReq.mk (app_ok (by simp only [List.length_map, List.length_append, List.length_cons, List.length_nil]; omega) (by kernel_rfl)) ?_
    conv => whnf
    have hs2 := hto.1
    (refine acallF [] (by kernel_rfl) (putTA [] s (by simp) hs2) ?_ ?_; (focus (repeat' (first | rfl | trivial | apply And.intro))))
    rintro _ _ _ ⟨rfl, rfl, rfl⟩
    conv => whnf
    have hpl := putT_len s hs2
    refine AAr.i64 (by simp only [List.length_map, List.length_append, List.length_nil]; omega) ?_
    conv => whnf
    refine AAr.i64 (by simp only; omega) ?_
    conv => whnf
    have hbd : (b'.drop j).length ≤ 100000 := drop_le hb'
    have hfm : (ks ++ [s]).flatMap putT = ks.flatMap putT ++ putT s := by simp
    refine aback ⟨ks ++ [s], b'.drop j⟩ [(2, .lab 4)] [] rfl (by show n - (ks ++ [s]).length < n - ks.length; rw [List.length_append]; simp only [List.length_cons, List.length_nil]; omega) ⟨hbd, by show (ks ++ [s]).length ≤ n; rw [List.length_append]; simp only [List.length_cons, List.length_nil]; omega, fun t ht => ?_, fun _ => ?_, fun l0 r hl ht hbb => ?_⟩ ⟨⟨rfl, rfl, (enT_snoc ks s).symm⟩, ⟨rfl, ⟨rfl, rfl⟩, rfl, trivial⟩, trivial⟩ ⟨?_, rfl, ?_, trivial⟩
    · rcases List.mem_append.1 ht with h | h
      · exact k2 t h
      · rw [List.mem_singleton.1 h]; exact hs2
    · show b = num (n : Int) ++ (ks ++ [s]).flatMap putT ++ b'.drop j
      rw [hfm, k3 rfl, List.append_assoc, List.append_assoc, List.append_assoc, ← hto3.2.1]
    · exact ⟨rfl, (k4 l0 r hl ht hbb).2.1, (hstep l0 r hl ht hbb).2⟩
    · refine congrArg (fun n : Int => Value.int .i64 n) ?_
      show _ = ((num (n : Int) ++ (ks ++ [s]).flatMap putT).length : Int)
      rw [hfm]
      simp only [List.length_map, List.length_append, List.nil_append]
      omega
    · refine congrArg (fun n : Int => Value.int .i64 n) ?_
      show _ = ((ks ++ [s]).length : Int)
      rw [List.length_append]; rfl
  · have hkn : ks.length = n := by simp at h; omega
    conv => whnf
    refine acallM [0] [] (by kernel_rfl) (errA b' e) rfl (by repeat' (first | rfl | trivial | apply And.intro)) (by repeat' (first | rfl | trivial | apply And.intro)) ?_
    rintro _ _ _ ⟨rfl, rfl, rfl⟩
    refine ⟨rfl, ?_⟩
    conv => whnf
    refine vif_split (fun h => ?_) (fun h => ?_)
    · have he : e ≠ 0 := by simpa using h
      conv => whnf
      exact aend (.tup [tl [], iv (0 : Nat), iv 1]) 0 [] [] [] ⟨[], 0, 1, RTs.bad fun l0 r ha hl h => he (k4 l0 r ha hl h).1, rfl, rfl, rfl⟩ rfl trivial (by repeat' (first | rfl | trivial | apply And.intro))
    have he : e = 0 := by simpa using h
    subst he
    have hbe := k3 rfl
    have hbl := congrArg List.length hbe
    simp only [List.length_append] at hbl
    have hdrop : (b.map enB).drop (num (n : Int) ++ ks.flatMap putT).length = b'.map enB := by
      rw [← List.map_drop, hbe, List.drop_left' rfl]
    have hfin : GT b fun l0 r => ks = dsT l0 ∧ b' = ints (ixT (dsT l0) l0) ++ r := fun l0 r hl ht hb => by
      have := k4 l0 r hl ht hb
      exact this.2.2.fin (by omega)
    conv => whnf
    refine ABd.mk' (num (n : Int) ++ ks.flatMap putT).length b.length rfl (by rw [List.length_map]) (by rw [List.length_append]; omega) (by rw [List.length_map]; exact Nat.le_refl _) ?_
    conv => whnf
    rw [show cut (some (AV.v (.int .i64 (((num (n : Int) ++ ks.flatMap putT).length : Nat) : Int)))) none (num (n : Int) ++ ks.flatMap putT).length b.length (b.map enB) = b'.map enB from hdrop]
    (refine acallF [] (by kernel_rfl) (readIntsA b' hb') ?_ ?_; (focus (repeat' (first | rfl | trivial | apply And.intro))))
    rintro _ _ _ ⟨il, m, f, hR, rfl, rfl, rfl⟩
    have hgood : GT b fun l0 r => f = 0 ∧ il = ixT (dsT l0) l0 ∧ ks = dsT l0 := fun l0 r hl ht hb => by
      have h1 := hfin l0 r hl ht hb
      have h2 := dsT_len l0
      have h3 := hR.2.2.2 _ r (ixT_all (dsT l0) l0 (fun x hx => (dsT_mem l0 x).2 hx) (by omega)) (by rw [ixT_len]; exact hl) h1.2
      exact ⟨h3.1, h3.2, h1.1⟩
    have hil := hR.2.1
    have hR1 := hR.1
    clear hdrop hfin hR hC hk0
    conv => whnf
    refine vif_split (fun h => ?_) (fun h => ?_)
    · have he : f ≠ 0 := by simpa using h
      conv => whnf
      exact aend (.tup [tl [], iv (0 : Nat), iv 1]) 0 [] [] [] ⟨[], 0, 1, RTs.bad fun l0 r ha hl h => he (hgood l0 r ha hl h).1, rfl, rfl, rfl⟩ rfl trivial (by repeat' (first | rfl | trivial | apply And.intro))
    conv => whnf
    refine aloop ws57_2 4 [9, 57] (fun i : Nat => [(9, .own 3), (57, iv i)]) (fun i => [(3, .rows 9 1 ((lkT ks (il.take i)).map enT)), (2, .rows 9 1 (ks.map enT)), (0, rdB b' 0)]) (fun i => i ≤ il.length ∧ ∀ j (h : j < il.length), j < i → 0 ≤ il[j] ∧ il[j] < (ks.length : Int)) (fun i => il.length - i) [(3, .nil)] [] 0 (by kernel_rfl) (fun _ => rfl) rfl ⟨Nat.zero_le _, fun j _ h => absurd h (Nat.not_lt_zero j)⟩ ⟨rfl, ⟨rfl, rfl, rfl⟩, (by repeat' (first | rfl | trivial | apply And.intro)), trivial⟩ ⟨trivial, rfl, trivial⟩ ?_
    rintro i ⟨hi, hin⟩
    conv => whnf
    refine vif_split (fun h => ?_) (fun h => ?_)
    · have hlt : i < il.length := by simp at h; omega
      have hat := List.getElem?_eq_getElem hlt
      conv => whnf
      refine AIn.mk' i rfl (by rw [List.length_map]; exact hlt) ?_
      conv => whnf
      refine ARd.mapAt hat ?_
      conv => whnf
      have hbad : ¬ (0 ≤ il[i] ∧ il[i] < (ks.length : Int)) → GT b fun _ _ => False := fun hx l0 r hl ht hb => by
        obtain ⟨_, h2, h3⟩ := hgood l0 r hl ht hb
        have hlt' : i < (ixT (dsT l0) l0).length := by rw [← h2]; exact hlt
        have e : il[i] = (ixT (dsT l0) l0)[i]'hlt' := by simp only [h2]
        rw [ixT_len] at hlt'
        have e2 : il[i] = ((idxT (dsT l0) l0[i] : Nat) : Int) := by rw [e]; simp [ixT]
        have := (idxT_lt ((dsT_mem l0 l0[i]).2 (List.getElem_mem hlt'))).1
        exact hx (by rw [h3]; omega)
      have hstep : ∀ q : Nat, il[i] = (q : Int) → ∀ x, ks[q]? = some x → lkT ks (il.take (i + 1)) = lkT ks (il.take i) ++ [x] := fun q hq x hx => lkT_snoc hlt hq hx
      have hnx : (0 ≤ il[i] ∧ il[i] < (ks.length : Int)) → ∀ j (h : j < il.length), j < i + 1 → 0 ≤ il[j] ∧ il[j] < (ks.length : Int) := fun hx j h hj => by
        rcases Nat.lt_or_ge j i with h4 | h4
        · exact hin j h h4
        · have : j = i := by omega
          subst this; exact hx
      have hxI : I64 il[i] := hR1 _ (List.getElem_mem hlt)
      generalize il[i] = x at *
      refine vif_split (fun h => ?_) (fun h => ?_)
      · have hx : x < 0 := by simpa using h
        conv => whnf
        exact aend (.tup [tl [], iv (0 : Nat), iv 1]) 0 [] [] [] ⟨[], 0, 1, RTs.bad (hbad (by omega)), rfl, rfl, rfl⟩ rfl trivial (by repeat' (first | rfl | trivial | apply And.intro))
      have hx0 : 0 ≤ x := by simpa using h
      conv => whnf
      refine vif_split (fun h => ?_) (fun h => ?_)
      · have hx : (ks.length : Int) ≤ x := by simpa using h
        conv => whnf
        exact aend (.tup [tl [], iv (0 : Nat), iv 1]) 0 [] [] [] ⟨[], 0, 1, RTs.bad (hbad (by omega)), rfl, rfl, rfl⟩ rfl trivial (by repeat' (first | rfl | trivial | apply And.intro))
      have hx1 : x < (ks.length : Int) := by simp at h; omega
      obtain ⟨q, rfl⟩ : ∃ q : Nat, x = (q : Int) := ⟨x.toNat, by omega⟩
      have hq : q < ks.length := by omega
      have hkq := List.getElem?_eq_getElem hq
      conv => whnf
      refine AIn.mk' q rfl (by rw [List.length_map]; exact hq) ?_
      conv => whnf
      refine ARd.mapAt hkq ?_
      conv => whnf
      have e1 := hstep q rfl ks[q] hkq
      have htl : (lkT ks (il.take i)).length ≤ 512 := by rw [lkT_len, List.length_take]; omega
      refine VReq.mk (app_ok (by simp only [List.length_map, List.length_append, List.length_cons, List.length_nil]; omega) (by kernel_rfl)) ?_
      conv => whnf
      refine AAr.i64 (by omega) ?_
      conv => whnf
      exact aback (i + 1) [(3, .lab 5)] [] rfl (by show il.length - (i + 1) < il.length - i; omega) ⟨hlt, hnx ⟨hx0, hx1⟩⟩ ⟨⟨rfl, rfl, by rw [e1]; exact (enT_snoc _ _).symm⟩, ⟨rfl, rfl, rfl⟩, ⟨rfl, (by repeat' (first | rfl | trivial | apply And.intro))⟩, trivial⟩ ⟨rfl, rfl, trivial⟩
    · have hie : i = il.length := by simp at h; omega
      subst hie
      rw [List.take_length]
      have hl5 : (lkT ks il).length ≤ 512 := by rw [lkT_len]; exact hil
      have hok := lkT_ok k2 il
      have hG : GT b fun l0 r => lkT ks il = l0 := fun l0 r hl ht hb => by
        obtain ⟨_, h2, h3⟩ := hgood l0 r hl ht hb
        rw [h2, h3]
        exact lkT_ix fun x hx => (dsT_mem l0 x).2 hx
      generalize lkT ks il = l at *
      conv => whnf
      have hT := textsA l hl5 hok
      have hpre := prefixA b (txs l)
      (refine acallF [3] (by kernel_rfl) (hT) ?_ ?_; (focus (repeat' (first | rfl | trivial | apply And.intro))))
      rintro _ _ _ ⟨rfl, rfl, rfl⟩
      conv => whnf
      (refine acall [] (by kernel_rfl) (hpre) rfl ?_ ?_; (focus (repeat' (first | rfl | trivial | apply And.intro))))
      conv => whnf
      refine vif_split (fun h => ?_) (fun h => ?_)
      · have hp : ¬ b.take (txs l).length = txs l := by simpa using h
        conv => whnf
        exact aend (.tup [tl [], iv (0 : Nat), iv 1]) 0 [] [] [] ⟨[], 0, 1, RTs.bad fun l0 r ha hl h => hp (by rw [hG l0 r ha hl h, h, List.take_left' rfl]), rfl, rfl, rfl⟩ rfl trivial (by repeat' (first | rfl | trivial | apply And.intro))
      · have hp : b.take (txs l).length = txs l := by simpa using h
        conv => whnf
        exact aend (.tup [tl l, iv ((txs l).length : Nat), iv 0]) 0 [] [] [] ⟨l, (txs l).length, 0, ⟨hok, hl5, .inl ⟨rfl, rfl, hp⟩, fun l0 r ha hl h => ⟨rfl, hG l0 r ha hl h⟩⟩, rfl, rfl, rfl⟩ rfl trivial ⟨⟨rfl, rfl⟩, congrArg (fun n : Nat => Value.int .i64 (n : Int)) (List.length_map _), rfl, trivial⟩
end Go.Proofs.YtmhpfadbmpipkaaGreatDoor.Cl
