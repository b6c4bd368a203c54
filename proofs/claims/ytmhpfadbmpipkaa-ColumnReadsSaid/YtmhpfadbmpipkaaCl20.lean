/- The walks of column's decoders: runs and indexes. Condition: sizes. -/
import Derived.Test.YtmhpfadbmpipkaaCl19
set_option linter.unusedVariables false
set_option linter.unusedSimpArgs false
namespace Go.Proofs.Ytmhpfadbmpipkaa.Cl
open Go Go.RowKit Go.Proofs Go.Proofs.Ytmhpfadbmpipkaa.Vc Go.Proofs.Ytmhpfadbmpipkaa.Ax
attribute [local irreducible] loadVar storeVar Instr.indexAt Instr.index Instr.sliceAt Instr.makeSlice Instr.lookup Instr.mapUpdate Instr.range Instr.next Instr.entry Instr.makeMap Builtin.append_ Builtin.copy_ Builtin.len_ Builtin.min_ Builtin.max_ Builtin.cap_ Builtin.delete_ Builtin.clear_ convert binOp eqGuard Op.unary Calls
structure SX where
  b : By
  out : Li
set_option maxHeartbeats 8000000 in
set_option maxRecDepth 100000 in
theorem readRunsA (b : By) (n : Nat) (hb : b.length ≤ 3000000) (hn : n ≤ 512) : AFn Try.prog GC 29 [bs b, iv n] 0 [] (DecA b2 b n) := by
  refine afn_of Try.func29 rfl mixed (by kernel_rfl) ?_
  conv => whnf
  (refine acallF [] (by kernel_rfl) (newA b hb) ?_ ?_; (focus (repeat' (first | rfl | trivial | apply And.intro))))
  rintro _ _ _ ⟨rfl, rfl, rfl⟩
  conv => whnf
  refine aloop ws29_1 2 [7] (fun _ : SX => [(7, .own 1)]) (fun x => [(1, .rows 3 1 (x.out.map enI)), (0, rdB x.b 0)]) (fun x => x.out.length ≤ n ∧ AllI x.out ∧ x.b.length ≤ 3000000 ∧ Pr b n b2 (Q2 x.b x.out 0)) (fun x => n - x.out.length) [(1, .nil)] [] ⟨b, []⟩ (by kernel_rfl) (fun _ => rfl) rfl ⟨Nat.zero_le _, AllI.nil, hb, (Pr.start b n b2).mono fun l0 r _ _ h => Q2.start h⟩ ⟨rfl, (by repeat' (first | rfl | trivial | apply And.intro)), trivial⟩ ⟨trivial, trivial⟩ ?_
  rintro ⟨b', out⟩ ⟨h1, h2, h3, h4⟩
  change out.length ≤ n at h1
  change AllI out at h2
  change b'.length ≤ 3000000 at h3
  change Pr b n b2 (Q2 b' out 0) at h4
  conv => whnf
  refine vif_split (fun h => ?_) (fun h => ?_)
  rotate_left 1
  · have hlt : out.length = n := by simp at h; omega
    conv => whnf
    exact aend (.tup [.own 0, bv true]) 1 _ [(0, .lab 1)] [] ⟨out, true, ⟨h2, h1, h4.mono fun l0 r _ hl h => ⟨rfl, (h.fin (by omega)).1⟩⟩, rfl, rfl, rfl⟩ rfl (by repeat' (first | rfl | trivial | apply And.intro)) (by repeat' (first | rfl | trivial | apply And.intro))
  have hlt : out.length < n := by simp at h; omega
  conv => whnf
  refine acallM [0] [] (by kernel_rfl) (numberA b' 0 h3) rfl (by repeat' (first | rfl | trivial | apply And.intro)) (by repeat' (first | rfl | trivial | apply And.intro)) ?_
  rintro _ _ _ ⟨rfl, rfl, rfl⟩
  refine ⟨rfl, ?_⟩
  conv => whnf
  refine acallM [0] [] (by kernel_rfl) (numberA (b'.drop (rnT b' 0).2.1) (rnT b' 0).2.2 (drop_le h3)) rfl (by repeat' (first | rfl | trivial | apply And.intro)) (by repeat' (first | rfl | trivial | apply And.intro)) ?_
  rintro _ _ _ ⟨rfl, rfl, rfl⟩
  refine ⟨rfl, ?_⟩
  conv => whnf
  have hx := (rnT_ok b' 0).1
  have hb2 : ((b'.drop (rnT b' 0).2.1).drop (rnT (b'.drop (rnT b' 0).2.1) (rnT b' 0).2.2).2.1).length ≤ 3000000 := drop_le (drop_le h3)
  have step : Pr b n b2 fun l0 r => ∃ m : Nat, (rnT (b'.drop (rnT b' 0).2.1) (rnT b' 0).2.2).2.2 = 0 ∧ (rnT (b'.drop (rnT b' 0).2.1) (rnT b' 0).2.2).1 = ((m + 1 : Nat) : Int) ∧ m + 1 + out.length ≤ n ∧
      Q2 ((b'.drop (rnT b' 0).2.1).drop (rnT (b'.drop (rnT b' 0).2.1) (rnT b' 0).2.2).2.1) (out ++ List.replicate (m + 1) (rnT b' 0).1) 0 l0 r := fun l0 r ha hl hb0 => by
    have := (h4 l0 r ha hl hb0).step ha (by omega) (by omega)
    rw [hl] at this
    exact this
  generalize (rnT b' 0).1 = x at *
  generalize hq : rnT (b'.drop (rnT b' 0).2.1) (rnT b' 0).2.2 = t at *
  obtain ⟨kk, j, e⟩ := t
  simp only at step hb2 ⊢
  generalize (b'.drop (rnT b' 0).2.1).drop j = b2' at *
  refine acallM [0] [] (by kernel_rfl) (errA b2' e) rfl (by repeat' (first | rfl | trivial | apply And.intro)) (by repeat' (first | rfl | trivial | apply And.intro)) ?_
  rintro _ _ _ ⟨rfl, rfl, rfl⟩
  refine ⟨rfl, ?_⟩
  conv => whnf
  have bad : (¬ (e = 0 ∧ 1 ≤ kk ∧ kk ≤ (n : Int) - (out.length : Int))) → DecR b2 b n [] false := fun hbad => ⟨AllI.nil, Nat.zero_le _, fun l0 r ha hl hb0 => by
    obtain ⟨m, m1, m2, m3, _⟩ := step l0 r ha hl hb0
    exact absurd ⟨m1, by omega, by omega⟩ hbad⟩
  refine vif_split (fun h => ?_) (fun h => ?_)
  · have he : e ≠ 0 := by simpa using h
    conv => whnf
    exact aend (.tup [.own 0, bv false]) 1 [(0, .rows 3 1 [])] [(0, .nil)] [] ⟨[], false, bad fun h => he h.1, rfl, rfl, rfl⟩ rfl (by repeat' (first | rfl | trivial | apply And.intro)) (by repeat' (first | rfl | trivial | apply And.intro))
  have he : e = 0 := by simpa using h
  subst he
  conv => whnf
  refine vif_split (fun h => ?_) (fun h => ?_)
  · have hk : kk < 1 := by simpa using h
    conv => whnf
    exact aend (.tup [.own 0, bv false]) 1 [(0, .rows 3 1 [])] [(0, .nil)] [] ⟨[], false, bad fun h => by omega, rfl, rfl, rfl⟩ rfl (by repeat' (first | rfl | trivial | apply And.intro)) (by repeat' (first | rfl | trivial | apply And.intro))
  have hk : 1 ≤ kk := by simp at h; omega
  conv => whnf
  refine AAr.to (y := (n : Int) - (out.length : Int)) (by rw [List.length_map]; exact IntWalk.i64_in _ (by show _ ≤ (n : Int) - (out.length : Int) ∧ (n : Int) - (out.length : Int) ≤ _; omega)) ?_
  conv => whnf
  refine vif_split (fun h => ?_) (fun h => ?_)
  · have hk2 : (n : Int) - (out.length : Int) < kk := by simp at h; omega
    conv => whnf
    exact aend (.tup [.own 0, bv false]) 1 [(0, .rows 3 1 [])] [(0, .nil)] [] ⟨[], false, bad fun h => by omega, rfl, rfl, rfl⟩ rfl (by repeat' (first | rfl | trivial | apply And.intro)) (by repeat' (first | rfl | trivial | apply And.intro))
  have hk2 : kk ≤ (n : Int) - (out.length : Int) := by simp at h; omega
  obtain ⟨k, rfl⟩ : ∃ k : Nat, kk = (k : Int) := ⟨kk.toNat, by omega⟩
  conv => whnf
  (refine acallF [2] (by kernel_rfl) (repeatA x k (by omega) (by omega)) ?_ ?_; (focus (repeat' (first | rfl | trivial | apply And.intro))))
  rintro _ _ _ ⟨rfl, rfl, rfl⟩
  conv => whnf
  refine VReq.mk (app_ok (by simp only [List.length_map, List.length_append, List.length_replicate]; omega) (by kernel_rfl)) ?_
  conv => whnf
  refine aback ⟨b2', out ++ List.replicate k x⟩ [(1, .lab 4)] [] rfl (by show n - (out ++ List.replicate k x).length < n - out.length; rw [List.length_append, List.length_replicate]; omega)
    ⟨by show (out ++ List.replicate k x).length ≤ n; rw [List.length_append, List.length_replicate]; omega, h2.app (AllI.rep hx k), hb2, fun l0 r ha hl hb0 => ?_⟩ ⟨⟨rfl, rfl, by rw [List.map_append]⟩, (by repeat' (first | rfl | trivial | apply And.intro)), trivial⟩ ⟨rfl, trivial⟩
  obtain ⟨m, m1, m2, m3, m4⟩ := step l0 r ha hl hb0
  have : m + 1 = k := by omega
  rw [this] at m4
  exact m4
theorem cnT_rng (b : By) (e most em : Int) (hm : 0 ≤ most) (hem : em ≠ 0) : 0 ≤ (cnT b e most em).1 ∧ (cnT b e most em).1 ≤ most ∧ (cnT b e most em).2.1 = (rnT b e).2.1 ∧ ((cnT b e most em).2.2 = 0 → (rnT b e).2.2 = 0 ∧ (cnT b e most em).1 = (rnT b e).1) := by
  rw [cnT_def]
  generalize rnT b e = t
  obtain ⟨x, k, e'⟩ := t
  simp only
  by_cases h1 : e' = 0
  · by_cases h2 : x < 0
    · simp [h1, h2, hm]
    · by_cases h3 : most < x
      · simp [h1, h2, h3, hm, hem]
      · simp [h1, h2, h3]; omega
  · simp [h1, hm]
set_option maxHeartbeats 8000000 in
set_option maxRecDepth 100000 in
theorem readIndexA (b : By) (n : Nat) (hb : b.length ≤ 3000000) (hn : n ≤ 512) : AFn Try.prog GC 33 [bs b, iv n] 0 [] (DecA b4 b n) := by
  have hstart := Q4k.start (b := b) (n := n) hn (most := (n : Int)) (em := 5) (Int.le_refl _)
  have hcb : (b.drop (cnT b 0 n 5).2.1).length ≤ 3000000 := drop_le hb
  have hcnt := countA b 0 n hb (by omega)
  have hkk := cnT_rng b 0 (n : Int) 5 (by omega) (by decide)
  generalize cnT b 0 n 5 = t at *
  obtain ⟨kk, j, e0⟩ := t
  simp only at hstart hcb hcnt hkk
  have hkk := And.intro hkk.1 hkk.2.1
  generalize b.drop j = b0 at *
  obtain ⟨k, rfl⟩ : ∃ k : Nat, kk = (k : Int) := ⟨kk.toNat, by omega⟩
  refine afn_of Try.func33 rfl mixed (by kernel_rfl) ?_
  conv => whnf
  (refine acallF [] (by kernel_rfl) (newA b hb) ?_ ?_; (focus (repeat' (first | rfl | trivial | apply And.intro))))
  rintro _ _ _ ⟨rfl, rfl, rfl⟩
  conv => whnf
  refine acallM [0] [] (by kernel_rfl) hcnt rfl (by repeat' (first | rfl | trivial | apply And.intro)) (by repeat' (first | rfl | trivial | apply And.intro)) ?_
  rintro _ _ _ ⟨rfl, rfl, rfl⟩
  refine ⟨rfl, ?_⟩
  conv => whnf
  refine aloop ws33_1 2 [8] (fun _ : RX => [(8, .own 1)]) (fun x => [(1, .rows 3 1 (x.out.map enI)), (0, rdB x.b x.e)]) (fun x => x.out.length ≤ k ∧ AllI x.out ∧ x.b.length ≤ 3000000 ∧ Pr b n b4 (Q4k k x.b x.out x.e)) (fun x => k - x.out.length) [(1, .nil)] [] ⟨b0, e0, []⟩ (by kernel_rfl) (fun _ => rfl) rfl ⟨Nat.zero_le _, AllI.nil, hcb, fun l0 r ha hl hb0 => (hstart l0 r ha hl hb0).2⟩ ⟨rfl, (by repeat' (first | rfl | trivial | apply And.intro)), trivial⟩ ⟨trivial, trivial⟩ ?_
  rintro ⟨b', e, keys⟩ ⟨h1, h2, h3, h4⟩
  change keys.length ≤ k at h1
  change AllI keys at h2
  change b'.length ≤ 3000000 at h3
  change Pr b n b4 (Q4k k b' keys e) at h4
  conv => whnf
  refine vif_split (fun h => ?_) (fun h => ?_)
  · have hlt : keys.length < k := by simp at h; omega
    conv => whnf
    refine acallM [0] [] (by kernel_rfl) (errA b' e) rfl (by repeat' (first | rfl | trivial | apply And.intro)) (by repeat' (first | rfl | trivial | apply And.intro)) ?_
    rintro _ _ _ ⟨rfl, rfl, rfl⟩
    refine ⟨rfl, ?_⟩
    conv => whnf
    refine vif_split (fun h => ?_) (fun h => ?_)
    · have he : e = 0 := by simpa using h
      conv => whnf
      refine acallM [0] [] (by kernel_rfl) (numberA b' e h3) rfl (by repeat' (first | rfl | trivial | apply And.intro)) (by repeat' (first | rfl | trivial | apply And.intro)) ?_
      rintro _ _ _ ⟨rfl, rfl, rfl⟩
      refine ⟨rfl, ?_⟩
      conv => whnf
      refine VReq.mk (app_ok (by simp only [List.length_map, List.length_append, List.length_cons, List.length_nil]; omega) (by kernel_rfl)) ?_
      conv => whnf
      refine aback ⟨b'.drop (rnT b' e).2.1, (rnT b' e).2.2, keys ++ [(rnT b' e).1]⟩ [(1, .lab 3)] [] rfl (by show k - (keys ++ [(rnT b' e).1]).length < k - keys.length; rw [List.length_append]; simp; omega)
        ⟨by show (keys ++ [(rnT b' e).1]).length ≤ k; rw [List.length_append]; simp; omega, h2.snoc (rnT_ok b' e).1, drop_le h3, fun l0 r ha hl hb0 => ?_⟩ ⟨⟨rfl, rfl, (snocI keys _).symm⟩, (by repeat' (first | rfl | trivial | apply And.intro)), trivial⟩ ⟨rfl, trivial⟩
      obtain ⟨hk, hq⟩ := h4 l0 r ha hl hb0
      exact ⟨hk, hq.step (fun y hy => ha y ((ds_mem l0 y).1 hy)) (by omega)⟩
    have he : e ≠ 0 := by simpa using h
    have hx : e = 0 → keys.length = k := fun h => absurd h he
    conv => whnf
    refine aloop ws33_2 3 [9] (fun _ : RX => [(9, .own 2)]) (fun x => [(2, .rows 3 1 (x.out.map enI)), (1, .rows 3 1 (keys.map enI)), (0, rdB x.b x.e)]) (fun x => x.out.length ≤ n ∧ AllI x.out ∧ x.b.length ≤ 3000000 ∧ Pr b n b4 (Q4 keys x.b x.out x.e)) (fun x => n - x.out.length) [(2, .nil)] [] ⟨b', e, []⟩ (by kernel_rfl) (fun _ => rfl) rfl ⟨Nat.zero_le _, AllI.nil, h3, h4.mono fun l0 r _ _ h => Q4.start (fun he => by rw [hx he]) h⟩ ⟨rfl, ⟨rfl, rfl, rfl⟩, (by repeat' (first | rfl | trivial | apply And.intro)), trivial⟩ ⟨trivial, trivial⟩ ?_
    clear h3 h4 hx h1
    rintro ⟨b', e, out⟩ ⟨h1, h5, h3, h4⟩
    change out.length ≤ n at h1
    change AllI out at h5
    change b'.length ≤ 3000000 at h3
    change Pr b n b4 (Q4 keys b' out e) at h4
    conv => whnf
    refine vif_split (fun h => ?_) (fun h => ?_)
    rotate_left 1
    · have hlt : out.length = n := by simp at h; omega
      conv => whnf
      exact aend (.tup [.own 0, bv true]) 1 _ [(0, .lab 2)] [] ⟨out, true, ⟨h5, h1, h4.mono fun l0 r _ hl h => ⟨rfl, (h.fin (by omega)).1⟩⟩, rfl, rfl, rfl⟩ rfl (by repeat' (first | rfl | trivial | apply And.intro)) (by repeat' (first | rfl | trivial | apply And.intro))
    have hlt : out.length < n := by simp at h; omega
    have step : Pr b n b4 fun l0 r => ∃ (i : Nat) (x : Int), (rnT b' e).2.2 = 0 ∧ (rnT b' e).1 = (i : Int) ∧ keys[i]? = some x ∧ Q4 keys (b'.drop (rnT b' e).2.1) (out ++ [x]) 0 l0 r := fun l0 r ha hl hb0 => (h4 l0 r ha hl hb0).step (by omega) (by omega)
    have hnum := numberA b' e h3
    have hb2 : (b'.drop (rnT b' e).2.1).length ≤ 3000000 := drop_le h3
    generalize rnT b' e = t at *
    obtain ⟨ii, j, e2⟩ := t
    simp only at step hnum hb2
    generalize b'.drop j = b2' at *
    conv => whnf
    refine acallM [0] [] (by kernel_rfl) hnum rfl (by repeat' (first | rfl | trivial | apply And.intro)) (by repeat' (first | rfl | trivial | apply And.intro)) ?_
    rintro _ _ _ ⟨rfl, rfl, rfl⟩
    refine ⟨rfl, ?_⟩
    conv => whnf
    refine acallM [0] [] (by kernel_rfl) (errA b2' e2) rfl (by repeat' (first | rfl | trivial | apply And.intro)) (by repeat' (first | rfl | trivial | apply And.intro)) ?_
    rintro _ _ _ ⟨rfl, rfl, rfl⟩
    refine ⟨rfl, ?_⟩
    conv => whnf
    have bad : (¬ (e2 = 0 ∧ 0 ≤ ii ∧ ii < (keys.length : Int))) → DecR b4 b n [] false := fun hbad => ⟨AllI.nil, Nat.zero_le _, fun l0 r ha hl hb0 => by
      obtain ⟨i, x, m1, m2, m3, _⟩ := step l0 r ha hl hb0
      have := (List.getElem?_eq_some_iff.1 m3).1
      exact absurd ⟨m1, by omega, by omega⟩ hbad⟩
    refine vif_split (fun h => ?_) (fun h => ?_)
    · have he : e2 ≠ 0 := by simpa using h
      conv => whnf
      exact aend (.tup [.own 0, bv false]) 1 [(0, .rows 3 1 [])] [(0, .nil)] [] ⟨[], false, bad fun h => he h.1, rfl, rfl, rfl⟩ rfl (by repeat' (first | rfl | trivial | apply And.intro)) (by repeat' (first | rfl | trivial | apply And.intro))
    have he : e2 = 0 := by simpa using h
    subst he
    conv => whnf
    refine vif_split (fun h => ?_) (fun h => ?_)
    · have hk : ii < 0 := by simpa using h
      conv => whnf
      exact aend (.tup [.own 0, bv false]) 1 [(0, .rows 3 1 [])] [(0, .nil)] [] ⟨[], false, bad fun h => by omega, rfl, rfl, rfl⟩ rfl (by repeat' (first | rfl | trivial | apply And.intro)) (by repeat' (first | rfl | trivial | apply And.intro))
    have hk : 0 ≤ ii := by simp at h; omega
    conv => whnf
    refine vif_split (fun h => ?_) (fun h => ?_)
    · have hk2 : (keys.length : Int) ≤ ii := by simp at h; omega
      conv => whnf
      exact aend (.tup [.own 0, bv false]) 1 [(0, .rows 3 1 [])] [(0, .nil)] [] ⟨[], false, bad fun h => by omega, rfl, rfl, rfl⟩ rfl (by repeat' (first | rfl | trivial | apply And.intro)) (by repeat' (first | rfl | trivial | apply And.intro))
    have hk2 : ii < (keys.length : Int) := by simp at h; omega
    obtain ⟨i, rfl⟩ : ∃ i : Nat, ii = (i : Int) := ⟨ii.toNat, by omega⟩
    have hil : i < keys.length := by omega
    conv => whnf
    refine AIn.mk' i rfl (by rw [List.length_map]; exact hil) ?_
    conv => whnf
    refine ARd.map hil ?_
    conv => whnf
    refine VReq.mk (app_ok (by simp only [List.length_map, List.length_append, List.length_cons, List.length_nil]; omega) (by kernel_rfl)) ?_
    conv => whnf
    refine aback ⟨b2', 0, out ++ [keys[i]]⟩ [(2, .lab 4)] [] rfl (by show n - (out ++ [keys[i]]).length < n - out.length; rw [List.length_append]; simp; omega)
      ⟨by show (out ++ [keys[i]]).length ≤ n; rw [List.length_append]; simp; omega, h5.snoc (h2 _ (List.getElem_mem hil)), hb2, fun l0 r ha hl hb0 => ?_⟩ ⟨⟨rfl, rfl, (snocI out _).symm⟩, ⟨rfl, rfl, rfl⟩, (by repeat' (first | rfl | trivial | apply And.intro)), trivial⟩ ⟨rfl, trivial⟩
    obtain ⟨i', x, m1, m2, m3, m4⟩ := step l0 r ha hl hb0
    have : i' = i := by omega
    subst this
    rw [List.getElem?_eq_getElem hil] at m3
    injection m3 with m3
    rw [m3]
    exact m4
  · have hlt : keys.length = k := by simp at h; omega
    have hx : e = 0 → keys.length = k := fun _ => hlt
    conv => whnf
    refine aloop ws33_2 3 [9] (fun _ : RX => [(9, .own 2)]) (fun x => [(2, .rows 3 1 (x.out.map enI)), (1, .rows 3 1 (keys.map enI)), (0, rdB x.b x.e)]) (fun x => x.out.length ≤ n ∧ AllI x.out ∧ x.b.length ≤ 3000000 ∧ Pr b n b4 (Q4 keys x.b x.out x.e)) (fun x => n - x.out.length) [(2, .nil)] [] ⟨b', e, []⟩ (by kernel_rfl) (fun _ => rfl) rfl ⟨Nat.zero_le _, AllI.nil, h3, h4.mono fun l0 r _ _ h => Q4.start (fun he => by rw [hx he]) h⟩ ⟨rfl, ⟨rfl, rfl, rfl⟩, (by repeat' (first | rfl | trivial | apply And.intro)), trivial⟩ ⟨trivial, trivial⟩ ?_
    clear h3 h4 hx h1
    rintro ⟨b', e, out⟩ ⟨h1, h5, h3, h4⟩
    change out.length ≤ n at h1
    change AllI out at h5
    change b'.length ≤ 3000000 at h3
    change Pr b n b4 (Q4 keys b' out e) at h4
    conv => whnf
    refine vif_split (fun h => ?_) (fun h => ?_)
    rotate_left 1
    · have hlt : out.length = n := by simp at h; omega
      conv => whnf
      exact aend (.tup [.own 0, bv true]) 1 _ [(0, .lab 2)] [] ⟨out, true, ⟨h5, h1, h4.mono fun l0 r _ hl h => ⟨rfl, (h.fin (by omega)).1⟩⟩, rfl, rfl, rfl⟩ rfl (by repeat' (first | rfl | trivial | apply And.intro)) (by repeat' (first | rfl | trivial | apply And.intro))
    have hlt : out.length < n := by simp at h; omega
    have step : Pr b n b4 fun l0 r => ∃ (i : Nat) (x : Int), (rnT b' e).2.2 = 0 ∧ (rnT b' e).1 = (i : Int) ∧ keys[i]? = some x ∧ Q4 keys (b'.drop (rnT b' e).2.1) (out ++ [x]) 0 l0 r := fun l0 r ha hl hb0 => (h4 l0 r ha hl hb0).step (by omega) (by omega)
    have hnum := numberA b' e h3
    have hb2 : (b'.drop (rnT b' e).2.1).length ≤ 3000000 := drop_le h3
    generalize rnT b' e = t at *
    obtain ⟨ii, j, e2⟩ := t
    simp only at step hnum hb2
    generalize b'.drop j = b2' at *
    conv => whnf
    refine acallM [0] [] (by kernel_rfl) hnum rfl (by repeat' (first | rfl | trivial | apply And.intro)) (by repeat' (first | rfl | trivial | apply And.intro)) ?_
    rintro _ _ _ ⟨rfl, rfl, rfl⟩
    refine ⟨rfl, ?_⟩
    conv => whnf
    refine acallM [0] [] (by kernel_rfl) (errA b2' e2) rfl (by repeat' (first | rfl | trivial | apply And.intro)) (by repeat' (first | rfl | trivial | apply And.intro)) ?_
    rintro _ _ _ ⟨rfl, rfl, rfl⟩
    refine ⟨rfl, ?_⟩
    conv => whnf
    have bad : (¬ (e2 = 0 ∧ 0 ≤ ii ∧ ii < (keys.length : Int))) → DecR b4 b n [] false := fun hbad => ⟨AllI.nil, Nat.zero_le _, fun l0 r ha hl hb0 => by
      obtain ⟨i, x, m1, m2, m3, _⟩ := step l0 r ha hl hb0
      have := (List.getElem?_eq_some_iff.1 m3).1
      exact absurd ⟨m1, by omega, by omega⟩ hbad⟩
    refine vif_split (fun h => ?_) (fun h => ?_)
    · have he : e2 ≠ 0 := by simpa using h
      conv => whnf
      exact aend (.tup [.own 0, bv false]) 1 [(0, .rows 3 1 [])] [(0, .nil)] [] ⟨[], false, bad fun h => he h.1, rfl, rfl, rfl⟩ rfl (by repeat' (first | rfl | trivial | apply And.intro)) (by repeat' (first | rfl | trivial | apply And.intro))
    have he : e2 = 0 := by simpa using h
    subst he
    conv => whnf
    refine vif_split (fun h => ?_) (fun h => ?_)
    · have hk : ii < 0 := by simpa using h
      conv => whnf
      exact aend (.tup [.own 0, bv false]) 1 [(0, .rows 3 1 [])] [(0, .nil)] [] ⟨[], false, bad fun h => by omega, rfl, rfl, rfl⟩ rfl (by repeat' (first | rfl | trivial | apply And.intro)) (by repeat' (first | rfl | trivial | apply And.intro))
    have hk : 0 ≤ ii := by simp at h; omega
    conv => whnf
    refine vif_split (fun h => ?_) (fun h => ?_)
    · have hk2 : (keys.length : Int) ≤ ii := by simp at h; omega
      conv => whnf
      exact aend (.tup [.own 0, bv false]) 1 [(0, .rows 3 1 [])] [(0, .nil)] [] ⟨[], false, bad fun h => by omega, rfl, rfl, rfl⟩ rfl (by repeat' (first | rfl | trivial | apply And.intro)) (by repeat' (first | rfl | trivial | apply And.intro))
    have hk2 : ii < (keys.length : Int) := by simp at h; omega
    obtain ⟨i, rfl⟩ : ∃ i : Nat, ii = (i : Int) := ⟨ii.toNat, by omega⟩
    have hil : i < keys.length := by omega
    conv => whnf
    refine AIn.mk' i rfl (by rw [List.length_map]; exact hil) ?_
    conv => whnf
    refine ARd.map hil ?_
    conv => whnf
    refine VReq.mk (app_ok (by simp only [List.length_map, List.length_append, List.length_cons, List.length_nil]; omega) (by kernel_rfl)) ?_
    conv => whnf
    refine aback ⟨b2', 0, out ++ [keys[i]]⟩ [(2, .lab 4)] [] rfl (by show n - (out ++ [keys[i]]).length < n - out.length; rw [List.length_append]; simp; omega)
      ⟨by show (out ++ [keys[i]]).length ≤ n; rw [List.length_append]; simp; omega, h5.snoc (h2 _ (List.getElem_mem hil)), hb2, fun l0 r ha hl hb0 => ?_⟩ ⟨⟨rfl, rfl, (snocI out _).symm⟩, ⟨rfl, rfl, rfl⟩, (by repeat' (first | rfl | trivial | apply And.intro)), trivial⟩ ⟨rfl, trivial⟩
    obtain ⟨i', x, m1, m2, m3, m4⟩ := step l0 r ha hl hb0
    have : i' = i := by omega
    subst this
    rw [List.getElem?_eq_getElem hil] at m3
    injection m3 with m3
    rw [m3]
    exact m4
end Go.Proofs.Ytmhpfadbmpipkaa.Cl
