/- The walks of the reference's digest. Conditions: as for the program's. -/
import Derived.Test.YthnncehddnfjmaaDoorDg3
set_option linter.unusedVariables false
set_option linter.unusedSimpArgs false
namespace Go.Proofs.YthnncehddnfjmaaDoor.Dg
open Go Go.RowKit Go.Proofs.YthnncehddnfjmaaDoor.Vc
attribute [local irreducible] loadVar storeVar Instr.indexAt Instr.index Instr.sliceAt Instr.makeSlice Instr.lookup Instr.mapUpdate Instr.range Instr.next Instr.entry Instr.makeMap Builtin.append_ Builtin.copy_ Builtin.len_ Builtin.min_ Builtin.max_ Builtin.cap_ Builtin.delete_ Builtin.clear_ convert binOp eqGuard Op.unary Calls

set_option maxRecDepth 100000 in
theorem rotate_ok (x k : Int) (n : Nat) (hk : k = n) (h0 : 0 < n) (h1 : n < 64) (w : World) :
    Ret Tryd.prog 74 #[.int .u64 x, .int .u64 k] w fun v w' => v = .int .u64 (rotI x n) ∧ w' = w := by
  subst hk
  have e3 : IntKind.u64.wrap (64 - (n : Int)) = 64 - n := IntWalk.u64_in _ (by omega)
  refine ret_of_vc Tryd.func74 rfl mixed (by kernel_rfl) ?_
  conv => whnf
  refine VReq.mk (by omega) ?_
  conv => whnf
  refine VReq.mk (by rw [e3]; omega) ?_
  conv => whnf
  refine VEnd.mk ⟨?_, rfl⟩
  show Value.int .u64 _ = _
  rw [e3]
  unfold rotI
  have e1 : min (n : Int).toNat IntKind.u64.bits = n := by simp [IntKind.bits]; omega
  have e2 : min (64 - (n : Int)).toNat IntKind.u64.bits = 64 - n := by simp [IntKind.bits]
  rw [e1, e2]

set_option maxRecDepth 100000 in
theorem rounds2_ok (n : Nat) (hn : n < 100) (s : S4) (w : World) :
    Ret Tryd.prog 68 #[.agg s.cells.toArray, .int .i64 n] w fun v w' => ∃ t, t = s.rounds n ∧ v = .agg t.cells.toArray ∧ Below w.heap.size w w' := by
  refine ret_of_vc Tryd.func68 rfl mixed (by kernel_rfl) ?_
  conv => whnf
  have hb0 := (Blk.new w s.cells.toArray 110).alloc (.cells #[.int .u64 0, .int .u64 0, .int .u64 0, .int .u64 0] 110)
  have hr0 := Blk.new (w.alloc (.cells s.cells.toArray 110)) #[.int .u64 0, .int .u64 0, .int .u64 0, .int .u64 0] 110
  have hB0 := balloc (balloc (Below.refl w.heap.size w) (Nat.le_refl _) (.cells s.cells.toArray 110)) (Nat.le_refl _) (.cells #[.int .u64 0, .int .u64 0, .int .u64 0, .int .u64 0] 110)
  refine vloop (X := Nat) ws68_1 (fun i => [(5, .int .i64 i)]) (fun i w' => i ≤ n ∧ Only w.heap.size _ w' ∧ Blk w' w.heap.size (s.rounds i).cells 110) (fun i => n - i) 0 (by kernel_rfl) ?_ ⟨Nat.zero_le _, Only.refl _ _, hb0⟩ ?_
  · exact ⟨rfl, trivial⟩
  rintro i w' j ⟨hi, ho, hb'⟩
  conv => whnf
  refine vif_split (fun hlt => ?_) (fun hge => ?_)
  · have hlt : i < n := by simpa using hlt
    conv => whnf
    repeat (first | (refine VReq.mk (by first | decide | omega) ?_; conv => whnf) | (refine VPend.mk rfl ?_; conv => whnf) | (refine VNext.keep rfl ?_; conv => whnf) | (refine vs_loadB rfl (by assumption) rfl ?_; conv => whnf) | (refine vs_arrL rfl rfl rfl ?_; conv => whnf) | (refine vs_storeB (by assumption) rfl rfl rfl ?_; intro _ _ _; conv => whnf))
    (refine vdrawAt plan68 (by kernel_rfl) ?_; conv => whnf)
    repeat (first | (refine VReq.mk (by first | decide | omega) ?_; conv => whnf) | (refine VPend.mk rfl ?_; conv => whnf) | (refine VNext.keep rfl ?_; conv => whnf) | (refine vs_loadB rfl (by assumption) rfl ?_; conv => whnf) | (refine vs_arrL rfl rfl rfl ?_; conv => whnf) | (refine vs_storeB (by assumption) rfl rfl rfl ?_; intro _ _ _; conv => whnf))
    refine vcall (by kernel_rfl) (rotate_ok _ _ 13 rfl (by decide) (by decide) _) ?_
    rintro _ _ ⟨rfl, rfl⟩
    conv => whnf
    repeat (first | (refine VReq.mk (by first | decide | omega) ?_; conv => whnf) | (refine VPend.mk rfl ?_; conv => whnf) | (refine VNext.keep rfl ?_; conv => whnf) | (refine vs_loadB rfl (by assumption) rfl ?_; conv => whnf) | (refine vs_arrL rfl rfl rfl ?_; conv => whnf) | (refine vs_storeB (by assumption) rfl rfl rfl ?_; intro _ _ _; conv => whnf))
    refine vcall (by kernel_rfl) (rotate_ok _ _ 32 rfl (by decide) (by decide) _) ?_
    rintro _ _ ⟨rfl, rfl⟩
    conv => whnf
    repeat (first | (refine VReq.mk (by first | decide | omega) ?_; conv => whnf) | (refine VPend.mk rfl ?_; conv => whnf) | (refine VNext.keep rfl ?_; conv => whnf) | (refine vs_loadB rfl (by assumption) rfl ?_; conv => whnf) | (refine vs_arrL rfl rfl rfl ?_; conv => whnf) | (refine vs_storeB (by assumption) rfl rfl rfl ?_; intro _ _ _; conv => whnf))
    (refine vdrawAt plan68 (by kernel_rfl) ?_; conv => whnf)
    repeat (first | (refine VReq.mk (by first | decide | omega) ?_; conv => whnf) | (refine VPend.mk rfl ?_; conv => whnf) | (refine VNext.keep rfl ?_; conv => whnf) | (refine vs_loadB rfl (by assumption) rfl ?_; conv => whnf) | (refine vs_arrL rfl rfl rfl ?_; conv => whnf) | (refine vs_storeB (by assumption) rfl rfl rfl ?_; intro _ _ _; conv => whnf))
    refine vcall (by kernel_rfl) (rotate_ok _ _ 16 rfl (by decide) (by decide) _) ?_
    rintro _ _ ⟨rfl, rfl⟩
    conv => whnf
    repeat (first | (refine VReq.mk (by first | decide | omega) ?_; conv => whnf) | (refine VPend.mk rfl ?_; conv => whnf) | (refine VNext.keep rfl ?_; conv => whnf) | (refine vs_loadB rfl (by assumption) rfl ?_; conv => whnf) | (refine vs_arrL rfl rfl rfl ?_; conv => whnf) | (refine vs_storeB (by assumption) rfl rfl rfl ?_; intro _ _ _; conv => whnf))
    (refine vdrawAt plan68 (by kernel_rfl) ?_; conv => whnf)
    repeat (first | (refine VReq.mk (by first | decide | omega) ?_; conv => whnf) | (refine VPend.mk rfl ?_; conv => whnf) | (refine VNext.keep rfl ?_; conv => whnf) | (refine vs_loadB rfl (by assumption) rfl ?_; conv => whnf) | (refine vs_arrL rfl rfl rfl ?_; conv => whnf) | (refine vs_storeB (by assumption) rfl rfl rfl ?_; intro _ _ _; conv => whnf))
    refine vcall (by kernel_rfl) (rotate_ok _ _ 21 rfl (by decide) (by decide) _) ?_
    rintro _ _ ⟨rfl, rfl⟩
    conv => whnf
    repeat (first | (refine VReq.mk (by first | decide | omega) ?_; conv => whnf) | (refine VPend.mk rfl ?_; conv => whnf) | (refine VNext.keep rfl ?_; conv => whnf) | (refine vs_loadB rfl (by assumption) rfl ?_; conv => whnf) | (refine vs_arrL rfl rfl rfl ?_; conv => whnf) | (refine vs_storeB (by assumption) rfl rfl rfl ?_; intro _ _ _; conv => whnf))
    (refine vdrawAt plan68 (by kernel_rfl) ?_; conv => whnf)
    repeat (first | (refine VReq.mk (by first | decide | omega) ?_; conv => whnf) | (refine VPend.mk rfl ?_; conv => whnf) | (refine VNext.keep rfl ?_; conv => whnf) | (refine vs_loadB rfl (by assumption) rfl ?_; conv => whnf) | (refine vs_arrL rfl rfl rfl ?_; conv => whnf) | (refine vs_storeB (by assumption) rfl rfl rfl ?_; intro _ _ _; conv => whnf))
    refine vcall (by kernel_rfl) (rotate_ok _ _ 17 rfl (by decide) (by decide) _) ?_
    rintro _ _ ⟨rfl, rfl⟩
    conv => whnf
    repeat (first | (refine VReq.mk (by first | decide | omega) ?_; conv => whnf) | (refine VPend.mk rfl ?_; conv => whnf) | (refine VNext.keep rfl ?_; conv => whnf) | (refine vs_loadB rfl (by assumption) rfl ?_; conv => whnf) | (refine vs_arrL rfl rfl rfl ?_; conv => whnf) | (refine vs_storeB (by assumption) rfl rfl rfl ?_; intro _ _ _; conv => whnf))
    refine vcall (by kernel_rfl) (rotate_ok _ _ 32 rfl (by decide) (by decide) _) ?_
    rintro _ _ ⟨rfl, rfl⟩
    conv => whnf
    repeat (first | (refine VReq.mk (by first | decide | omega) ?_; conv => whnf) | (refine VPend.mk rfl ?_; conv => whnf) | (refine VNext.keep rfl ?_; conv => whnf) | (refine vs_loadB rfl (by assumption) rfl ?_; conv => whnf) | (refine vs_arrL rfl rfl rfl ?_; conv => whnf) | (refine vs_storeB (by assumption) rfl rfl rfl ?_; intro _ _ _; conv => whnf))
    refine VBack.mk ⟨_, ?_, i + 1, rfl, ?_, ?_⟩
    · show n - (i + 1) < n - i; omega
    · exact ⟨intEq (incr (by omega)), trivial⟩
    · refine ⟨hlt, ?_, ?_⟩
      · (repeat (first | assumption | exact Only.refl _ _ | refine Only.step (by assumption) ?_ | refine Only.stepP (by assumption) ?_))
      · assumption
  · have hge : ¬ i < n := by simpa using hge
    obtain rfl : i = n := by omega
    conv => whnf
    refine vs_loadNB rfl rfl hb' ?_
    conv => whnf
    have hr1 := Blk.only hr0 ho (by rw [World.size_alloc]; omega)
    refine vs_storeN (o := 0) (vs := (s.rounds i).cells) hr1 rfl rfl rfl ?_
    intro w2 o2 hb2
    conv => whnf
    refine vs_loadNB rfl rfl hb2 ?_
    conv => whnf
    refine VPend.mk rfl ?_
    conv => whnf
    refine VEnd.mk ⟨_, rfl, rfl, ?_⟩
    exact (hB0.trans (ho.below (Nat.le_refl _))).trans (o2.below (by rw [World.size_alloc]; omega))

theorem orI_eq (a b : Int) : orI a b = ((BitVec.ofInt 64 a ||| BitVec.ofInt 64 b).toNat : Int) := by
  unfold orI bitsOp
  show IntKind.u64.wrap ((BitVec.ofInt 64 a ||| BitVec.ofInt 64 b).toNat : Int) = _
  have := (BitVec.ofInt 64 a ||| BitVec.ofInt 64 b).isLt
  exact IntWalk.u64_in _ (by omega)
theorem orI_ofInt (a b : Int) : BitVec.ofInt 64 (orI a b) = BitVec.ofInt 64 a ||| BitVec.ofInt 64 b := by
  rw [orI_eq]
  apply BitVec.eq_of_toNat_eq
  rw [BitVec.toNat_ofInt]
  have := (BitVec.ofInt 64 a ||| BitVec.ofInt 64 b).isLt
  generalize (BitVec.ofInt 64 a ||| BitVec.ofInt 64 b).toNat = n at *
  omega
theorem wrap_u64' (n : Int) : IntKind.u64.wrap n = n % 18446744073709551616 := by
  simp [IntKind.wrap, IntKind.bits, IntKind.signed]
theorem orI_rot (a b c : Int) : orI (orI a b) c = orI (orI a c) b := by
  rw [orI_eq (orI a b), orI_eq (orI a c), orI_ofInt, orI_ofInt, BitVec.or_assoc, BitVec.or_assoc, BitVec.or_comm (BitVec.ofInt 64 b)]
theorem orI_zero (c : Int) (h : 0 ≤ c ∧ c ≤ 18446744073709551615) : orI 0 c = c := by
  rw [orI_eq]
  simp [BitVec.toNat_ofInt]
  omega
theorem last_eq (l : List UInt8) (k : Nat) : lastTo l k = orI (wordTo (l.drop (l.length - l.length % 8)) k) (IntKind.u64.wrap (IntKind.u64.wrap l.length * 2 ^ 56)) := by
  induction k with
  | zero =>
    simp only [lastTo, wordTo]
    rw [orI_zero]
    rw [wrap_u64']
    omega
  | succ k ih =>
    simp only [lastTo, wordTo, ih]
    rw [orI_rot]
    congr 2
    simp [List.getD_eq_getElem?_getD, List.getElem?_drop]

theorem len_mod (n : Nat) : IntKind.u64.wrap (IntKind.u64.wrap (n : Int) * 2 ^ 56) =
    IntKind.u64.wrap (IntKind.u64.wrap (Int.tmod (n : Int) 256) * 2 ^ min (Int.toNat 56) IntKind.u64.bits) := by
  have e : min (Int.toNat 56) IntKind.u64.bits = 56 := by decide
  have e2 : Int.tmod (n : Int) 256 = ((n % 256 : Nat) : Int) := rfl
  rw [e, e2]
  simp only [wrap_u64']
  omega

set_option maxRecDepth 100000 in
theorem sum2_ok (k0 k1 : Int) (oa : Option Addr) (c : Nat) (l : List UInt8) (w : World) (hl : l.length < 4611686018427387904) (hr : Row w oa (bvals l)) :
    Ret Tryd.prog 59 #[.int .u64 k0, .int .u64 k1, .slice oa l.length c] w fun v w' => v = .int .u64 (sumI k0 k1 l) ∧ Below w.heap.size w w' := by
  refine ret_of_vc Tryd.func59 rfl mixed (by kernel_rfl) ?_
  conv => whnf
  refine vs_storeN (Blk.new _ _ _) rfl rfl rfl ?_
  intro w1 o1 hb1
  have hB1 : Below w.heap.size w w1 := ((Below.refl _ _).alloc (Nat.le_refl _) _).trans (o1.below (Nat.le_refl _))
  conv => whnf
  refine vloop (X := Nat) ws59_1 (fun i => [(8, .int .i64 i)])
    (fun i w' => i ≤ l.length / 8 + 1 ∧ Below w.heap.size w w' ∧ ∃ t, t = (if i ≤ l.length / 8 then S4.upto k0 k1 l i else (S4.upto k0 k1 l (l.length / 8)).word (lastTo l (l.length % 8))) ∧ Blk w' w.heap.size t.cells 110) (fun i => l.length / 8 + 1 - i) 0 (by kernel_rfl)
    ?_ ⟨Nat.zero_le _, hB1, S4.init k0 k1, (by rw [if_pos (Nat.zero_le _)]; rfl), hb1⟩ ?_
  · exact ⟨rfl, trivial⟩
  rintro i w2 j ⟨hi, hB2, t, ht, hb2⟩
  conv => whnf
  refine VReq.mk (by decide) ?_
  conv => whnf
  have eq8 : IntKind.i64.wrap (Int.tdiv (l.length : Int) 8) = ((l.length / 8 : Nat) : Int) := by
    rw [show Int.tdiv (l.length : Int) 8 = ((l.length / 8 : Nat) : Int) from rfl, IntWalk.i64_in _ (by omega)]
  refine vif_split (fun hlt => ?_) (fun hge => ?_)
  · have hlt : i ≤ l.length / 8 := by rw [eq8] at hlt; have := of_decide_eq_true hlt; omega
    rw [if_pos hlt] at ht
    obtain ⟨e, he⟩ : ∃ e, e = min 8 (l.length - 8 * i) := ⟨_, rfl⟩
    conv => whnf
    refine vloop (X := Nat) ws59_2 (fun k => [(9, .int .u64 (wordTo (l.drop (8 * i)) k)), (10, .int .i64 k)]) (fun k w' => k ≤ e ∧ w' = w2) (fun k => e - k) 0 (by kernel_rfl) ?_ ⟨by omega, rfl⟩ ?_
    · exact ⟨rfl, rfl, trivial⟩
    rintro k _ j2 ⟨hk, rfl⟩
    have e1 : IntKind.i64.wrap (IntKind.i64.wrap (8 * (i : Int)) + k) = ((8 * i + k : Nat) : Int) := by
      rw [IntWalk.i64_in (8 * (i : Int)) (by omega), IntWalk.i64_in _ (by omega)]; omega
    have e8k : IntKind.i64.wrap (8 * (k : Int)) = ((8 * k : Nat) : Int) := by rw [IntWalk.i64_in _ (by omega)]; omega
    by_cases hke : k < e
    · obtain ⟨b, o, rfl, hbl, hc⟩ := hr.get (by simp; omega)
      conv => whnf
      refine vif_split (fun h1 => ?_) (fun h1 => absurd h1 (by simp; omega))
      conv => whnf
      refine vif_split (fun h2 => ?_) (fun h2 => absurd h2 (by rw [e1]; simp; omega))
      conv => whnf
      refine vs_sl1 (8 * i + k) rfl rfl e1 (by omega) ?_
      conv => whnf
      refine vs_load1 rfl (by rw [hB2.cell (p := ⟨b, o + (8 * i + k), none⟩) hbl]; exact hc _ _ (bvals_get (by omega))) ?_
      conv => whnf
      refine VReq.mk (by rw [e8k, IntWalk.u64_in _ (by omega)]; omega) ?_
      conv => whnf
      refine VBack.mk ⟨_, ?_, k + 1, rfl, ?_, ?_⟩
      · show e - (k + 1) < e - k; omega
      · refine ⟨intEq ?_, intEq (incr (by omega)), trivial⟩
        rw [shl8_eq _ k (by omega) _ (by rw [e8k, IntWalk.u64_in _ (by omega)]), ← getD_drop l (8 * i) k (by omega)]
        rfl
      · exact ⟨hke, rfl⟩
    · obtain rfl : k = e := by omega
      have hwk : wordTo (l.drop (8 * i)) k = wordTo (l.drop (8 * i)) k := rfl
      by_cases hk8 : k = 8
      · conv => whnf
        refine vif_split (fun h1 => absurd h1 (by simp; omega)) (fun h1 => ?_)
        conv => whnf
        refine VReq.mk (by decide) ?_
        conv => whnf
        refine vif_split (fun h3 => absurd h3 (by rw [eq8]; simp; omega)) (fun h3 => ?_)
        conv => whnf
        repeat (first | (refine VReq.mk (by first | decide | omega) ?_; conv => whnf) | (refine VPend.mk rfl ?_; conv => whnf) | (refine VNext.keep rfl ?_; conv => whnf) | (refine vs_loadB rfl (by assumption) rfl ?_; conv => whnf) | (refine vs_arrL rfl rfl rfl ?_; conv => whnf) | (refine vs_storeB (by assumption) rfl rfl rfl ?_; intro _ _ _; conv => whnf))
        rename_i w3 o3 hb3
        refine vs_loadNB rfl rfl hb3 ?_
        conv => whnf
        refine vcall (by kernel_rfl) (rounds2_ok 2 (by decide) ⟨t.a, t.b, t.c, xor t.d (wordTo (l.drop (8 * i)) k)⟩ _) ?_
        rintro _ w4 ⟨t4, ht4, rfl, hB4⟩
        conv => whnf
        have hb4 := hb3.below hB4 hb3.lt
        refine vs_storeN (o := 0) (vs := t4.cells) hb4 rfl rfl rfl ?_
        intro w5 o5 hb5
        conv => whnf
        repeat (first | (refine VReq.mk (by first | decide | omega) ?_; conv => whnf) | (refine VPend.mk rfl ?_; conv => whnf) | (refine VNext.keep rfl ?_; conv => whnf) | (refine vs_loadB rfl (by assumption) rfl ?_; conv => whnf) | (refine vs_arrL rfl rfl rfl ?_; conv => whnf) | (refine vs_storeB (by assumption) rfl rfl rfl ?_; intro _ _ _; conv => whnf))
        rename_i w6 o6 hb6
        have hBB := (hB2.trans (o3.below (Nat.le_refl _))).trans ((hB4.mono (Nat.le_of_lt hb3.lt)).trans ((o5.trans o6).below (Nat.le_refl _)))
        refine VBack.mk ⟨_, ?_, i + 1, rfl, ?_, ?_⟩
        · show l.length / 8 + 1 - (i + 1) < l.length / 8 + 1 - i; omega
        · exact ⟨intEq (incr (by omega)), trivial⟩
        · refine ⟨by omega, hBB, ⟨_, t4.b, t4.c, t4.d⟩, ?_, hb6⟩
          rw [if_pos (by omega)]
          rw [hk8] at ht4
          simp only [S4.upto, S4.word, ← ht]
          rw [← ht4, hk8]
          rfl
      · conv => whnf
        refine vif_split (fun h1 => ?_) (fun h1 => absurd h1 (by simp; omega))
        conv => whnf
        refine vif_split (fun h2 => absurd h2 (by rw [e1]; simp; omega)) (fun h2 => ?_)
        conv => whnf
        refine VReq.mk (by decide) ?_
        conv => whnf
        refine vif_split (fun h3 => ?_) (fun h3 => absurd h3 (by rw [eq8]; simp; omega))
        conv => whnf
        repeat (refine VReq.mk (by decide) ?_; conv => whnf)
        repeat (first | (refine VReq.mk (by first | decide | omega) ?_; conv => whnf) | (refine VPend.mk rfl ?_; conv => whnf) | (refine VNext.keep rfl ?_; conv => whnf) | (refine vs_loadB rfl (by assumption) rfl ?_; conv => whnf) | (refine vs_arrL rfl rfl rfl ?_; conv => whnf) | (refine vs_storeB (by assumption) rfl rfl rfl ?_; intro _ _ _; conv => whnf))
        rename_i w3 o3 hb3
        refine vs_loadNB rfl rfl hb3 ?_
        conv => whnf
        refine vcall (by kernel_rfl) (rounds2_ok 2 (by decide) ⟨t.a, t.b, t.c, xor t.d (bitsOp .or .u64 (wordTo (l.drop (8 * i)) k) (IntKind.u64.wrap (IntKind.u64.wrap (Int.tmod (l.length : Int) 256) * 2 ^ min (Int.toNat 56) IntKind.u64.bits)))⟩ _) ?_
        rintro _ w4 ⟨t4, ht4, rfl, hB4⟩
        conv => whnf
        have hb4 := hb3.below hB4 hb3.lt
        refine vs_storeN (o := 0) (vs := t4.cells) hb4 rfl rfl rfl ?_
        intro w5 o5 hb5
        conv => whnf
        repeat (first | (refine VReq.mk (by first | decide | omega) ?_; conv => whnf) | (refine VPend.mk rfl ?_; conv => whnf) | (refine VNext.keep rfl ?_; conv => whnf) | (refine vs_loadB rfl (by assumption) rfl ?_; conv => whnf) | (refine vs_arrL rfl rfl rfl ?_; conv => whnf) | (refine vs_storeB (by assumption) rfl rfl rfl ?_; intro _ _ _; conv => whnf))
        rename_i w6 o6 hb6
        have hBB := (hB2.trans (o3.below (Nat.le_refl _))).trans ((hB4.mono (Nat.le_of_lt hb3.lt)).trans ((o5.trans o6).below (Nat.le_refl _)))
        refine VBack.mk ⟨_, ?_, i + 1, rfl, ?_, ?_⟩
        · show l.length / 8 + 1 - (i + 1) < l.length / 8 + 1 - i; omega
        · exact ⟨intEq (incr (by omega)), trivial⟩
        · refine ⟨by omega, hBB, ⟨_, t4.b, t4.c, t4.d⟩, ?_, hb6⟩
          have hiq : i = l.length / 8 := by omega
          rw [if_neg (by omega), ← hiq, ← ht]
          have hm : lastTo l (l.length % 8) = bitsOp .or .u64 (wordTo (l.drop (8 * i)) k) (IntKind.u64.wrap (IntKind.u64.wrap (Int.tmod (l.length : Int) 256) * 2 ^ min (Int.toNat 56) IntKind.u64.bits)) := by
            rw [last_eq, len_mod, show l.length - l.length % 8 = 8 * i by omega, show l.length % 8 = k by omega]
            rfl
          rw [hm]
          simp only [S4.word]
          rw [← ht4]
          rfl
  · have hge : ¬ i ≤ l.length / 8 := by rw [eq8] at hge; have := of_decide_eq_false hge; omega
    rw [if_neg hge] at ht
    conv => whnf
    repeat (first | (refine VReq.mk (by first | decide | omega) ?_; conv => whnf) | (refine VPend.mk rfl ?_; conv => whnf) | (refine VNext.keep rfl ?_; conv => whnf) | (refine vs_loadB rfl (by assumption) rfl ?_; conv => whnf) | (refine vs_arrL rfl rfl rfl ?_; conv => whnf) | (refine vs_storeB (by assumption) rfl rfl rfl ?_; intro _ _ _; conv => whnf))
    rename_i w4 o4 hb4
    refine vs_loadNB rfl rfl hb4 ?_
    conv => whnf
    refine vcall (by kernel_rfl) (rounds2_ok 4 (by decide) ⟨t.a, t.b, xor t.c 255, t.d⟩ _) ?_
    rintro _ w5 ⟨t5, ht5, rfl, hB5⟩
    conv => whnf
    have hb5 := hb4.below hB5 hb4.lt
    refine vs_storeN (o := 0) (vs := t5.cells) hb5 rfl rfl rfl ?_
    intro w6 o6 hb6
    conv => whnf
    repeat (first | (refine VReq.mk (by first | decide | omega) ?_; conv => whnf) | (refine VPend.mk rfl ?_; conv => whnf) | (refine VNext.keep rfl ?_; conv => whnf) | (refine vs_loadB rfl (by assumption) rfl ?_; conv => whnf) | (refine vs_arrL rfl rfl rfl ?_; conv => whnf) | (refine vs_storeB (by assumption) rfl rfl rfl ?_; intro _ _ _; conv => whnf))
    refine VEnd.mk ⟨?_, (hB2.trans (o4.below (Nat.le_refl _))).trans ((hB5.mono (Nat.le_of_lt hb4.lt)).trans (o6.below (Nat.le_refl _)))⟩
    have : sumI k0 k1 l = xor (xor (xor t5.a t5.b) t5.c) t5.d := by
      unfold sumI S4.done
      rw [← ht, ← ht5]
    rw [this]
    rfl

end Go.Proofs.YthnncehddnfjmaaDoor.Dg
