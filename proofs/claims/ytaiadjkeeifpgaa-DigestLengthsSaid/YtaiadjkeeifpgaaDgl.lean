/- The walk of the law DigestLengths. No condition. -/
import Derived.Test.YtaiadjkeeifpgaaDg9
namespace Go.Proofs.Ytaiadjkeeifpgaa.Dg
open Go Go.RowKit Go.Proofs.Ytaiadjkeeifpgaa.Vc
attribute [local irreducible] loadVar storeVar Instr.indexAt Instr.index Instr.sliceAt Instr.makeSlice Instr.lookup Instr.mapUpdate Instr.range Instr.next Instr.entry Instr.makeMap Builtin.append_ Builtin.copy_ Builtin.len_ Builtin.min_ Builtin.max_ Builtin.cap_ Builtin.delete_ Builtin.clear_ convert binOp eqGuard Op.unary Calls

theorem rep_bvals (l : List UInt8) (h : l = List.replicate l.length 0) : (List.replicate l.length [Value.int .u8 0]).flatten = bvals l := by
  have : ∀ n : Nat, (List.replicate n [Value.int .u8 0]).flatten = bvals (List.replicate n 0) := by
    intro n
    induction n with
    | zero => rfl
    | succ n ih => rw [List.replicate_succ, List.flatten_cons, ih]; rfl
  rw [this, ← h]
theorem lenN (n : Int) : ∃ l : List UInt8, (IntKind.i64.wrap (n.tmod 300 + 300)).tmod 300 = l.length ∧ l.length < 300 ∧ l = List.replicate l.length 0 := by
  have h1 : -300 < n.tmod 300 ∧ n.tmod 300 < 300 := by
    refine ⟨?_, Int.tmod_lt_of_pos _ (by decide)⟩
    have := Int.lt_tmod_of_pos n (b := 300) (by decide)
    omega
  rw [IntWalk.i64_in _ (by omega)]
  have h2 : 0 ≤ (n.tmod 300 + 300).tmod 300 ∧ (n.tmod 300 + 300).tmod 300 < 300 := ⟨Int.tmod_nonneg _ (by omega), Int.tmod_lt_of_pos _ (by decide)⟩
  refine ⟨List.replicate ((n.tmod 300 + 300).tmod 300).toNat 0, ?_, ?_, ?_⟩
  · simp; omega
  · simp; omega
  · simp
/-- Frame of one field in a block of its own -/
theorem frameB_ok (s : Nat) (T : TypeId) (oa : Option Addr) (c : Nat) (l : List UInt8) (w : World) (hl : l.length < 10000) (hs : Blk w s [.slice oa l.length c] T) (hc : l.length ≤ c) (hn : oa = none → c = 0) (hr : Row w oa (bvals l)) :
    Ret Try.prog 12 #[.slice (some ⟨s, 0, none⟩) 1 1] w fun v w' => ∃ oa' c', v = .slice oa' (frame [l]).length c' ∧ Row w' oa' (bvals (frame [l])) ∧ Below w.heap.size w w' := by
  have hfl : (frame [l]).length = 8 + l.length := by simp [frame, lenTo_len]
  refine (frame_ok (some ⟨s, 0, none⟩) 1 [.slice oa l.length c] [l] w (by simp) (by omega) hs.row ⟨rfl, fun i hi => ?_⟩).mono ?_
  · obtain rfl : i = 0 := by simpa using hi
    exact ⟨_, _, rfl, hc, hn, hr⟩
  · rintro _ w' ⟨oa', c', rfl, ho, hB⟩
    exact ⟨oa', c', rfl, ho.row, hB⟩
theorem frameB2_ok (s : Nat) (T : TypeId) (oa ob : Option Addr) (c d : Nat) (l k : List UInt8) (w : World) (hl : l.length < 10000) (hk : k.length < 10000) (hs : Blk w s [.slice oa l.length c, .slice ob k.length d] T)
    (hc : l.length ≤ c) (hn : oa = none → c = 0) (hr : Row w oa (bvals l)) (hd : k.length ≤ d) (hm : ob = none → d = 0) (hq : Row w ob (bvals k)) :
    Ret Try.prog 12 #[.slice (some ⟨s, 0, none⟩) 2 2] w fun v w' => ∃ oa' c', v = .slice oa' (16 + l.length + k.length) c' ∧ Below w.heap.size w w' := by
  have hfl : (frame [l, k]).length = 16 + l.length + k.length := by simp [frame, lenTo_len]; omega
  refine (frame_ok (some ⟨s, 0, none⟩) 2 [.slice oa l.length c, .slice ob k.length d] [l, k] w (by simp) (by omega) hs.row ⟨rfl, fun i hi => ?_⟩).mono ?_
  · match i, hi with
    | 0, _ => exact ⟨_, _, rfl, hc, hn, hr⟩
    | 1, _ => exact ⟨_, _, rfl, hd, hm, hq⟩
  · rintro _ w' ⟨oa', c', rfl, ho, hB⟩
    exact ⟨oa', c', by rw [hfl], hB⟩


set_option maxRecDepth 100000 in
theorem lawLen_ok (key n : Int) (w : World) :
    Ret Try.prog 6 #[.int .u64 key, .int .i64 n] w fun v w' => v = .bool true ∧ Below w.heap.size w w' := by
  refine ret_of_vc Try.func6 rfl mixed (by kernel_rfl) ?_
  obtain ⟨lb, hm, hlt, hz⟩ := lenN n
  obtain ⟨lc, hlc, hzc⟩ : ∃ l : List UInt8, l.length = lb.length + 1 ∧ l = List.replicate l.length 0 := ⟨List.replicate (lb.length + 1) 0, by simp, by simp⟩
  conv => whnf
  refine vcall (by kernel_rfl) (awake_ok w) ?_
  rintro _ w1 ⟨rfl, hB1⟩
  conv => whnf
  repeat (first | (refine VReq.mk (by first | decide | omega) ?_; conv => whnf) | (refine VPend.mk rfl ?_; conv => whnf) | (refine VNext.keep rfl ?_; conv => whnf) | (refine vs_loadB rfl (by assumption) rfl ?_; conv => whnf) | (refine vs_arrL rfl rfl rfl ?_; conv => whnf) | (refine vs_storeB (by assumption) rfl rfl rfl ?_; intro _ _ _; conv => whnf))
  rw [hm]
  refine vs_make (sz := 1) (by_ := 1) (n := lb.length) (zs := [.int .u8 0]) rfl rfl rfl rfl rfl rfl rfl rfl (by omega) (by unfold maxLen; omega) ?_
  rw [rep_bvals lb hz]
  intro w2 hw2 hb2
  have hB2 : Below w.heap.size w w2 := by rw [hw2]; exact balloc hB1 (Nat.le_refl _) _
  conv => whnf
  refine vs_make (sz := 1) (by_ := 1) (n := lc.length) (zs := [.int .u8 0]) rfl rfl rfl rfl rfl rfl (by rw [incr (by omega), hlc]) (by rw [incr (by omega), hlc]) (by omega) (by unfold maxLen; omega) ?_
  rw [rep_bvals lc hzc]
  intro w3 hw3 hc3
  have hB3 : Below w.heap.size w w3 := by rw [hw3]; exact balloc hB2 (Nat.le_refl _) _
  have hb3 : Blk w3 w1.heap.size (bvals lb) 5 := by rw [hw3]; exact hb2.alloc _
  have hrb := hb3.row
  have hrc := hc3.row
  have hnb : some (⟨w1.heap.size, 0, none⟩ : Addr) = none → lb.length = 0 := fun e => by cases e
  have hnc : some (⟨w2.heap.size, 0, none⟩ : Addr) = none → lc.length = 0 := fun e => by cases e
  clear hb3 hc3 hb2 hw2 hw3 hB1 hB2
  generalize some (⟨w1.heap.size, 0, none⟩ : Addr) = ob at *
  generalize some (⟨w2.heap.size, 0, none⟩ : Addr) = oc at *
  obtain ⟨sb, hsb⟩ : ∃ s, s = sumI key 0 lb := ⟨_, rfl⟩
  obtain ⟨fb, hfb⟩ : ∃ s, s = frame [lb] := ⟨_, rfl⟩
  obtain ⟨fc, hfc⟩ : ∃ s, s = frame [lc] := ⟨_, rfl⟩
  have hne : sEq ⟨fb.toArray⟩ ⟨fc.toArray⟩ = false := by
    rw [sEq_mk, beq_eq_false_iff_ne]
    intro e
    have e1 : fb.length = 8 + lb.length := by rw [hfb]; simp [frame, lenTo_len]
    have e2 : fc.length = 8 + lc.length := by rw [hfc]; simp [frame, lenTo_len]
    rw [e] at e1
    omega
  obtain ⟨sc, hsc⟩ : ∃ s, s = sumI key 0 lc := ⟨_, rfl⟩
  conv => whnf
  (refine vdrawB plan6 (by kernel_rfl) ?_; conv => whnf)
  refine vcall (by kernel_rfl) (sum_ok key 0 ob _ lb _ (by omega) hrb.drew) ?_
  rw [← hsb]
  rintro _ w4 ⟨rfl, hB4⟩
  have hB4' : Below w3.heap.size w3 w4 := Below.ofDrew hB4
  have hrb4 := hrb.below hB4'
  conv => whnf
  refine VNext.below hB4 ?_
  conv => whnf
  refine vcall (by kernel_rfl) (sum2_ok key 0 ob _ lb _ (by omega) hrb4) ?_
  rw [← hsb]
  rintro _ w5 ⟨rfl, hB5⟩
  have hB5' := hB4'.trans (hB5.mono hB4'.size)
  have hrc5 := hrc.below hB5'
  conv => whnf
  refine VNext.below hB5 ?_
  conv => whnf
  (refine VPend.mk (fun u _ => ?_) ?_; (focus (conv => whnf)); (conv => whnf))
  refine vif_true (by simp) ?_
  conv => whnf
  refine vcall (by kernel_rfl) (sum_ok key 0 oc _ lc _ (by omega) hrc5) ?_
  rw [← hsc]
  rintro _ w6 ⟨rfl, hB6⟩
  have hB6' := hB5'.trans (hB6.mono hB5'.size)
  have hrc6 := hrc.below hB6'
  conv => whnf
  refine VNext.below hB6 ?_
  conv => whnf
  refine vcall (by kernel_rfl) (sum2_ok key 0 oc _ lc _ (by omega) hrc6) ?_
  rw [← hsc]
  rintro _ w7 ⟨rfl, hB7⟩
  have hB7' := hB6'.trans (hB7.mono hB6'.size)
  conv => whnf
  refine VNext.below hB7 ?_
  conv => whnf
  repeat (refine VPend.mk (fun u _ => ?_) ?_; (focus (conv => whnf)); (conv => whnf))
  refine vif_true (by simp) ?_
  conv => whnf
  refine ⟨?_, ?_⟩
  · conv => whnf
    have hs8 := Blk.new w7 #[.slice ob lb.length lb.length] 23
    have hB8 : Below w7.heap.size w7 (w7.alloc (.cells #[.slice ob lb.length lb.length] 23)) := balloc (Below.refl _ _) (Nat.le_refl _) _
    have hB8' := hB7'.trans (hB8.mono hB7'.size)
    refine VNext.below hB8 ?_
    generalize w7.alloc (.cells #[.slice ob lb.length lb.length] 23) = w8 at *
    refine ⟨?_, ?_⟩
    · conv => whnf
      refine vcall (by kernel_rfl) (frameB_ok _ _ ob _ lb _ (by omega) hs8 (Nat.le_refl _) hnb (hrb.below hB8')) ?_
      rw [← hfb]
      rintro _ w9 ⟨o9, c9, rfl, hr9, hB9⟩
      have hB9' := hB8'.trans (hB9.mono hB8'.size)
      conv => whnf
      refine VNext.below hB9 ?_
      conv => whnf
      (refine vs_b2s rfl rfl rfl rfl hr9 ?_; (conv => whnf); refine VPend.mk rfl ?_; (conv => whnf); refine VPend.mk (fun u hu => ?_) ?_; (focus ((conv => whnf); exact vs_b2s rfl rfl rfl rfl (Row.below hr9 hu) (VPend.mk rfl rfl))); (conv => whnf))
      have hs10 := Blk.new w9 #[.slice oc lc.length lc.length] 23
      have hB10 : Below w9.heap.size w9 (w9.alloc (.cells #[.slice oc lc.length lc.length] 23)) := balloc (Below.refl _ _) (Nat.le_refl _) _
      have hB10' := hB9'.trans (hB10.mono hB9'.size)
      refine VNext.below hB10 ?_
      generalize w9.alloc (.cells #[.slice oc lc.length lc.length] 23) = w10 at *
      conv => whnf
      refine vcall (by kernel_rfl) (frameB_ok _ _ oc _ lc _ (by omega) hs10 (Nat.le_refl _) hnc (hrc.below hB10')) ?_
      rw [← hfc]
      rintro _ w11 ⟨o11, c11, rfl, hr11, hB11⟩
      have hB11' := hB10'.trans (hB11.mono hB10'.size)
      conv => whnf
      refine VNext.below hB11 ?_
      conv => whnf
      (refine vs_b2s rfl rfl rfl rfl hr11 ?_; (conv => whnf); refine VPend.mk rfl ?_; (conv => whnf); refine VPend.mk (fun u hu => ?_) ?_; (focus ((conv => whnf); exact vs_b2s rfl rfl rfl rfl (Row.below hr11 hu) (VPend.mk rfl rfl))); (conv => whnf))
      repeat (refine VPend.mk (fun u _ => ?_) ?_; (focus (conv => whnf)); (conv => whnf))
      refine vif_true (by simp [hne]) ?_
      conv => whnf
      repeat (refine VPend.mk (fun u _ => ?_) ?_; (focus (conv => whnf)); (conv => whnf))
      have hsz := Blk.new w11 #[.slice ob lb.length lb.length, .slice oc lc.length lc.length] 23
      have hBz : Below (w11).heap.size w11 ((w11).alloc (.cells #[.slice ob lb.length lb.length, .slice oc lc.length lc.length] 23)) := balloc (Below.refl _ _) (Nat.le_refl _) _
      have hBz' := (hB11').trans (hBz.mono (hB11').size)
      refine VNext.below hBz ?_
      generalize (w11).alloc (.cells #[.slice ob lb.length lb.length, .slice oc lc.length lc.length] 23) = wz at *
      conv => whnf
      refine vcall (by kernel_rfl) (frameB2_ok _ _ ob oc _ _ lb lc _ (by omega) (by omega) hsz (Nat.le_refl _) hnb (hrb.below hBz') (Nat.le_refl _) hnc (hrc.below hBz')) ?_
      rintro _ wy ⟨oy, cy, rfl, hBy⟩
      have hBy' := hBz'.trans (hBy.mono hBz'.size)
      conv => whnf
      refine VNext.below hBy ?_
      conv => whnf
      repeat (refine VPend.mk (fun u _ => ?_) ?_; (focus (conv => whnf)); (conv => whnf))
      refine VEnd.mk ⟨?_, hB3.trans (hBy'.mono hB3.size)⟩
      show Value.bool _ = _
      have e1 : IntKind.i64.wrap (2 * (lb.length : Int)) = 2 * lb.length := IntWalk.i64_in _ (by omega)
      have e2 : IntKind.i64.wrap (2 * (lb.length : Int) + 17) = 2 * lb.length + 17 := IntWalk.i64_in _ (by omega)
      rw [e1, e2]
      have e3 : ((16 + lb.length + lc.length : Nat) : Int) = 2 * lb.length + 17 := by omega
      rw [e3]
      simp
    · conv => whnf
      have hs9 := Blk.new w8 #[.slice oc lc.length lc.length] 23
      have hB9 : Below w8.heap.size w8 (w8.alloc (.cells #[.slice oc lc.length lc.length] 23)) := balloc (Below.refl _ _) (Nat.le_refl _) _
      have hB9' := hB8'.trans (hB9.mono hB8'.size)
      have hs8b := hs8.below hB9 hs8.lt
      refine VNext.below hB9 ?_
      generalize w8.alloc (.cells #[.slice oc lc.length lc.length] 23) = w9 at *
      conv => whnf
      refine vcall (by kernel_rfl) (frameB_ok _ _ ob _ lb _ (by omega) hs8b (Nat.le_refl _) hnb (hrb.below hB9')) ?_
      rw [← hfb]
      rintro _ w10 ⟨o10, c10, rfl, hr10, hB10⟩
      have hB10' := hB9'.trans (hB10.mono hB9'.size)
      have hs9b := hs9.below hB10 hs9.lt
      conv => whnf
      refine VNext.below hB10 ?_
      conv => whnf
      (refine vs_b2s rfl rfl rfl rfl hr10 ?_; (conv => whnf); refine VPend.mk rfl ?_; (conv => whnf); refine VPend.mk (fun u hu => ?_) ?_; (focus ((conv => whnf); exact vs_b2s rfl rfl rfl rfl (Row.below hr10 hu) (VPend.mk rfl rfl))); (conv => whnf))
      refine vcall (by kernel_rfl) (frameB_ok _ _ oc _ lc _ (by omega) hs9b (Nat.le_refl _) hnc (hrc.below hB10')) ?_
      rw [← hfc]
      rintro _ w11 ⟨o11, c11, rfl, hr11, hB11⟩
      have hB11' := hB10'.trans (hB11.mono hB10'.size)
      conv => whnf
      refine VNext.below hB11 ?_
      conv => whnf
      (refine vs_b2s rfl rfl rfl rfl hr11 ?_; (conv => whnf); refine VPend.mk rfl ?_; (conv => whnf); refine VPend.mk (fun u hu => ?_) ?_; (focus ((conv => whnf); exact vs_b2s rfl rfl rfl rfl (Row.below hr11 hu) (VPend.mk rfl rfl))); (conv => whnf))
      repeat (refine VPend.mk (fun u _ => ?_) ?_; (focus (conv => whnf)); (conv => whnf))
      refine vif_true (by simp [hne]) ?_
      conv => whnf
      repeat (refine VPend.mk (fun u _ => ?_) ?_; (focus (conv => whnf)); (conv => whnf))
      have hsz := Blk.new w11 #[.slice ob lb.length lb.length, .slice oc lc.length lc.length] 23
      have hBz : Below (w11).heap.size w11 ((w11).alloc (.cells #[.slice ob lb.length lb.length, .slice oc lc.length lc.length] 23)) := balloc (Below.refl _ _) (Nat.le_refl _) _
      have hBz' := (hB11').trans (hBz.mono (hB11').size)
      refine VNext.below hBz ?_
      generalize (w11).alloc (.cells #[.slice ob lb.length lb.length, .slice oc lc.length lc.length] 23) = wz at *
      conv => whnf
      refine vcall (by kernel_rfl) (frameB2_ok _ _ ob oc _ _ lb lc _ (by omega) (by omega) hsz (Nat.le_refl _) hnb (hrb.below hBz') (Nat.le_refl _) hnc (hrc.below hBz')) ?_
      rintro _ wy ⟨oy, cy, rfl, hBy⟩
      have hBy' := hBz'.trans (hBy.mono hBz'.size)
      conv => whnf
      refine VNext.below hBy ?_
      conv => whnf
      repeat (refine VPend.mk (fun u _ => ?_) ?_; (focus (conv => whnf)); (conv => whnf))
      refine VEnd.mk ⟨?_, hB3.trans (hBy'.mono hB3.size)⟩
      show Value.bool _ = _
      have e1 : IntKind.i64.wrap (2 * (lb.length : Int)) = 2 * lb.length := IntWalk.i64_in _ (by omega)
      have e2 : IntKind.i64.wrap (2 * (lb.length : Int) + 17) = 2 * lb.length + 17 := IntWalk.i64_in _ (by omega)
      rw [e1, e2]
      have e3 : ((16 + lb.length + lc.length : Nat) : Int) = 2 * lb.length + 17 := by omega
      rw [e3]
      simp
  · conv => whnf
    have hs8 := Blk.new w7 #[.slice oc lc.length lc.length] 23
    have hB8 : Below w7.heap.size w7 (w7.alloc (.cells #[.slice oc lc.length lc.length] 23)) := balloc (Below.refl _ _) (Nat.le_refl _) _
    have hB8' := hB7'.trans (hB8.mono hB7'.size)
    refine VNext.below hB8 ?_
    generalize w7.alloc (.cells #[.slice oc lc.length lc.length] 23) = w8 at *
    conv => whnf
    have hs9 := Blk.new w8 #[.slice ob lb.length lb.length] 23
    have hB9 : Below w8.heap.size w8 (w8.alloc (.cells #[.slice ob lb.length lb.length] 23)) := balloc (Below.refl _ _) (Nat.le_refl _) _
    have hB9' := hB8'.trans (hB9.mono hB8'.size)
    have hs8b := hs8.below hB9 hs8.lt
    refine VNext.below hB9 ?_
    generalize w8.alloc (.cells #[.slice ob lb.length lb.length] 23) = w9 at *
    conv => whnf
    refine vcall (by kernel_rfl) (frameB_ok _ _ ob _ lb _ (by omega) hs9 (Nat.le_refl _) hnb (hrb.below hB9')) ?_
    rw [← hfb]
    rintro _ w10 ⟨o10, c10, rfl, hr10, hB10⟩
    have hB10' := hB9'.trans (hB10.mono hB9'.size)
    have hs8c := hs8b.below hB10 hs8b.lt
    conv => whnf
    refine VNext.below hB10 ?_
    conv => whnf
    (refine vs_b2s rfl rfl rfl rfl hr10 ?_; (conv => whnf); refine VPend.mk rfl ?_; (conv => whnf); refine VPend.mk (fun u hu => ?_) ?_; (focus ((conv => whnf); exact vs_b2s rfl rfl rfl rfl (Row.below hr10 hu) (VPend.mk rfl rfl))); (conv => whnf))
    refine vcall (by kernel_rfl) (frameB_ok _ _ oc _ lc _ (by omega) hs8c (Nat.le_refl _) hnc (hrc.below hB10')) ?_
    rw [← hfc]
    rintro _ w11 ⟨o11, c11, rfl, hr11, hB11⟩
    have hB11' := hB10'.trans (hB11.mono hB10'.size)
    conv => whnf
    refine VNext.below hB11 ?_
    conv => whnf
    (refine vs_b2s rfl rfl rfl rfl hr11 ?_; (conv => whnf); refine VPend.mk rfl ?_; (conv => whnf); refine VPend.mk (fun u hu => ?_) ?_; (focus ((conv => whnf); exact vs_b2s rfl rfl rfl rfl (Row.below hr11 hu) (VPend.mk rfl rfl))); (conv => whnf))
    repeat (refine VPend.mk (fun u _ => ?_) ?_; (focus (conv => whnf)); (conv => whnf))
    refine vif_true (by simp [hne]) ?_
    conv => whnf
    repeat (refine VPend.mk (fun u _ => ?_) ?_; (focus (conv => whnf)); (conv => whnf))
    have hsz := Blk.new w11 #[.slice ob lb.length lb.length, .slice oc lc.length lc.length] 23
    have hBz : Below (w11).heap.size w11 ((w11).alloc (.cells #[.slice ob lb.length lb.length, .slice oc lc.length lc.length] 23)) := balloc (Below.refl _ _) (Nat.le_refl _) _
    have hBz' := (hB11').trans (hBz.mono (hB11').size)
    refine VNext.below hBz ?_
    generalize (w11).alloc (.cells #[.slice ob lb.length lb.length, .slice oc lc.length lc.length] 23) = wz at *
    conv => whnf
    refine vcall (by kernel_rfl) (frameB2_ok _ _ ob oc _ _ lb lc _ (by omega) (by omega) hsz (Nat.le_refl _) hnb (hrb.below hBz') (Nat.le_refl _) hnc (hrc.below hBz')) ?_
    rintro _ wy ⟨oy, cy, rfl, hBy⟩
    have hBy' := hBz'.trans (hBy.mono hBz'.size)
    conv => whnf
    refine VNext.below hBy ?_
    conv => whnf
    repeat (refine VPend.mk (fun u _ => ?_) ?_; (focus (conv => whnf)); (conv => whnf))
    refine VEnd.mk ⟨?_, hB3.trans (hBy'.mono hB3.size)⟩
    show Value.bool _ = _
    have e1 : IntKind.i64.wrap (2 * (lb.length : Int)) = 2 * lb.length := IntWalk.i64_in _ (by omega)
    have e2 : IntKind.i64.wrap (2 * (lb.length : Int) + 17) = 2 * lb.length + 17 := IntWalk.i64_in _ (by omega)
    rw [e1, e2]
    have e3 : ((16 + lb.length + lc.length : Nat) : Int) = 2 * lb.length + 17 := by omega
    rw [e3]
    simp

end Go.Proofs.Ytaiadjkeeifpgaa.Dg
