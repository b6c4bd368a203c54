/- The walks of wire's Reader: New, Err, Fail, Number, length, Count. Condition: sizes. -/
import Derived.Test.YtmhpfadbmpipkaaGreatDoorCaw
set_option linter.unusedVariables false
set_option linter.unusedSimpArgs false
namespace Go.Proofs.YtmhpfadbmpipkaaGreatDoor.Cl
open Go Go.RowKit Go.Proofs Go.Proofs.YtmhpfadbmpipkaaGreatDoor.Vc Go.Proofs.YtmhpfadbmpipkaaGreatDoor.Ax
attribute [local irreducible] loadVar storeVar Instr.indexAt Instr.index Instr.sliceAt Instr.makeSlice Instr.lookup Instr.mapUpdate Instr.range Instr.next Instr.entry Instr.makeMap Builtin.append_ Builtin.copy_ Builtin.len_ Builtin.min_ Builtin.max_ Builtin.cap_ Builtin.delete_ Builtin.clear_ convert binOp eqGuard Op.unary Calls
/-- a reader: the bytes that are left, and its error -/
def rdB (b : By) (e : Int) : ABlk := .var 104 [bs b, iv e]
def RdR (x : Int) (b : By) (e : Int) (a : AV) (n : Nat) (H : AHeap) : Prop := a = iv x ∧ n = 1 ∧ H = [(0, rdB b e)]
set_option maxHeartbeats 4000000 in
set_option maxRecDepth 100000 in
theorem newA (b : By) (hb : b.length ≤ 3000000) : AFn Tryz.prog GC 31 [bs b] 0 [] (fun a n H => a = .ptr 0 0 ∧ n = 1 ∧ H = [(0, rdB b 0)]) := by
  have h := ownA b [] (by simp; omega)
  rw [List.append_nil] at h
  refine afn_of Tryz.func31 rfl mixed (by kernel_rfl) ?_
  conv => whnf
  (refine acallF [] (by kernel_rfl) (h) ?_ ?_; (focus (repeat' (first | rfl | trivial | apply And.intro))))
  rintro _ _ _ ⟨rfl, rfl, rfl⟩
  conv => whnf
  exact aend (.ptr 0 0) 1 _ [(0, .lab 1)] [0] ⟨rfl, rfl, rfl⟩ rfl (by repeat' (first | rfl | trivial | apply And.intro)) (by repeat' (first | rfl | trivial | apply And.intro))
set_option maxHeartbeats 4000000 in
set_option maxRecDepth 100000 in
theorem errA (b : By) (e : Int) : AFn Tryz.prog GC 33 [.ptr 0 0] 1 [(0, rdB b e)] (RdR e b e) := by
  refine afn_of Tryz.func33 rfl mixed (by kernel_rfl) ?_
  conv => whnf
  exact aend (iv e) 1 [(0, rdB b e)] [] [] ⟨rfl, rfl, rfl⟩ rfl (by repeat' (first | rfl | trivial | apply And.intro)) (by repeat' (first | rfl | trivial | apply And.intro))
set_option maxHeartbeats 4000000 in
set_option maxRecDepth 100000 in
theorem failA (b : By) (e f : Int) : AFn Tryz.prog GC 92 [.ptr 0 0, iv f] 1 [(0, rdB b e)] (fun a n H => a = .tup [] ∧ n = 1 ∧ H = [(0, rdB b (if e = 0 then f else e))]) := by
  refine afn_of Tryz.func92 rfl mixed (by kernel_rfl) ?_
  conv => whnf
  refine vif_split (fun h => ?_) (fun h => ?_)
  · have h0 : e = 0 := by simpa using h
    conv => whnf
    exact aend (.tup []) 1 [(0, rdB b f)] [] [] ⟨rfl, rfl, by rw [if_pos h0]⟩ rfl (by repeat' (first | rfl | trivial | apply And.intro)) (by repeat' (first | rfl | trivial | apply And.intro))
  · have h0 : e ≠ 0 := by simpa using h
    conv => whnf
    exact aend (.tup []) 1 [(0, rdB b e)] [] [] ⟨rfl, rfl, by rw [if_neg h0]⟩ rfl (by repeat' (first | rfl | trivial | apply And.intro)) (by repeat' (first | rfl | trivial | apply And.intro))
theorem rnT_bad {b : By} {e : Int} (h : rdN b 0 0 = .bad e) : rnT b 0 = (0, 0, e) := by unfold rnT; rw [if_pos rfl, h]
theorem rnT_good {b : By} {n : Int} {k : Nat} (h : rdN b 0 0 = .ok n k) : rnT b 0 = (n, k, 0) := by unfold rnT; rw [if_pos rfl, h]
theorem rnT_err {b : By} {e : Int} (h : e ≠ 0) : rnT b e = (0, 0, e) := by unfold rnT; rw [if_neg h]
structure NX where
  i : Nat
  u : Nat
/-- how far a reading is -/
def NI (b : By) (i u : Nat) : Prop := rdN b 0 0 = rdN (b.drop i) i u ∧ u < 128 ^ i ∧ i ≤ 9 ∧ i ≤ b.length
theorem NI.last {b : By} {i u : Nat} (h : NI b i u) (hl : b.length ≤ i) : rdN b 0 0 = .bad 16 := by
  rw [h.1, List.drop_eq_nil_of_le hl]; rfl
theorem NI.cons {b : By} {i u : Nat} (h : NI b i u) (hl : i < b.length) : rdN b 0 0 = if i = 9 ∧ 1 < b[i].toNat then .bad 3 else if 128 ≤ b[i].toNat then rdN (b.drop (i + 1)) (i + 1) (u + b[i].toNat % 128 * 128 ^ i) else if b[i].toNat = 0 ∧ 0 < i then .bad 1 else .ok (zz (u + b[i].toNat % 128 * 128 ^ i)) (i + 1) := by
  rw [h.1, List.drop_eq_getElem_cons hl]; rfl
theorem NI.lt {i u c : Nat} (hu : u < 128 ^ i) : u + c % 128 * 128 ^ i < 128 ^ (i + 1) := by
  have h1 : c % 128 ≤ 127 := by omega
  have h2 := Nat.mul_le_mul_right (128 ^ i) h1
  rw [pow128]; omega
theorem c_and (c : UInt8) : IntKind.u64.wrap (bitsOp .and .u8 (c.toNat : Int) 127) = ((c.toNat % 128 : Nat) : Int) := by
  have e : (127 : Int) = ((127 : Nat) : Int) := rfl
  have hc := c.toNat_lt
  rw [e, bo_and8 _ _ (by omega) (by decide), and127, wr_u64 (by omega)]
theorem u_and {u : Nat} (hu : u < 18446744073709551616) : bitsOp .and .u64 (u : Int) 1 = ((u % 2 : Nat) : Int) := by
  have e : (1 : Int) = ((1 : Nat) : Int) := rfl
  rw [e, bo_and64 _ 1 hu (by decide), and1]
set_option maxHeartbeats 8000000 in
set_option maxRecDepth 100000 in
theorem numberA (b : By) (e : Int) (hb : b.length ≤ 3000000) : AFn Tryz.prog GC 56 [.ptr 0 0] 1 [(0, rdB b e)] (RdR (rnT b e).1 (b.drop (rnT b e).2.1) (rnT b e).2.2) := by
  refine afn_of Tryz.func56 rfl mixed (by kernel_rfl) ?_
  conv => whnf
  refine vif_split (fun h => ?_) (fun h => ?_)
  · have h0 : e ≠ 0 := by simpa using h
    conv => whnf
    exact aend (iv 0) 1 [(0, rdB b e)] [] [] (by rw [rnT_err h0]; exact ⟨rfl, rfl, rfl⟩) rfl (by repeat' (first | rfl | trivial | apply And.intro)) (by repeat' (first | rfl | trivial | apply And.intro))
  have h0 : e = 0 := by simpa using h
  subst h0
  conv => whnf
  refine aloopH ws56_1 [3, 4] (fun x : NX => [(3, uv x.u), (4, iv x.i)]) (fun x => NI b x.i x.u) (fun x => b.length - x.i) ⟨0, 0⟩ (by kernel_rfl) (fun _ => rfl) (by kernel_rfl) ⟨rfl, by decide, by decide, Nat.zero_le _⟩ (by repeat' (first | rfl | trivial | apply And.intro)) (by repeat' (first | rfl | trivial | apply And.intro)) ?_
  rintro ⟨i, u⟩ hN
  change NI b i u at hN
  have hi := hN.2.2.1
  have hu := hN.2.1
  conv => whnf
  refine vif_split (fun h1 => ?_) (fun h1 => ?_)
  · have hil : b.length ≤ i := by simp at h1; omega
    conv => whnf
    exact aend (iv 0) 1 [(0, rdB b 16)] [] [] (by rw [rnT_bad (hN.last hil)]; exact ⟨rfl, rfl, rfl⟩) rfl (by repeat' (first | rfl | trivial | apply And.intro)) (by repeat' (first | rfl | trivial | apply And.intro))
  have hil : i < b.length := by simp at h1; omega
  have hc := hN.cons hil
  conv => whnf
  refine AIn.mk' i rfl (by rw [List.length_map]; exact hil) ?_
  conv => whnf
  refine ARd.map hil ?_
  conv => whnf
  generalize b[i] = c at *
  have hcl := c.toNat_lt
  refine vif_split (fun h2 => ?_) (fun h2 => ?_)
  · have h9 : i = 9 := by simp at h2; omega
    conv => whnf
    refine vif_split (fun h3 => ?_) (fun h3 => ?_)
    · have hc1 : 1 < c.toNat := by simp at h3; omega
      conv => whnf
      exact aend (iv 0) 1 [(0, rdB b 3)] [] [] (by rw [rnT_bad (by rw [hc, if_pos ⟨h9, hc1⟩])]; exact ⟨rfl, rfl, rfl⟩) rfl (by repeat' (first | rfl | trivial | apply And.intro)) (by repeat' (first | rfl | trivial | apply And.intro))
    · have hc1 : c.toNat ≤ 1 := by simp at h3; omega
      have hn9 : ¬ (i = 9 ∧ 1 < c.toNat) := by omega
      have hx9 : i = 9 → c.toNat % 128 ≤ 1 := by omega
      have hx := shl_at (x := c.toNat % 128) hi (Nat.mod_lt _ (by decide)) hx9
      have hU : u + c.toNat % 128 * 128 ^ i < 18446744073709551616 := by
        have h1 := NI.lt (c := c.toNat) hu
        rcases Nat.lt_or_ge i 9 with h2 | h2
        · have h3 : 128 ^ (i + 1) ≤ 128 ^ 9 := Nat.pow_le_pow_right (by decide) (by omega)
          have h4 : (128 : Nat) ^ 9 < 18446744073709551616 := by decide
          omega
        · have h3 : i = 9 := by omega
          have h4 := hx9 h3
          subst h3
          have h5 : (128 : Nat) ^ 9 = 9223372036854775808 := by decide
          have h6 := Nat.mul_le_mul_right (128 ^ 9) h4
          rw [h5] at hu h6 ⊢
          omega
      conv => whnf
      refine AAr.to (c_and c) ?_
      conv => whnf
      refine AAr.i64 (x := 7 * (i : Int)) (by omega) ?_
      conv => whnf
      refine VReq.mk (by show (0 : Int) ≤ 7 * (i : Int); omega) ?_
      conv => whnf
      refine AAr.to hx.1 ?_
      conv => whnf
      rw [or_at hu hi hx.2]
      conv => whnf
      refine vif_split (fun h4 => ?_) (fun h4 => ?_)
      · have h128 : 128 ≤ c.toNat := by simp at h4; omega
        conv => whnf
        refine AAr.i64 (x := (i : Int) + 1) (by omega) ?_
        conv => whnf
        exact aback ⟨i + 1, u + c.toNat % 128 * 128 ^ i⟩ [] [] rfl (by show b.length - (i + 1) < b.length - i; omega) ⟨by rw [hc, if_neg hn9, if_pos h128], NI.lt hu, (show i + 1 ≤ 9 by omega), hil⟩ (by repeat' (first | rfl | trivial | apply And.intro)) ⟨rfl, rfl, trivial⟩
      · have h128 : c.toNat < 128 := by simp at h4; omega
        conv => whnf
        refine vif_split (fun h5 => ?_) (fun h5 => ?_)
        · have hc0 : c.toNat = 0 := by simp at h5; omega
          conv => whnf
          refine vif_split (fun h6 => ?_) (fun h6 => ?_)
          · have hi0 : 0 < i := by simp at h6; omega
            conv => whnf
            exact aend (iv 0) 1 [(0, rdB b 1)] [] [] (by rw [rnT_bad (by rw [hc, if_neg hn9, if_neg (by omega), if_pos ⟨hc0, hi0⟩])]; exact ⟨rfl, rfl, rfl⟩) rfl (by repeat' (first | rfl | trivial | apply And.intro)) (by repeat' (first | rfl | trivial | apply And.intro))
          have hi0 : i = 0 := by simp at h6; omega
          conv => whnf
          have hok : rdN b 0 0 = .ok (zz (u + c.toNat % 128 * 128 ^ i)) (i + 1) := by rw [hc, if_neg hn9, if_neg (by omega), if_neg (by omega)]
          refine AAr.i64 (x := (i : Int) + 1) (by omega) ?_
          conv => whnf
          refine ABd.mk' (i + 1) b.length rfl (by rw [List.length_map]) (by omega) (by rw [List.length_map]; exact Nat.le_refl _) ?_
          conv => whnf
          refine VReq.mk (by decide) ?_
          conv => whnf
          generalize u + c.toNat % 128 * 128 ^ i = U at *
          refine AAr.to (y := ((U / 2 : Nat) : Int)) (by rw [shrk1]; exact IntWalk.i64_in _ (by omega)) ?_
          conv => whnf
          refine AAr.to (y := ((U % 2 : Nat) : Int)) (by rw [u_and hU]; exact IntWalk.i64_in _ (by omega)) ?_
          conv => whnf
          refine AAr.i64 (by omega) ?_
          conv => whnf
          refine aend (iv (zz U)) 1 [(0, rdB (b.drop (i + 1)) 0)] [] [] (by rw [rnT_good hok]; exact ⟨rfl, rfl, rfl⟩) rfl ⟨⟨rfl, ⟨rfl, List.map_drop.symm⟩, rfl, trivial⟩, trivial⟩ ?_
          exact congrArg (Value.int .i64) (zz_bits hU)
        · have hc0 : c.toNat ≠ 0 := by simp at h5; omega
          conv => whnf
          have hok : rdN b 0 0 = .ok (zz (u + c.toNat % 128 * 128 ^ i)) (i + 1) := by rw [hc, if_neg hn9, if_neg (by omega), if_neg (by omega)]
          refine AAr.i64 (x := (i : Int) + 1) (by omega) ?_
          conv => whnf
          refine ABd.mk' (i + 1) b.length rfl (by rw [List.length_map]) (by omega) (by rw [List.length_map]; exact Nat.le_refl _) ?_
          conv => whnf
          refine VReq.mk (by decide) ?_
          conv => whnf
          generalize u + c.toNat % 128 * 128 ^ i = U at *
          refine AAr.to (y := ((U / 2 : Nat) : Int)) (by rw [shrk1]; exact IntWalk.i64_in _ (by omega)) ?_
          conv => whnf
          refine AAr.to (y := ((U % 2 : Nat) : Int)) (by rw [u_and hU]; exact IntWalk.i64_in _ (by omega)) ?_
          conv => whnf
          refine AAr.i64 (by omega) ?_
          conv => whnf
          refine aend (iv (zz U)) 1 [(0, rdB (b.drop (i + 1)) 0)] [] [] (by rw [rnT_good hok]; exact ⟨rfl, rfl, rfl⟩) rfl ⟨⟨rfl, ⟨rfl, List.map_drop.symm⟩, rfl, trivial⟩, trivial⟩ ?_
          exact congrArg (Value.int .i64) (zz_bits hU)
  · have h9 : i ≠ 9 := by simp at h2; omega
    have hn9 : ¬ (i = 9 ∧ 1 < c.toNat) := by omega
    have hx9 : i = 9 → c.toNat % 128 ≤ 1 := by omega
    · skip
      have hx := shl_at (x := c.toNat % 128) hi (Nat.mod_lt _ (by decide)) hx9
      have hU : u + c.toNat % 128 * 128 ^ i < 18446744073709551616 := by
        have h1 := NI.lt (c := c.toNat) hu
        rcases Nat.lt_or_ge i 9 with h2 | h2
        · have h3 : 128 ^ (i + 1) ≤ 128 ^ 9 := Nat.pow_le_pow_right (by decide) (by omega)
          have h4 : (128 : Nat) ^ 9 < 18446744073709551616 := by decide
          omega
        · have h3 : i = 9 := by omega
          have h4 := hx9 h3
          subst h3
          have h5 : (128 : Nat) ^ 9 = 9223372036854775808 := by decide
          have h6 := Nat.mul_le_mul_right (128 ^ 9) h4
          rw [h5] at hu h6 ⊢
          omega
      conv => whnf
      refine AAr.to (c_and c) ?_
      conv => whnf
      refine AAr.i64 (x := 7 * (i : Int)) (by omega) ?_
      conv => whnf
      refine VReq.mk (by show (0 : Int) ≤ 7 * (i : Int); omega) ?_
      conv => whnf
      refine AAr.to hx.1 ?_
      conv => whnf
      rw [or_at hu hi hx.2]
      conv => whnf
      refine vif_split (fun h4 => ?_) (fun h4 => ?_)
      · have h128 : 128 ≤ c.toNat := by simp at h4; omega
        conv => whnf
        refine AAr.i64 (x := (i : Int) + 1) (by omega) ?_
        conv => whnf
        exact aback ⟨i + 1, u + c.toNat % 128 * 128 ^ i⟩ [] [] rfl (by show b.length - (i + 1) < b.length - i; omega) ⟨by rw [hc, if_neg hn9, if_pos h128], NI.lt hu, (show i + 1 ≤ 9 by omega), hil⟩ (by repeat' (first | rfl | trivial | apply And.intro)) ⟨rfl, rfl, trivial⟩
      · have h128 : c.toNat < 128 := by simp at h4; omega
        conv => whnf
        refine vif_split (fun h5 => ?_) (fun h5 => ?_)
        · have hc0 : c.toNat = 0 := by simp at h5; omega
          conv => whnf
          refine vif_split (fun h6 => ?_) (fun h6 => ?_)
          · have hi0 : 0 < i := by simp at h6; omega
            conv => whnf
            exact aend (iv 0) 1 [(0, rdB b 1)] [] [] (by rw [rnT_bad (by rw [hc, if_neg hn9, if_neg (by omega), if_pos ⟨hc0, hi0⟩])]; exact ⟨rfl, rfl, rfl⟩) rfl (by repeat' (first | rfl | trivial | apply And.intro)) (by repeat' (first | rfl | trivial | apply And.intro))
          have hi0 : i = 0 := by simp at h6; omega
          conv => whnf
          have hok : rdN b 0 0 = .ok (zz (u + c.toNat % 128 * 128 ^ i)) (i + 1) := by rw [hc, if_neg hn9, if_neg (by omega), if_neg (by omega)]
          refine AAr.i64 (x := (i : Int) + 1) (by omega) ?_
          conv => whnf
          refine ABd.mk' (i + 1) b.length rfl (by rw [List.length_map]) (by omega) (by rw [List.length_map]; exact Nat.le_refl _) ?_
          conv => whnf
          refine VReq.mk (by decide) ?_
          conv => whnf
          generalize u + c.toNat % 128 * 128 ^ i = U at *
          refine AAr.to (y := ((U / 2 : Nat) : Int)) (by rw [shrk1]; exact IntWalk.i64_in _ (by omega)) ?_
          conv => whnf
          refine AAr.to (y := ((U % 2 : Nat) : Int)) (by rw [u_and hU]; exact IntWalk.i64_in _ (by omega)) ?_
          conv => whnf
          refine AAr.i64 (by omega) ?_
          conv => whnf
          refine aend (iv (zz U)) 1 [(0, rdB (b.drop (i + 1)) 0)] [] [] (by rw [rnT_good hok]; exact ⟨rfl, rfl, rfl⟩) rfl ⟨⟨rfl, ⟨rfl, List.map_drop.symm⟩, rfl, trivial⟩, trivial⟩ ?_
          exact congrArg (Value.int .i64) (zz_bits hU)
        · have hc0 : c.toNat ≠ 0 := by simp at h5; omega
          conv => whnf
          have hok : rdN b 0 0 = .ok (zz (u + c.toNat % 128 * 128 ^ i)) (i + 1) := by rw [hc, if_neg hn9, if_neg (by omega), if_neg (by omega)]
          refine AAr.i64 (x := (i : Int) + 1) (by omega) ?_
          conv => whnf
          refine ABd.mk' (i + 1) b.length rfl (by rw [List.length_map]) (by omega) (by rw [List.length_map]; exact Nat.le_refl _) ?_
          conv => whnf
          refine VReq.mk (by decide) ?_
          conv => whnf
          generalize u + c.toNat % 128 * 128 ^ i = U at *
          refine AAr.to (y := ((U / 2 : Nat) : Int)) (by rw [shrk1]; exact IntWalk.i64_in _ (by omega)) ?_
          conv => whnf
          refine AAr.to (y := ((U % 2 : Nat) : Int)) (by rw [u_and hU]; exact IntWalk.i64_in _ (by omega)) ?_
          conv => whnf
          refine AAr.i64 (by omega) ?_
          conv => whnf
          refine aend (iv (zz U)) 1 [(0, rdB (b.drop (i + 1)) 0)] [] [] (by rw [rnT_good hok]; exact ⟨rfl, rfl, rfl⟩) rfl ⟨⟨rfl, ⟨rfl, List.map_drop.symm⟩, rfl, trivial⟩, trivial⟩ ?_
          exact congrArg (Value.int .i64) (zz_bits hU)
theorem cnT_def (b : By) (e most em : Int) : cnT b e most em = (if (if (rnT b e).2.2 = 0 then (if (rnT b e).1 < 0 then 3 else if most < (rnT b e).1 then em else 0) else (rnT b e).2.2) = 0 then (rnT b e).1 else 0, (rnT b e).2.1, if (rnT b e).2.2 = 0 then (if (rnT b e).1 < 0 then 3 else if most < (rnT b e).1 then em else 0) else (rnT b e).2.2) := rfl
set_option maxHeartbeats 8000000 in
set_option maxRecDepth 100000 in
theorem lengthA (b : By) (e most em : Int) (hb : b.length ≤ 3000000) (hem : em ≠ 0) (hmost : 0 ≤ most) : AFn Tryz.prog GC 55 [.ptr 0 0, iv most, iv em] 1 [(0, rdB b e)] (RdR (cnT b e most em).1 (b.drop (cnT b e most em).2.1) (cnT b e most em).2.2) := by
  have hN := numberA b e hb
  have hz := (rnT_ok b e).2.2.2
  rw [cnT_def]
  generalize rnT b e = t at *
  obtain ⟨x, k, e'⟩ := t
  simp only at hN hz ⊢
  generalize b.drop k = b' at *
  by_cases he : e' = 0
  · subst he
    clear hz
    simp only [if_true]
    refine afn_of Tryz.func55 rfl mixed (by kernel_rfl) ?_
    conv => whnf
    refine acallM [0] [] (by kernel_rfl) hN rfl (by repeat' (first | rfl | trivial | apply And.intro)) (by repeat' (first | rfl | trivial | apply And.intro)) ?_
    rintro _ _ _ ⟨rfl, rfl, rfl⟩
    refine ⟨rfl, ?_⟩
    conv => whnf
    refine vif_split (fun h => ?_) (fun h => ?_)
    · have hx : x < 0 := by simpa using h
      conv => whnf
      refine acallM [0] [] (by kernel_rfl) (failA b' 0 3) rfl (by repeat' (first | rfl | trivial | apply And.intro)) (by repeat' (first | rfl | trivial | apply And.intro)) ?_
      rintro _ _ _ ⟨rfl, rfl, rfl⟩
      refine ⟨rfl, ?_⟩
      conv => whnf
      exact aend (iv 0) 1 [(0, rdB b' 3)] [] [] (by rw [if_pos hx]; exact ⟨rfl, rfl, rfl⟩) rfl (by repeat' (first | rfl | trivial | apply And.intro)) (by repeat' (first | rfl | trivial | apply And.intro))
    have hx : ¬ x < 0 := by simpa using h
    conv => whnf
    refine vif_split (fun h => ?_) (fun h => ?_)
    · have hm : most < x := by simpa using h
      conv => whnf
      refine acallM [0] [] (by kernel_rfl) (failA b' 0 em) rfl (by repeat' (first | rfl | trivial | apply And.intro)) (by repeat' (first | rfl | trivial | apply And.intro)) ?_
      rintro _ _ _ ⟨rfl, rfl, rfl⟩
      refine ⟨rfl, ?_⟩
      rw [if_pos rfl]
      conv => whnf
      refine vif_split (fun h => ?_) (fun h => ?_)
      rotate_left 1
      · exact absurd (by simpa using h) hem
      conv => whnf
      exact aend (iv 0) 1 [(0, rdB b' em)] [] [] (by rw [if_neg hx, if_pos hm, if_neg hem]; exact ⟨rfl, rfl, rfl⟩) rfl (by repeat' (first | rfl | trivial | apply And.intro)) (by repeat' (first | rfl | trivial | apply And.intro))
    have hm : ¬ most < x := by simpa using h
    conv => whnf
    exact aend (iv x) 1 [(0, rdB b' 0)] [] [] (by rw [if_neg hx, if_neg hm, if_pos rfl]; exact ⟨rfl, rfl, rfl⟩) rfl (by repeat' (first | rfl | trivial | apply And.intro)) (by repeat' (first | rfl | trivial | apply And.intro))
  · obtain ⟨rfl, rfl⟩ := hz he
    simp only [he, if_false]
    refine afn_of Tryz.func55 rfl mixed (by kernel_rfl) ?_
    conv => whnf
    refine acallM [0] [] (by kernel_rfl) hN rfl (by repeat' (first | rfl | trivial | apply And.intro)) (by repeat' (first | rfl | trivial | apply And.intro)) ?_
    rintro _ _ _ ⟨rfl, rfl, rfl⟩
    refine ⟨rfl, ?_⟩
    conv => whnf
    refine vif_split (fun h => ?_) (fun h => ?_)
    · exfalso; simp at h; omega
    conv => whnf
    refine vif_split (fun h => ?_) (fun h => ?_)
    rotate_left 1
    · exfalso; simp at h; exact he h
    conv => whnf
    exact aend (iv 0) 1 [(0, rdB b' e')] [] [] ⟨rfl, rfl, rfl⟩ rfl (by repeat' (first | rfl | trivial | apply And.intro)) (by repeat' (first | rfl | trivial | apply And.intro))
set_option maxHeartbeats 4000000 in
set_option maxRecDepth 100000 in
theorem countA (b : By) (e most : Int) (hb : b.length ≤ 3000000) (hmost : 0 ≤ most) : AFn Tryz.prog GC 32 [.ptr 0 0, iv most] 1 [(0, rdB b e)] (RdR (cnT b e most 5).1 (b.drop (cnT b e most 5).2.1) (cnT b e most 5).2.2) := by
  have hN := lengthA b e most 5 hb (by decide) hmost
  generalize cnT b e most 5 = t at *
  obtain ⟨x, k, e'⟩ := t
  simp only at hN ⊢
  generalize b.drop k = b' at *
  refine afn_of Tryz.func32 rfl mixed (by kernel_rfl) ?_
  conv => whnf
  refine acallM [0] [] (by kernel_rfl) hN rfl (by repeat' (first | rfl | trivial | apply And.intro)) (by repeat' (first | rfl | trivial | apply And.intro)) ?_
  rintro _ _ _ ⟨rfl, rfl, rfl⟩
  refine ⟨rfl, ?_⟩
  conv => whnf
  exact aend (iv x) 1 [(0, rdB b' e')] [] [] ⟨rfl, rfl, rfl⟩ rfl (by repeat' (first | rfl | trivial | apply And.intro)) (by repeat' (first | rfl | trivial | apply And.intro))
end Go.Proofs.YtmhpfadbmpipkaaGreatDoor.Cl
