/- The walks of the reference's Reader: New, Fail, Number, Count; and of begins. Condition: sizes. -/
import Derived.Test.YtmhpfadbmpipkaaGreatCl23
set_option linter.unusedVariables false
set_option linter.unusedSimpArgs false
namespace Go.Proofs.YtmhpfadbmpipkaaGreat.Cl
open Go Go.RowKit Go.Proofs Go.Proofs.YtmhpfadbmpipkaaGreat.Vc Go.Proofs.YtmhpfadbmpipkaaGreat.Ax
attribute [local irreducible] loadVar storeVar Instr.indexAt Instr.index Instr.sliceAt Instr.makeSlice Instr.lookup Instr.mapUpdate Instr.range Instr.next Instr.entry Instr.makeMap Builtin.append_ Builtin.copy_ Builtin.len_ Builtin.min_ Builtin.max_ Builtin.cap_ Builtin.delete_ Builtin.clear_ convert binOp eqGuard Op.unary Calls
/-- the document's reader: all bytes, how many are read, the error -/
def rd2 (b : By) (j : Nat) (e : Int) : ABlk := .var 54 [bs b, iv j, iv e]
def RdR2 (x : Int) (b : By) (j : Nat) (e : Int) (a : AV) (n : Nat) (H : AHeap) : Prop := a = iv x ∧ n = 1 ∧ H = [(0, rd2 b j e)]
set_option maxHeartbeats 4000000 in
set_option maxRecDepth 100000 in
theorem new2A (b : By) : AFn Tryz.prog GC 29 [bs b] 0 [] (fun a n H => a = .ptr 0 0 ∧ n = 1 ∧ H = [(0, rd2 b 0 0)]) := by
  refine afn_of Tryz.func29 rfl mixed (by kernel_rfl) ?_
  conv => whnf
  exact aend (.ptr 0 0) 1 _ [(0, .lab 0)] [] ⟨rfl, rfl, rfl⟩ rfl (by repeat' (first | rfl | trivial | apply And.intro)) (by repeat' (first | rfl | trivial | apply And.intro))
set_option maxHeartbeats 4000000 in
set_option maxRecDepth 100000 in
theorem fail2A (b : By) (j : Nat) (e f : Int) : AFn Tryz.prog GC 48 [.ptr 0 0, iv f] 1 [(0, rd2 b j e)] (fun a n H => a = .tup [] ∧ n = 1 ∧ H = [(0, rd2 b j (if e = 0 then f else e))]) := by
  refine afn_of Tryz.func48 rfl mixed (by kernel_rfl) ?_
  conv => whnf
  refine vif_split (fun h => ?_) (fun h => ?_)
  · have h0 : e = 0 := by simpa using h
    conv => whnf
    exact aend (.tup []) 1 [(0, rd2 b j f)] [] [] ⟨rfl, rfl, by rw [if_pos h0]⟩ rfl (by repeat' (first | rfl | trivial | apply And.intro)) (by repeat' (first | rfl | trivial | apply And.intro))
  · have h0 : e ≠ 0 := by simpa using h
    conv => whnf
    exact aend (.tup []) 1 [(0, rd2 b j e)] [] [] ⟨rfl, rfl, by rw [if_neg h0]⟩ rfl (by repeat' (first | rfl | trivial | apply And.intro)) (by repeat' (first | rfl | trivial | apply And.intro))
theorem zz_odd {u : Nat} (h : u < 18446744073709551616) (h1 : u % 2 = 1) : IntKind.i64.wrap (bitsOp .xor .u64 (bif IntKind.u64.signed then -1 else IntKind.u64.max) ((u / 2 : Nat) : Int)) = zz u := by
  have hm : IntKind.u64.max = ((18446744073709551615 : Nat) : Int) := by decide
  have s : IntKind.u64.signed = false := rfl
  rw [s, cond_false, hm, bo_xor64 _ _ (by decide) (by omega), Nat.xor_comm, xor_ones (by omega)]
  have := w64_of ((18446744073709551615 - u / 2 : Nat) : Int)
  unfold w64 at this
  rw [this]
  unfold zz
  rw [if_pos h1]
  omega
theorem zz_even {u : Nat} (h1 : ¬ u % 2 = 1) : ((u / 2 : Nat) : Int) = zz u := by unfold zz; rw [if_neg h1]
set_option maxHeartbeats 8000000 in
set_option maxRecDepth 100000 in
theorem number2A (b : By) (j : Nat) (e : Int) (hb : b.length ≤ 3000000) (hj : j ≤ b.length) : AFn Tryz.prog GC 47 [.ptr 0 0] 1 [(0, rd2 b j e)] (RdR2 (rnT (b.drop j) e).1 b (j + (rnT (b.drop j) e).2.1) (rnT (b.drop j) e).2.2) := by
  have hdl : (b.drop j).length = b.length - j := List.length_drop
  refine afn_of Tryz.func47 rfl mixed (by kernel_rfl) ?_
  conv => whnf
  refine aloopH ws47_1 [3, 4] (fun x : NX => [(3, uv x.u), (4, iv x.i)]) (fun x => NI (b.drop j) x.i x.u) (fun x => (b.drop j).length - x.i) ⟨0, 0⟩ (by kernel_rfl) (fun _ => rfl) (by kernel_rfl) ⟨rfl, by decide, by decide, Nat.zero_le _⟩ (by repeat' (first | rfl | trivial | apply And.intro)) (by repeat' (first | rfl | trivial | apply And.intro)) ?_
  rintro ⟨i, u⟩ hN
  change NI (b.drop j) i u at hN
  have hi := hN.2.2.1
  have hu := hN.2.1
  conv => whnf
  refine vif_split (fun h => ?_) (fun h => ?_)
  rotate_left 1
  · have h0 : e ≠ 0 := by simpa using h
    conv => whnf
    exact aend (iv 0) 1 [(0, rd2 b j e)] [] [] (by rw [rnT_err h0]; exact ⟨rfl, rfl, rfl⟩) rfl (by repeat' (first | rfl | trivial | apply And.intro)) (by repeat' (first | rfl | trivial | apply And.intro))
  have h0 : e = 0 := by simpa using h
  subst h0
  conv => whnf
  (refine adraw pln47 [] (by kernel_rfl) ?_; conv => whnf)
  refine AAr.to (y := ((j + i : Nat) : Int)) (by show IntKind.i64.wrap ((j : Int) + (i : Int)) = _; rw [← Int.natCast_add]; exact IntWalk.i64_in _ (by omega)) ?_
  conv => whnf
  refine vif_split (fun h1 => ?_) (fun h1 => ?_)
  · have hil : (b.drop j).length ≤ i := by simp at h1; omega
    conv => whnf
    refine acallM [0] [] (by kernel_rfl) (fail2A b j 0 16) rfl (by repeat' (first | rfl | trivial | apply And.intro)) (by repeat' (first | rfl | trivial | apply And.intro)) ?_
    rintro _ _ _ ⟨rfl, rfl, rfl⟩
    refine ⟨rfl, ?_⟩
    conv => whnf
    exact aend (iv 0) 1 [(0, rd2 b j 16)] [] [] (by rw [rnT_bad (hN.last hil)]; exact ⟨rfl, rfl, rfl⟩) rfl (by repeat' (first | rfl | trivial | apply And.intro)) (by repeat' (first | rfl | trivial | apply And.intro))
  have hil : i < (b.drop j).length := by simp at h1; omega
  have hc := hN.cons hil
  have hji : j + i < b.length := by omega
  have hge : (b.drop j)[i] = b[j + i] := List.getElem_drop
  rw [hge] at hc
  conv => whnf
  (refine adraw pln47 [] (by kernel_rfl) ?_; conv => whnf)
  refine AAr.to (y := ((j + i : Nat) : Int)) (by show IntKind.i64.wrap ((j : Int) + (i : Int)) = _; rw [← Int.natCast_add]; exact IntWalk.i64_in _ (by omega)) ?_
  conv => whnf
  refine AIn.mk' (j + i) rfl (by rw [List.length_map]; exact hji) ?_
  conv => whnf
  refine ARd.map hji ?_
  conv => whnf
  clear hge
  generalize b[j + i] = c at *
  have hcl := c.toNat_lt
  refine vif_split (fun h2 => ?_) (fun h2 => ?_)
  · have h9 : i = 9 := by simp at h2; omega
    conv => whnf
    refine vif_split (fun h3 => ?_) (fun h3 => ?_)
    · have hc1 : 1 < c.toNat := by simp at h3; omega
      conv => whnf
      refine acallM [0] [] (by kernel_rfl) (fail2A b j 0 3) rfl (by repeat' (first | rfl | trivial | apply And.intro)) (by repeat' (first | rfl | trivial | apply And.intro)) ?_
      rintro _ _ _ ⟨rfl, rfl, rfl⟩
      refine ⟨rfl, ?_⟩
      conv => whnf
      exact aend (iv 0) 1 [(0, rd2 b j 3)] [] [] (by rw [rnT_bad (by rw [hc, if_pos ⟨h9, hc1⟩])]; exact ⟨rfl, rfl, rfl⟩) rfl (by repeat' (first | rfl | trivial | apply And.intro)) (by repeat' (first | rfl | trivial | apply And.intro))
    · have hc1 : c.toNat ≤ 1 := by simp at h3; omega
      have hn9 : ¬ (i = 9 ∧ 1 < c.toNat) := by omega
      have hx9 : i = 9 → c.toNat % 128 ≤ 1 := by omega
      have hx := shl_at (x := c.toNat % 128) hi (Nat.mod_lt _ (by decide)) hx9
      have hU : u + c.toNat % 128 * 128 ^ i < 18446744073709551616 := by
        have h1 := NI.lt (c := c.toNat) hu
        rcases Nat.lt_or_ge i 9 with h2 | h2
        · have h3 : 128 ^ (i + 1) ≤ 128 ^ 9 := Nat.pow_le_pow_right (by decide) (by omega)
          have h4 : (128 : Nat) ^ 9 < 18446744073709551616 := by decide
          omega
        · have h3 : i = 9 := by omega
          have h4 := hx9 h3
          subst h3
          have h5 : (128 : Nat) ^ 9 = 9223372036854775808 := by decide
          have h6 := Nat.mul_le_mul_right (128 ^ 9) h4
          rw [h5] at hu h6 ⊢
          omega
      conv => whnf
      refine AAr.to (c_and c) ?_
      conv => whnf
      refine AAr.i64 (x := 7 * (i : Int)) (by omega) ?_
      conv => whnf
      refine AAr.to (y := 7 * (i : Int)) (by have := wr_u64 (n := 7 * i) (by omega); simpa using this) ?_
      conv => whnf
      refine VReq.mk (by show (0 : Int) ≤ 7 * (i : Int); omega) ?_
      conv => whnf
      refine AAr.to hx.1 ?_
      conv => whnf
      rw [or_at hu hi hx.2]
      conv => whnf
      refine vif_split (fun h4 => ?_) (fun h4 => ?_)
      · have h128 : 128 ≤ c.toNat := by simp at h4; omega
        conv => whnf
        refine AAr.i64 (x := (i : Int) + 1) (by omega) ?_
        conv => whnf
        exact aback ⟨i + 1, u + c.toNat % 128 * 128 ^ i⟩ [] [] rfl (by show (b.drop j).length - (i + 1) < (b.drop j).length - i; omega) ⟨by rw [hc, if_neg hn9, if_pos h128], NI.lt hu, (show i + 1 ≤ 9 by omega), hil⟩ (by repeat' (first | rfl | trivial | apply And.intro)) ⟨rfl, rfl, trivial⟩
      · have h128 : c.toNat < 128 := by simp at h4; omega
        conv => whnf
        refine vif_split (fun h5 => ?_) (fun h5 => ?_)
        · have hc0 : c.toNat = 0 := by simp at h5; omega
          conv => whnf
          refine vif_split (fun h6 => ?_) (fun h6 => ?_)
          · have hi0 : 0 < i := by simp at h6; omega
            conv => whnf
            refine acallM [0] [] (by kernel_rfl) (fail2A b j 0 1) rfl (by repeat' (first | rfl | trivial | apply And.intro)) (by repeat' (first | rfl | trivial | apply And.intro)) ?_
            rintro _ _ _ ⟨rfl, rfl, rfl⟩
            refine ⟨rfl, ?_⟩
            conv => whnf
            exact aend (iv 0) 1 [(0, rd2 b j 1)] [] [] (by rw [rnT_bad (by rw [hc, if_neg hn9, if_neg (by omega), if_pos ⟨hc0, hi0⟩])]; exact ⟨rfl, rfl, rfl⟩) rfl (by repeat' (first | rfl | trivial | apply And.intro)) (by repeat' (first | rfl | trivial | apply And.intro))
          have hi0 : i = 0 := by simp at h6; omega
          conv => whnf
          have hok : rdN (b.drop j) 0 0 = .ok (zz (u + c.toNat % 128 * 128 ^ i)) (i + 1) := by rw [hc, if_neg hn9, if_neg (by omega), if_neg (by omega)]
          refine AAr.i64 (x := (i : Int) + 1) (by omega) ?_
          conv => whnf
          refine AAr.to (y := ((j + (i + 1) : Nat) : Int)) (by show IntKind.i64.wrap ((j : Int) + ((i : Int) + 1)) = _; rw [IntWalk.i64_in _ (by omega)]; omega) ?_
          conv => whnf
          generalize u + c.toNat % 128 * 128 ^ i = U at *
          rw [u_and hU]
          conv => whnf
          refine vif_split (fun h7 => ?_) (fun h7 => ?_)
          · have ho : U % 2 = 1 := by simp at h7; omega
            conv => whnf
            refine VReq.mk (by decide) ?_
            rw [shrk1]
            conv => whnf
            refine AAr.to (zz_odd hU ho) ?_
            conv => whnf
            exact aend (iv (zz U)) 1 [(0, rd2 b (j + (i + 1)) 0)] [] [] (by rw [rnT_good hok]; exact ⟨rfl, rfl, rfl⟩) rfl (by repeat' (first | rfl | trivial | apply And.intro)) (by repeat' (first | rfl | trivial | apply And.intro))
          · have ho : ¬ U % 2 = 1 := by simp at h7; omega
            conv => whnf
            refine VReq.mk (by decide) ?_
            rw [shrk1]
            conv => whnf
            refine AAr.to (y := zz U) (by rw [← zz_even ho]; exact IntWalk.i64_in _ (by omega)) ?_
            conv => whnf
            exact aend (iv (zz U)) 1 [(0, rd2 b (j + (i + 1)) 0)] [] [] (by rw [rnT_good hok]; exact ⟨rfl, rfl, rfl⟩) rfl (by repeat' (first | rfl | trivial | apply And.intro)) (by repeat' (first | rfl | trivial | apply And.intro))
        · have hc0 : c.toNat ≠ 0 := by simp at h5; omega
          conv => whnf
          have hok : rdN (b.drop j) 0 0 = .ok (zz (u + c.toNat % 128 * 128 ^ i)) (i + 1) := by rw [hc, if_neg hn9, if_neg (by omega), if_neg (by omega)]
          refine AAr.i64 (x := (i : Int) + 1) (by omega) ?_
          conv => whnf
          refine AAr.to (y := ((j + (i + 1) : Nat) : Int)) (by show IntKind.i64.wrap ((j : Int) + ((i : Int) + 1)) = _; rw [IntWalk.i64_in _ (by omega)]; omega) ?_
          conv => whnf
          generalize u + c.toNat % 128 * 128 ^ i = U at *
          rw [u_and hU]
          conv => whnf
          refine vif_split (fun h7 => ?_) (fun h7 => ?_)
          · have ho : U % 2 = 1 := by simp at h7; omega
            conv => whnf
            refine VReq.mk (by decide) ?_
            rw [shrk1]
            conv => whnf
            refine AAr.to (zz_odd hU ho) ?_
            conv => whnf
            exact aend (iv (zz U)) 1 [(0, rd2 b (j + (i + 1)) 0)] [] [] (by rw [rnT_good hok]; exact ⟨rfl, rfl, rfl⟩) rfl (by repeat' (first | rfl | trivial | apply And.intro)) (by repeat' (first | rfl | trivial | apply And.intro))
          · have ho : ¬ U % 2 = 1 := by simp at h7; omega
            conv => whnf
            refine VReq.mk (by decide) ?_
            rw [shrk1]
            conv => whnf
            refine AAr.to (y := zz U) (by rw [← zz_even ho]; exact IntWalk.i64_in _ (by omega)) ?_
            conv => whnf
            exact aend (iv (zz U)) 1 [(0, rd2 b (j + (i + 1)) 0)] [] [] (by rw [rnT_good hok]; exact ⟨rfl, rfl, rfl⟩) rfl (by repeat' (first | rfl | trivial | apply And.intro)) (by repeat' (first | rfl | trivial | apply And.intro))
  · have h9 : i ≠ 9 := by simp at h2; omega
    have hn9 : ¬ (i = 9 ∧ 1 < c.toNat) := by omega
    have hx9 : i = 9 → c.toNat % 128 ≤ 1 := by omega
    · skip
      have hx := shl_at (x := c.toNat % 128) hi (Nat.mod_lt _ (by decide)) hx9
      have hU : u + c.toNat % 128 * 128 ^ i < 18446744073709551616 := by
        have h1 := NI.lt (c := c.toNat) hu
        rcases Nat.lt_or_ge i 9 with h2 | h2
        · have h3 : 128 ^ (i + 1) ≤ 128 ^ 9 := Nat.pow_le_pow_right (by decide) (by omega)
          have h4 : (128 : Nat) ^ 9 < 18446744073709551616 := by decide
          omega
        · have h3 : i = 9 := by omega
          have h4 := hx9 h3
          subst h3
          have h5 : (128 : Nat) ^ 9 = 9223372036854775808 := by decide
          have h6 := Nat.mul_le_mul_right (128 ^ 9) h4
          rw [h5] at hu h6 ⊢
          omega
      conv => whnf
      refine AAr.to (c_and c) ?_
      conv => whnf
      refine AAr.i64 (x := 7 * (i : Int)) (by omega) ?_
      conv => whnf
      refine AAr.to (y := 7 * (i : Int)) (by have := wr_u64 (n := 7 * i) (by omega); simpa using this) ?_
      conv => whnf
      refine VReq.mk (by show (0 : Int) ≤ 7 * (i : Int); omega) ?_
      conv => whnf
      refine AAr.to hx.1 ?_
      conv => whnf
      rw [or_at hu hi hx.2]
      conv => whnf
      refine vif_split (fun h4 => ?_) (fun h4 => ?_)
      · have h128 : 128 ≤ c.toNat := by simp at h4; omega
        conv => whnf
        refine AAr.i64 (x := (i : Int) + 1) (by omega) ?_
        conv => whnf
        exact aback ⟨i + 1, u + c.toNat % 128 * 128 ^ i⟩ [] [] rfl (by show (b.drop j).length - (i + 1) < (b.drop j).length - i; omega) ⟨by rw [hc, if_neg hn9, if_pos h128], NI.lt hu, (show i + 1 ≤ 9 by omega), hil⟩ (by repeat' (first | rfl | trivial | apply And.intro)) ⟨rfl, rfl, trivial⟩
      · have h128 : c.toNat < 128 := by simp at h4; omega
        conv => whnf
        refine vif_split (fun h5 => ?_) (fun h5 => ?_)
        · have hc0 : c.toNat = 0 := by simp at h5; omega
          conv => whnf
          refine vif_split (fun h6 => ?_) (fun h6 => ?_)
          · have hi0 : 0 < i := by simp at h6; omega
            conv => whnf
            refine acallM [0] [] (by kernel_rfl) (fail2A b j 0 1) rfl (by repeat' (first | rfl | trivial | apply And.intro)) (by repeat' (first | rfl | trivial | apply And.intro)) ?_
            rintro _ _ _ ⟨rfl, rfl, rfl⟩
            refine ⟨rfl, ?_⟩
            conv => whnf
            exact aend (iv 0) 1 [(0, rd2 b j 1)] [] [] (by rw [rnT_bad (by rw [hc, if_neg hn9, if_neg (by omega), if_pos ⟨hc0, hi0⟩])]; exact ⟨rfl, rfl, rfl⟩) rfl (by repeat' (first | rfl | trivial | apply And.intro)) (by repeat' (first | rfl | trivial | apply And.intro))
          have hi0 : i = 0 := by simp at h6; omega
          conv => whnf
          have hok : rdN (b.drop j) 0 0 = .ok (zz (u + c.toNat % 128 * 128 ^ i)) (i + 1) := by rw [hc, if_neg hn9, if_neg (by omega), if_neg (by omega)]
          refine AAr.i64 (x := (i : Int) + 1) (by omega) ?_
          conv => whnf
          refine AAr.to (y := ((j + (i + 1) : Nat) : Int)) (by show IntKind.i64.wrap ((j : Int) + ((i : Int) + 1)) = _; rw [IntWalk.i64_in _ (by omega)]; omega) ?_
          conv => whnf
          generalize u + c.toNat % 128 * 128 ^ i = U at *
          rw [u_and hU]
          conv => whnf
          refine vif_split (fun h7 => ?_) (fun h7 => ?_)
          · have ho : U % 2 = 1 := by simp at h7; omega
            conv => whnf
            refine VReq.mk (by decide) ?_
            rw [shrk1]
            conv => whnf
            refine AAr.to (zz_odd hU ho) ?_
            conv => whnf
            exact aend (iv (zz U)) 1 [(0, rd2 b (j + (i + 1)) 0)] [] [] (by rw [rnT_good hok]; exact ⟨rfl, rfl, rfl⟩) rfl (by repeat' (first | rfl | trivial | apply And.intro)) (by repeat' (first | rfl | trivial | apply And.intro))
          · have ho : ¬ U % 2 = 1 := by simp at h7; omega
            conv => whnf
            refine VReq.mk (by decide) ?_
            rw [shrk1]
            conv => whnf
            refine AAr.to (y := zz U) (by rw [← zz_even ho]; exact IntWalk.i64_in _ (by omega)) ?_
            conv => whnf
            exact aend (iv (zz U)) 1 [(0, rd2 b (j + (i + 1)) 0)] [] [] (by rw [rnT_good hok]; exact ⟨rfl, rfl, rfl⟩) rfl (by repeat' (first | rfl | trivial | apply And.intro)) (by repeat' (first | rfl | trivial | apply And.intro))
        · have hc0 : c.toNat ≠ 0 := by simp at h5; omega
          conv => whnf
          have hok : rdN (b.drop j) 0 0 = .ok (zz (u + c.toNat % 128 * 128 ^ i)) (i + 1) := by rw [hc, if_neg hn9, if_neg (by omega), if_neg (by omega)]
          refine AAr.i64 (x := (i : Int) + 1) (by omega) ?_
          conv => whnf
          refine AAr.to (y := ((j + (i + 1) : Nat) : Int)) (by show IntKind.i64.wrap ((j : Int) + ((i : Int) + 1)) = _; rw [IntWalk.i64_in _ (by omega)]; omega) ?_
          conv => whnf
          generalize u + c.toNat % 128 * 128 ^ i = U at *
          rw [u_and hU]
          conv => whnf
          refine vif_split (fun h7 => ?_) (fun h7 => ?_)
          · have ho : U % 2 = 1 := by simp at h7; omega
            conv => whnf
            refine VReq.mk (by decide) ?_
            rw [shrk1]
            conv => whnf
            refine AAr.to (zz_odd hU ho) ?_
            conv => whnf
            exact aend (iv (zz U)) 1 [(0, rd2 b (j + (i + 1)) 0)] [] [] (by rw [rnT_good hok]; exact ⟨rfl, rfl, rfl⟩) rfl (by repeat' (first | rfl | trivial | apply And.intro)) (by repeat' (first | rfl | trivial | apply And.intro))
          · have ho : ¬ U % 2 = 1 := by simp at h7; omega
            conv => whnf
            refine VReq.mk (by decide) ?_
            rw [shrk1]
            conv => whnf
            refine AAr.to (y := zz U) (by rw [← zz_even ho]; exact IntWalk.i64_in _ (by omega)) ?_
            conv => whnf
            exact aend (iv (zz U)) 1 [(0, rd2 b (j + (i + 1)) 0)] [] [] (by rw [rnT_good hok]; exact ⟨rfl, rfl, rfl⟩) rfl (by repeat' (first | rfl | trivial | apply And.intro)) (by repeat' (first | rfl | trivial | apply And.intro))
end Go.Proofs.YtmhpfadbmpipkaaGreat.Cl
