/- Joined parts of the proof. The walks of the reference's Reader: New, Fail, Number, Count; and of begins -/
import Derived.Test.YtmhpfadbmpipkaaGreatDoorPk12
import Derived.Test.YtmhpfadbmpipkaaGreatDoorPk16
import Derived.Test.YtmhpfadbmpipkaaGreatDoorPk14
import Derived.Test.YtmhpfadbmpipkaaGreatDoorPk17
set_option linter.unusedVariables false
set_option linter.unusedSimpArgs false
set_option maxRecDepth 100000
set_option maxHeartbeats 16000000
namespace Go.Proofs.YtmhpfadbmpipkaaGreatDoor.Cl
open Go Go.RowKit Go.Proofs Go.Proofs.YtmhpfadbmpipkaaGreatDoor.Vc Go.Proofs.YtmhpfadbmpipkaaGreatDoor.Ax
attribute [local irreducible] loadVar storeVar Instr.indexAt Instr.index Instr.sliceAt Instr.makeSlice Instr.lookup Instr.mapUpdate Instr.range Instr.next Instr.entry Instr.makeMap Builtin.append_ Builtin.copy_ Builtin.len_ Builtin.min_ Builtin.max_ Builtin.cap_ Builtin.delete_ Builtin.clear_ convert binOp eqGuard Op.unary Calls
def rd2 (b : By) (j : Nat) (e : Int) : ABlk := .var 71 [bs b, iv j, iv e]
def RdR2 (x : Int) (b : By) (j : Nat) (e : Int) (a : AV) (n : Nat) (H : AHeap) : Prop := a = iv x ∧ n = 1 ∧ H = [(0, rd2 b j e)]
theorem new2A (b : By) : AFn Tryz.prog GC 36 [bs b] 0 [] (fun a n H => a = .ptr 0 0 ∧ n = 1 ∧ H = [(0, rd2 b 0 0)]) := by
 refine afn_of Tryz.func36 rfl mixed (by kernel_rfl) ?_
 conv => whnf
 exact aend (.ptr 0 0) 1 _ [(0, .lab 0)] [] ⟨rfl, rfl, rfl⟩ rfl (by repeat' (first | rfl | trivial | apply And.intro)) (by repeat' (first | rfl | trivial | apply And.intro))
theorem fail2A (b : By) (j : Nat) (e f : Int) : AFn Tryz.prog GC 59 [.ptr 0 0, iv f] 1 [(0, rd2 b j e)] (fun a n H => a = .tup [] ∧ n = 1 ∧ H = [(0, rd2 b j (if e = 0 then f else e))]) := by
 refine afn_of Tryz.func59 rfl mixed (by kernel_rfl) ?_
 conv => whnf
 apply vif_split <;> intro h
 ·have h0 : e = 0 := by simpa using h
  conv => whnf
  exact aend (.tup []) 1 [(0, rd2 b j f)] [] [] ⟨rfl, rfl, by rw [if_pos h0]⟩ rfl (by repeat' (first | rfl | trivial | apply And.intro)) (by repeat' (first | rfl | trivial | apply And.intro))
 ·have h0 : e ≠ 0 := by simpa using h
  conv => whnf
  exact aend (.tup []) 1 [(0, rd2 b j e)] [] [] ⟨rfl, rfl, by rw [if_neg h0]⟩ rfl (by repeat' (first | rfl | trivial | apply And.intro)) (by repeat' (first | rfl | trivial | apply And.intro))
theorem zz_odd {u : Nat} (h : u < 18446744073709551616) (h1 : u % 2 = 1) : IntKind.i64.wrap (bitsOp .xor .u64 (bif IntKind.u64.signed then -1 else IntKind.u64.max) ((u / 2 : Nat) : Int)) = zz u := by
 have hm : IntKind.u64.max = ((18446744073709551615 : Nat) : Int) := by decide
 have s : IntKind.u64.signed = false := rfl
 rw [s, cond_false, hm, bo_xor64 _ _ (by decide) (by omega), Nat.xor_comm, xor_ones (by omega)]
 have := w64_of ((18446744073709551615 - u / 2 : Nat) : Int)
 unfold w64 at this
 rw [this]
 unfold zz
 rw [if_pos h1]
 omega
theorem zz_even {u : Nat} (h1 : ¬ u % 2 = 1) : ((u / 2 : Nat) : Int) = zz u := by unfold zz; rw [if_neg h1]
theorem number2A (b : By) (j : Nat) (e : Int) (hb : b.length ≤ 3000000) (hj : j ≤ b.length) : AFn Tryz.prog GC 38 [.ptr 0 0] 1 [(0, rd2 b j e)] (RdR2 (rnT (b.drop j) e).1 b (j + (rnT (b.drop j) e).2.1) (rnT (b.drop j) e).2.2) := by
 have hdl : (b.drop j).length = b.length - j := List.length_drop
 refine afn_of Tryz.func38 rfl mixed (by kernel_rfl) ?_
 conv => whnf
 refine aloopH ws38_1 [3, 4] (fun x : NX => [(3, uv x.u), (4, iv x.i)]) (fun x => NI (b.drop j) x.i x.u) (fun x => (b.drop j).length - x.i) ⟨0, 0⟩ (by kernel_rfl) (fun _ => rfl) (by kernel_rfl) ⟨rfl, by decide, by decide, Nat.zero_le _⟩ (by repeat' (first | rfl | trivial | apply And.intro)) (by repeat' (first | rfl | trivial | apply And.intro)) ?_
 rintro ⟨i, u⟩ hN
 change NI (b.drop j) i u at hN
 have hi := hN.2.2.1
 have hu := hN.2.1
 conv => whnf
 apply vif_split <;> intro h
 rotate_left 1
 ·have h0 : e ≠ 0 := by simpa using h
  conv => whnf
  exact aend (iv 0) 1 [(0, rd2 b j e)] [] [] (by rw [rnT_err h0]; exact ⟨rfl, rfl, rfl⟩) rfl (by repeat' (first | rfl | trivial | apply And.intro)) (by repeat' (first | rfl | trivial | apply And.intro))
 have h0 : e = 0 := by simpa using h
 subst h0
 conv => whnf
 (refine adraw pln38 [] (by kernel_rfl) ?_; conv => whnf)
 refine AAr.to (y := ((j + i : Nat) : Int)) (by show IntKind.i64.wrap ((j : Int) + (i : Int)) = _; rw [← Int.natCast_add]; exact IntWalk.i64_in _ (by omega)) ?_
 conv => whnf
 refine vif_split (fun h1 => ?_) (fun h1 => ?_)
 ·have hil : (b.drop j).length ≤ i := by simp at h1; omega
  conv => whnf
  refine acallM [0] [] (by kernel_rfl) (fail2A b j 0 16) rfl (by repeat' (first | rfl | trivial | apply And.intro)) (by repeat' (first | rfl | trivial | apply And.intro)) ?_
  rintro _ _ _ ⟨rfl, rfl, rfl⟩
  refine ⟨rfl, ?_⟩
  conv => whnf
  exact aend (iv 0) 1 [(0, rd2 b j 16)] [] [] (by rw [rnT_bad (hN.last hil)]; exact ⟨rfl, rfl, rfl⟩) rfl (by repeat' (first | rfl | trivial | apply And.intro)) (by repeat' (first | rfl | trivial | apply And.intro))
 have hil : i < (b.drop j).length := by simp at h1; omega
 have hc := hN.cons hil
 have hji : j + i < b.length := by omega
 have hge : (b.drop j)[i] = b[j + i] := List.getElem_drop
 rw [hge] at hc
 conv => whnf
 (refine adraw pln38 [] (by kernel_rfl) ?_; conv => whnf)
 refine AAr.to (y := ((j + i : Nat) : Int)) (by show IntKind.i64.wrap ((j : Int) + (i : Int)) = _; rw [← Int.natCast_add]; exact IntWalk.i64_in _ (by omega)) ?_
 conv => whnf
 refine AIn.mk' (j + i) rfl (by rw [List.length_map]; exact hji) ?_
 conv => whnf
 refine ARd.map hji ?_
 conv => whnf
 clear hge
 generalize b[j + i] = c at *
 have hcl := c.toNat_lt
 refine vif_split (fun h2 => ?_) (fun h2 => ?_)
 ·have h9 : i = 9 := by simp at h2; omega
  conv => whnf
  refine vif_split (fun h3 => ?_) (fun h3 => ?_)
  ·have hc1 : 1 < c.toNat := by simp at h3; omega
   conv => whnf
   refine acallM [0] [] (by kernel_rfl) (fail2A b j 0 3) rfl (by repeat' (first | rfl | trivial | apply And.intro)) (by repeat' (first | rfl | trivial | apply And.intro)) ?_
   rintro _ _ _ ⟨rfl, rfl, rfl⟩
   refine ⟨rfl, ?_⟩
   conv => whnf
   exact aend (iv 0) 1 [(0, rd2 b j 3)] [] [] (by rw [rnT_bad (by rw [hc, if_pos ⟨h9, hc1⟩])]; exact ⟨rfl, rfl, rfl⟩) rfl (by repeat' (first | rfl | trivial | apply And.intro)) (by repeat' (first | rfl | trivial | apply And.intro))
  ·have hc1 : c.toNat ≤ 1 := by simp at h3; omega
   have hn9 : ¬ (i = 9 ∧ 1 < c.toNat) := by omega
   have hx9 : i = 9 → c.toNat % 128 ≤ 1 := by omega
   have hx := shl_at (x := c.toNat % 128) hi (Nat.mod_lt _ (by decide)) hx9
   have hU : u + c.toNat % 128 * 128 ^ i < 18446744073709551616 := by
    have h1 := NI.lt (c := c.toNat) hu
    rcases Nat.lt_or_ge i 9 with h2 | h2
    ·have h3 : 128 ^ (i + 1) ≤ 128 ^ 9 := Nat.pow_le_pow_right (by decide) (by omega)
     have h4 : (128 : Nat) ^ 9 < 18446744073709551616 := by decide
     omega
    ·have h3 : i = 9 := by omega
     have h4 := hx9 h3
     subst h3
     have h5 : (128 : Nat) ^ 9 = 9223372036854775808 := by decide
     have h6 := Nat.mul_le_mul_right (128 ^ 9) h4
     rw [h5] at hu h6 ⊢
     omega
   conv => whnf
   refine AAr.to (c_and c) ?_
   conv => whnf
   refine AAr.i64 (x := 7 * (i : Int)) (by omega) ?_
   conv => whnf
   refine AAr.to (y := 7 * (i : Int)) (by have := wr_u64 (n := 7 * i) (by omega); simpa using this) ?_
   conv => whnf
   refine VReq.mk (by show (0 : Int) ≤ 7 * (i : Int); omega) ?_
   conv => whnf
   refine AAr.to hx.1 ?_
   conv => whnf
   rw [or_at hu hi hx.2]
   conv => whnf
   refine vif_split (fun h4 => ?_) (fun h4 => ?_)
   ·have h128 : 128 ≤ c.toNat := by simp at h4; omega
    conv => whnf
    refine AAr.i64 (x := (i : Int) + 1) (by omega) ?_
    conv => whnf
    exact aback ⟨i + 1, u + c.toNat % 128 * 128 ^ i⟩ [] [] rfl (by show (b.drop j).length - (i + 1) < (b.drop j).length - i; omega) ⟨by rw [hc, if_neg hn9, if_pos h128], NI.lt hu, (show i + 1 ≤ 9 by omega), hil⟩ (by repeat' (first | rfl | trivial | apply And.intro)) ⟨rfl, rfl, trivial⟩
   ·have h128 : c.toNat < 128 := by simp at h4; omega
    conv => whnf
    refine vif_split (fun h5 => ?_) (fun h5 => ?_)
    ·have hc0 : c.toNat = 0 := by simp at h5; omega
     conv => whnf
     refine vif_split (fun h6 => ?_) (fun h6 => ?_)
     ·have hi0 : 0 < i := by simp at h6; omega
      conv => whnf
      refine acallM [0] [] (by kernel_rfl) (fail2A b j 0 1) rfl (by repeat' (first | rfl | trivial | apply And.intro)) (by repeat' (first | rfl | trivial | apply And.intro)) ?_
      rintro _ _ _ ⟨rfl, rfl, rfl⟩
      refine ⟨rfl, ?_⟩
      conv => whnf
      exact aend (iv 0) 1 [(0, rd2 b j 1)] [] [] (by rw [rnT_bad (by rw [hc, if_neg hn9, if_neg (by omega), if_pos ⟨hc0, hi0⟩])]; exact ⟨rfl, rfl, rfl⟩) rfl (by repeat' (first | rfl | trivial | apply And.intro)) (by repeat' (first | rfl | trivial | apply And.intro))
     have hi0 : i = 0 := by simp at h6; omega
     conv => whnf
     have hok : rdN (b.drop j) 0 0 = .ok (zz (u + c.toNat % 128 * 128 ^ i)) (i + 1) := by rw [hc, if_neg hn9, if_neg (by omega), if_neg (by omega)]
     refine AAr.i64 (x := (i : Int) + 1) (by omega) ?_
     conv => whnf
     refine AAr.to (y := ((j + (i + 1) : Nat) : Int)) (by show IntKind.i64.wrap ((j : Int) + ((i : Int) + 1)) = _; rw [IntWalk.i64_in _ (by omega)]; omega) ?_
     conv => whnf
     generalize u + c.toNat % 128 * 128 ^ i = U at *
     rw [u_and hU]
     conv => whnf
     refine vif_split (fun h7 => ?_) (fun h7 => ?_)
     ·have ho : U % 2 = 1 := by simp at h7; omega
      conv => whnf
      refine VReq.mk (by decide) ?_
      rw [shrk1]
      conv => whnf
      refine AAr.to (zz_odd hU ho) ?_
      conv => whnf
      exact aend (iv (zz U)) 1 [(0, rd2 b (j + (i + 1)) 0)] [] [] (by rw [rnT_good hok]; exact ⟨rfl, rfl, rfl⟩) rfl (by repeat' (first | rfl | trivial | apply And.intro)) (by repeat' (first | rfl | trivial | apply And.intro))
     ·have ho : ¬ U % 2 = 1 := by simp at h7; omega
      conv => whnf
      refine VReq.mk (by decide) ?_
      rw [shrk1]
      conv => whnf
      refine AAr.to (y := zz U) (by rw [← zz_even ho]; exact IntWalk.i64_in _ (by omega)) ?_
      conv => whnf
      exact aend (iv (zz U)) 1 [(0, rd2 b (j + (i + 1)) 0)] [] [] (by rw [rnT_good hok]; exact ⟨rfl, rfl, rfl⟩) rfl (by repeat' (first | rfl | trivial | apply And.intro)) (by repeat' (first | rfl | trivial | apply And.intro))
    ·have hc0 : c.toNat ≠ 0 := by simp at h5; omega
     conv => whnf
     have hok : rdN (b.drop j) 0 0 = .ok (zz (u + c.toNat % 128 * 128 ^ i)) (i + 1) := by rw [hc, if_neg hn9, if_neg (by omega), if_neg (by omega)]
     refine AAr.i64 (x := (i : Int) + 1) (by omega) ?_
     conv => whnf
     refine AAr.to (y := ((j + (i + 1) : Nat) : Int)) (by show IntKind.i64.wrap ((j : Int) + ((i : Int) + 1)) = _; rw [IntWalk.i64_in _ (by omega)]; omega) ?_
     conv => whnf
     generalize u + c.toNat % 128 * 128 ^ i = U at *
     rw [u_and hU]
     conv => whnf
     refine vif_split (fun h7 => ?_) (fun h7 => ?_)
     ·have ho : U % 2 = 1 := by simp at h7; omega
      conv => whnf
      refine VReq.mk (by decide) ?_
      rw [shrk1]
      conv => whnf
      refine AAr.to (zz_odd hU ho) ?_
      conv => whnf
      exact aend (iv (zz U)) 1 [(0, rd2 b (j + (i + 1)) 0)] [] [] (by rw [rnT_good hok]; exact ⟨rfl, rfl, rfl⟩) rfl (by repeat' (first | rfl | trivial | apply And.intro)) (by repeat' (first | rfl | trivial | apply And.intro))
     ·have ho : ¬ U % 2 = 1 := by simp at h7; omega
      conv => whnf
      refine VReq.mk (by decide) ?_
      rw [shrk1]
      conv => whnf
      refine AAr.to (y := zz U) (by rw [← zz_even ho]; exact IntWalk.i64_in _ (by omega)) ?_
      conv => whnf
      exact aend (iv (zz U)) 1 [(0, rd2 b (j + (i + 1)) 0)] [] [] (by rw [rnT_good hok]; exact ⟨rfl, rfl, rfl⟩) rfl (by repeat' (first | rfl | trivial | apply And.intro)) (by repeat' (first | rfl | trivial | apply And.intro))
 ·have h9 : i ≠ 9 := by simp at h2; omega
  have hn9 : ¬ (i = 9 ∧ 1 < c.toNat) := by omega
  have hx9 : i = 9 → c.toNat % 128 ≤ 1 := by omega
  ·skip
   have hx := shl_at (x := c.toNat % 128) hi (Nat.mod_lt _ (by decide)) hx9
   have hU : u + c.toNat % 128 * 128 ^ i < 18446744073709551616 := by
    have h1 := NI.lt (c := c.toNat) hu
    rcases Nat.lt_or_ge i 9 with h2 | h2
    ·have h3 : 128 ^ (i + 1) ≤ 128 ^ 9 := Nat.pow_le_pow_right (by decide) (by omega)
     have h4 : (128 : Nat) ^ 9 < 18446744073709551616 := by decide
     omega
    ·have h3 : i = 9 := by omega
     have h4 := hx9 h3
     subst h3
     have h5 : (128 : Nat) ^ 9 = 9223372036854775808 := by decide
     have h6 := Nat.mul_le_mul_right (128 ^ 9) h4
     rw [h5] at hu h6 ⊢
     omega
   conv => whnf
   refine AAr.to (c_and c) ?_
   conv => whnf
   refine AAr.i64 (x := 7 * (i : Int)) (by omega) ?_
   conv => whnf
   refine AAr.to (y := 7 * (i : Int)) (by have := wr_u64 (n := 7 * i) (by omega); simpa using this) ?_
   conv => whnf
   refine VReq.mk (by show (0 : Int) ≤ 7 * (i : Int); omega) ?_
   conv => whnf
   refine AAr.to hx.1 ?_
   conv => whnf
   rw [or_at hu hi hx.2]
   conv => whnf
   refine vif_split (fun h4 => ?_) (fun h4 => ?_)
   ·have h128 : 128 ≤ c.toNat := by simp at h4; omega
    conv => whnf
    refine AAr.i64 (x := (i : Int) + 1) (by omega) ?_
    conv => whnf
    exact aback ⟨i + 1, u + c.toNat % 128 * 128 ^ i⟩ [] [] rfl (by show (b.drop j).length - (i + 1) < (b.drop j).length - i; omega) ⟨by rw [hc, if_neg hn9, if_pos h128], NI.lt hu, (show i + 1 ≤ 9 by omega), hil⟩ (by repeat' (first | rfl | trivial | apply And.intro)) ⟨rfl, rfl, trivial⟩
   ·have h128 : c.toNat < 128 := by simp at h4; omega
    conv => whnf
    refine vif_split (fun h5 => ?_) (fun h5 => ?_)
    ·have hc0 : c.toNat = 0 := by simp at h5; omega
     conv => whnf
     refine vif_split (fun h6 => ?_) (fun h6 => ?_)
     ·have hi0 : 0 < i := by simp at h6; omega
      conv => whnf
      refine acallM [0] [] (by kernel_rfl) (fail2A b j 0 1) rfl (by repeat' (first | rfl | trivial | apply And.intro)) (by repeat' (first | rfl | trivial | apply And.intro)) ?_
      rintro _ _ _ ⟨rfl, rfl, rfl⟩
      refine ⟨rfl, ?_⟩
      conv => whnf
      exact aend (iv 0) 1 [(0, rd2 b j 1)] [] [] (by rw [rnT_bad (by rw [hc, if_neg hn9, if_neg (by omega), if_pos ⟨hc0, hi0⟩])]; exact ⟨rfl, rfl, rfl⟩) rfl (by repeat' (first | rfl | trivial | apply And.intro)) (by repeat' (first | rfl | trivial | apply And.intro))
     have hi0 : i = 0 := by simp at h6; omega
     conv => whnf
     have hok : rdN (b.drop j) 0 0 = .ok (zz (u + c.toNat % 128 * 128 ^ i)) (i + 1) := by rw [hc, if_neg hn9, if_neg (by omega), if_neg (by omega)]
     refine AAr.i64 (x := (i : Int) + 1) (by omega) ?_
     conv => whnf
     refine AAr.to (y := ((j + (i + 1) : Nat) : Int)) (by show IntKind.i64.wrap ((j : Int) + ((i : Int) + 1)) = _; rw [IntWalk.i64_in _ (by omega)]; omega) ?_
     conv => whnf
     generalize u + c.toNat % 128 * 128 ^ i = U at *
     rw [u_and hU]
     conv => whnf
     refine vif_split (fun h7 => ?_) (fun h7 => ?_)
     ·have ho : U % 2 = 1 := by simp at h7; omega
      conv => whnf
      refine VReq.mk (by decide) ?_
      rw [shrk1]
      conv => whnf
      refine AAr.to (zz_odd hU ho) ?_
      conv => whnf
      exact aend (iv (zz U)) 1 [(0, rd2 b (j + (i + 1)) 0)] [] [] (by rw [rnT_good hok]; exact ⟨rfl, rfl, rfl⟩) rfl (by repeat' (first | rfl | trivial | apply And.intro)) (by repeat' (first | rfl | trivial | apply And.intro))
     ·have ho : ¬ U % 2 = 1 := by simp at h7; omega
      conv => whnf
      refine VReq.mk (by decide) ?_
      rw [shrk1]
      conv => whnf
      refine AAr.to (y := zz U) (by rw [← zz_even ho]; exact IntWalk.i64_in _ (by omega)) ?_
      conv => whnf
      exact aend (iv (zz U)) 1 [(0, rd2 b (j + (i + 1)) 0)] [] [] (by rw [rnT_good hok]; exact ⟨rfl, rfl, rfl⟩) rfl (by repeat' (first | rfl | trivial | apply And.intro)) (by repeat' (first | rfl | trivial | apply And.intro))
    ·have hc0 : c.toNat ≠ 0 := by simp at h5; omega
     conv => whnf
     have hok : rdN (b.drop j) 0 0 = .ok (zz (u + c.toNat % 128 * 128 ^ i)) (i + 1) := by rw [hc, if_neg hn9, if_neg (by omega), if_neg (by omega)]
     refine AAr.i64 (x := (i : Int) + 1) (by omega) ?_
     conv => whnf
     refine AAr.to (y := ((j + (i + 1) : Nat) : Int)) (by show IntKind.i64.wrap ((j : Int) + ((i : Int) + 1)) = _; rw [IntWalk.i64_in _ (by omega)]; omega) ?_
     conv => whnf
     generalize u + c.toNat % 128 * 128 ^ i = U at *
     rw [u_and hU]
     conv => whnf
     refine vif_split (fun h7 => ?_) (fun h7 => ?_)
     ·have ho : U % 2 = 1 := by simp at h7; omega
      conv => whnf
      refine VReq.mk (by decide) ?_
      rw [shrk1]
      conv => whnf
      refine AAr.to (zz_odd hU ho) ?_
      conv => whnf
      exact aend (iv (zz U)) 1 [(0, rd2 b (j + (i + 1)) 0)] [] [] (by rw [rnT_good hok]; exact ⟨rfl, rfl, rfl⟩) rfl (by repeat' (first | rfl | trivial | apply And.intro)) (by repeat' (first | rfl | trivial | apply And.intro))
     ·have ho : ¬ U % 2 = 1 := by simp at h7; omega
      conv => whnf
      refine VReq.mk (by decide) ?_
      rw [shrk1]
      conv => whnf
      refine AAr.to (y := zz U) (by rw [← zz_even ho]; exact IntWalk.i64_in _ (by omega)) ?_
      conv => whnf
      exact aend (iv (zz U)) 1 [(0, rd2 b (j + (i + 1)) 0)] [] [] (by rw [rnT_good hok]; exact ⟨rfl, rfl, rfl⟩) rfl (by repeat' (first | rfl | trivial | apply And.intro)) (by repeat' (first | rfl | trivial | apply And.intro))
theorem count2A (b : By) (j : Nat) (e most : Int) (hb : b.length ≤ 3000000) (hj : j ≤ b.length) (hmost : 0 ≤ most) : AFn Tryz.prog GC 37 [.ptr 0 0, iv most] 1 [(0, rd2 b j e)] (RdR2 (cnT (b.drop j) e most 5).1 b (j + (cnT (b.drop j) e most 5).2.1) (cnT (b.drop j) e most 5).2.2) := by
 have hN := number2A b j e hb hj
 have hz := (rnT_ok (b.drop j) e).2.2.2
 rw [cnT_def]
 generalize rnT (b.drop j) e = t at *
 obtain ⟨x, k, e'⟩ := t
 simp only at hN hz ⊢
 generalize j + k = j' at *
 by_cases he : e' = 0
 ·subst he
  clear hz
  simp only [if_true]
  refine afn_of Tryz.func37 rfl mixed (by kernel_rfl) ?_
  conv => whnf
  refine acallM [0] [] (by kernel_rfl) hN rfl (by repeat' (first | rfl | trivial | apply And.intro)) (by repeat' (first | rfl | trivial | apply And.intro)) ?_
  rintro _ _ _ ⟨rfl, rfl, rfl⟩
  refine ⟨rfl, ?_⟩
  conv => whnf
  apply vif_split <;> intro h
  ·have hx : x < 0 := by simpa using h
   conv => whnf
   refine acallM [0] [] (by kernel_rfl) (fail2A b j' 0 3) rfl (by repeat' (first | rfl | trivial | apply And.intro)) (by repeat' (first | rfl | trivial | apply And.intro)) ?_
   rintro _ _ _ ⟨rfl, rfl, rfl⟩
   refine ⟨rfl, ?_⟩
   conv => whnf
   exact aend (iv 0) 1 [(0, rd2 b j' 3)] [] [] (by rw [if_pos hx]; exact ⟨rfl, rfl, rfl⟩) rfl (by repeat' (first | rfl | trivial | apply And.intro)) (by repeat' (first | rfl | trivial | apply And.intro))
  have hx : ¬ x < 0 := by simpa using h
  conv => whnf
  apply vif_split <;> intro h
  ·have hm : most < x := by simpa using h
   conv => whnf
   refine acallM [0] [] (by kernel_rfl) (fail2A b j' 0 5) rfl (by repeat' (first | rfl | trivial | apply And.intro)) (by repeat' (first | rfl | trivial | apply And.intro)) ?_
   rintro _ _ _ ⟨rfl, rfl, rfl⟩
   refine ⟨rfl, ?_⟩
   conv => whnf
   exact aend (iv 0) 1 [(0, rd2 b j' 5)] [] [] (by rw [if_neg hx, if_pos hm, if_neg (by decide)]; exact ⟨rfl, rfl, rfl⟩) rfl (by repeat' (first | rfl | trivial | apply And.intro)) (by repeat' (first | rfl | trivial | apply And.intro))
  have hm : ¬ most < x := by simpa using h
  conv => whnf
  exact aend (iv x) 1 [(0, rd2 b j' 0)] [] [] (by rw [if_neg hx, if_neg hm, if_pos rfl]; exact ⟨rfl, rfl, rfl⟩) rfl (by repeat' (first | rfl | trivial | apply And.intro)) (by repeat' (first | rfl | trivial | apply And.intro))
 ·obtain ⟨rfl, rfl⟩ := hz he
  simp only [he, if_false]
  refine afn_of Tryz.func37 rfl mixed (by kernel_rfl) ?_
  conv => whnf
  refine acallM [0] [] (by kernel_rfl) hN rfl (by repeat' (first | rfl | trivial | apply And.intro)) (by repeat' (first | rfl | trivial | apply And.intro)) ?_
  rintro _ _ _ ⟨rfl, rfl, rfl⟩
  refine ⟨rfl, ?_⟩
  conv => whnf
  apply vif_split <;> intro h
  ·exfalso; simp at h; exact he h
  conv => whnf
  apply vif_split <;> intro h
  ·exfalso; simp at h; exact he h
  conv => whnf
  apply vif_split <;> intro h
  rotate_left 1
  ·exfalso; simp at h; exact he h
  conv => whnf
  exact aend (iv 0) 1 [(0, rd2 b j' e')] [] [] ⟨rfl, rfl, rfl⟩ rfl (by repeat' (first | rfl | trivial | apply And.intro)) (by repeat' (first | rfl | trivial | apply And.intro))
theorem beginsA (b x : By) : AFn Tryz.prog GC 96 [bs b, bs x] 0 [] (Is (bv (decide (b.take x.length = x)))) := by
 refine afn_of Tryz.func96 rfl mixed (by kernel_rfl) ?_
 conv => whnf
 (refine adraw pln96 [] (by kernel_rfl) ?_; conv => whnf)
 apply vif_split <;> intro h
 ·have hl : x.length ≤ b.length := by simp at h; omega
  conv => whnf
  repeat' (first
   | (refine ABd.mk' 0 x.length rfl (by rw [List.length_map]) (Nat.zero_le _) (by rw [List.length_map]; exact hl) ?_; rw [show cut none (some (AV.v (.int .i64 ((x.map enB).length : Nat)))) 0 x.length (b.map enB) = (b.take x.length).map enB from List.map_take.symm]; conv => whnf)
   | (refine ABy.of ?_; conv => whnf))
  refine aret [] (congrArg Value.bool ?_)
  exact sEq_by _ _
 ·have hl : b.length < x.length := by simp at h; omega
  conv => whnf
  refine aret [] (congrArg Value.bool ?_)
  refine (decide_eq_false fun e => ?_).symm
  have := congrArg List.length e
  rw [List.length_take] at this
  omega
theorem gd_head2 (b : By) : Gd b fun l0 r => (cnT (b.drop (rnT b 0).2.1) (rnT b 0).2.2 512 5).2.2 = 0 ∧ ∃ k : Nat, 1 ≤ k ∧ k ≤ 5 ∧ (rnT b 0).1 = (k : Int) ∧ (cnT (b.drop (rnT b 0).2.1) (rnT b 0).2.2 512 5).1 = (l0.length : Int) ∧ b.drop ((rnT b 0).2.1 + (cnT (b.drop (rnT b 0).2.1) (rnT b 0).2.2 512 5).2.1) = bd k l0 ++ r := fun l0 r ha hl h => by
 have hform : ∃ k : Nat, 1 ≤ k ∧ k ≤ 5 ∧ ints l0 = num (k : Int) ++ (num (l0.length : Int) ++ bd k l0) := by
  by_cases h0 : l0 = []
  ·subst h0; exact ⟨1, by omega, by omega, by decide⟩
  ·obtain ⟨k, h1, h2, h3⟩ := ints_in h0
   exact ⟨k, h1, h2, by rw [h3]; unfold en; rw [List.append_assoc]⟩
 obtain ⟨k, k1, k2, he⟩ := hform
 have hb : b = num (k : Int) ++ (num (l0.length : Int) ++ (bd k l0 ++ r)) := by rw [h, he]; simp only [List.append_assoc]
 have r1 := rd1 (b := b) (e := 0) (z := num (l0.length : Int) ++ (bd k l0 ++ r)) (i64_nat (by omega : k ≤ 9223372036854775807)) rfl hb
 have r2 := rd1 (e := 0) (i64_nat (by omega : l0.length ≤ 9223372036854775807)) rfl (rfl : num (l0.length : Int) ++ (bd k l0 ++ r) = _)
 rw [← List.drop_drop, r1.1, r1.2.1, r1.2.2]
 rw [cnT_def]
 simp only
 rw [r2.1, r2.2.1, r2.2.2, if_pos rfl, if_neg (by omega), if_neg (by omega), if_pos rfl]
 exact ⟨rfl, k, k1, k2, rfl, rfl, rfl⟩
def DcA (b : By) (a : AV) (m : Nat) (H : AHeap) : Prop := ∃ (l : Li) (e : Int) (j : Nat), AllI l ∧ l.length ≤ 512 ∧ Gd b (fun l0 _ => e = 0 ∧ l = l0) ∧ a = li l ∧ m = 1 ∧ H = [(0, rd2 b j e)]
theorem cnT_le (b : By) (e most em : Int) : (cnT b e most em).2.1 ≤ b.length := (rnT_ok b e).2.1
structure DX where
 j : Nat
 e : Int
 out : Li
theorem sm_snoc : ∀ (d : Li) (p x : Int), sm p (d ++ [x]) = sm p d ++ [w64 ((sm p d).getD (d.length - 1) p + x)] := by
 intro d
 induction d with
 | nil => intro p x; rfl
 | cons y r ih =>
  intro p x
  have := ih (w64 (p + y)) x
  show w64 (p + y) :: sm (w64 (p + y)) (r ++ [x]) = w64 (p + y) :: sm (w64 (p + y)) r ++ [_]
  rw [this, List.cons_append]
  congr 3
  cases r with
  | nil => rfl
  | cons z t =>
   have hl : (sm (w64 (p + y)) (z :: t)).length = t.length + 1 := by rw [sm_len]; rfl
   show w64 ((sm (w64 (p + y)) (z :: t)).getD t.length (w64 (p + y)) + x) = w64 ((w64 (p + y) :: sm (w64 (p + y)) (z :: t)).getD (t.length + 1) p + x)
   rw [List.getD_cons_succ, List.getD_eq_getElem?_getD, List.getD_eq_getElem?_getD, List.getElem?_eq_getElem (by omega)]
   rfl
theorem Gd.mono {b : By} {Q Q' : Li → By → Prop} (h : Gd b Q) (k : ∀ l0 r, AllI l0 → l0.length ≤ 512 → Q l0 r → Q' l0 r) : Gd b Q' := fun l0 r h1 h2 h3 => k l0 r h1 h2 (h l0 r h1 h2 h3)
theorem rn_le {b : By} {j : Nat} (e : Int) (h : j ≤ b.length) : j + (rnT (b.drop j) e).2.1 ≤ b.length := by
 have := (rnT_ok (b.drop j) e).2.1
 rw [List.length_drop] at this
 omega
theorem decodeA (b : By) (hb : b.length ≤ 100000) : AFn Tryz.prog GC 97 [.ptr 0 0] 1 [(0, rd2 b 0 0)] (DcA b) := by
 have hhead := gd_head2 b
 have hN := number2A b 0 0 (by omega) (Nat.zero_le _)
 rw [List.drop_zero, Nat.zero_add] at hN
 have hj1 : (rnT b 0).2.1 ≤ b.length := (rnT_ok b 0).2.1
 have hC := count2A b (rnT b 0).2.1 (rnT b 0).2.2 512 (by omega) hj1 (by decide)
 have hcr := cnT_rng (b.drop (rnT b 0).2.1) (rnT b 0).2.2 512 5 (by decide) (by decide)
 have hj0 : (rnT b 0).2.1 + (cnT (b.drop (rnT b 0).2.1) (rnT b 0).2.2 512 5).2.1 ≤ b.length := by
  have := cnT_le (b.drop (rnT b 0).2.1) (rnT b 0).2.2 512 5
  rw [List.length_drop] at this
  omega
 have hcr := And.intro hcr.1 hcr.2.1
 generalize hc : cnT (b.drop (rnT b 0).2.1) (rnT b 0).2.2 512 5 = t at *
 obtain ⟨nn, j2, e0⟩ := t
 simp only at hhead hC hcr hj0
 generalize (rnT b 0).1 = kind at *
 generalize (rnT b 0).2.2 = e1 at *
 generalize (rnT b 0).2.1 = j1 at *
 generalize hj : j1 + j2 = j0 at *
 clear hc
 obtain ⟨n, rfl⟩ : ∃ n : Nat, nn = (n : Int) := ⟨nn.toNat, by omega⟩
 have hn : n ≤ 512 := by omega
 have hlen : Gd b fun l0 _ => l0.length = n := hhead.mono fun l0 r _ _ ⟨_, k, _, _, _, h, _⟩ => by omega
 have hst : ∀ k : Nat, kind = (k : Int) → Gd b fun l0 r => l0.length = n ∧ e0 = 0 ∧ b.drop j0 = bd k l0 ++ r := fun k hk => hhead.mono fun l0 r _ _ ⟨h0, k', _, _, h3, h4, h5⟩ => by
  have : k' = k := by omega
  subst this
  exact ⟨by omega, h0, h5⟩
 refine afn_of Tryz.func97 rfl mixed (by kernel_rfl) ?_
 conv => whnf
 refine acallM [0] [] (by kernel_rfl) hN rfl (by repeat' (first | rfl | trivial | apply And.intro)) (by repeat' (first | rfl | trivial | apply And.intro)) ?_
 rintro _ _ _ ⟨rfl, rfl, rfl⟩
 refine ⟨rfl, ?_⟩
 conv => whnf
 refine acallM [0] [] (by kernel_rfl) hC rfl (by repeat' (first | rfl | trivial | apply And.intro)) (by repeat' (first | rfl | trivial | apply And.intro)) ?_
 rintro _ _ _ ⟨rfl, rfl, rfl⟩
 refine ⟨rfl, ?_⟩
 conv => whnf
 refine vif_split (fun hk1 => ?_) (fun hk1 => ?_)
 ·have hst := hst 1 (by simpa using hk1)
  conv => whnf
  refine aloop ws97_1 2 [5, 6] (fun x : DX => [(5, .own 1), (6, iv x.out.length)]) (fun x => [(1, .rows 3 1 (x.out.map enI)), (0, rd2 b x.j x.e)]) (fun x => x.out.length ≤ n ∧ AllI x.out ∧ x.j ≤ b.length ∧ Gd b fun l0 r => l0.length = n ∧ Q1 (b.drop x.j) x.out x.e l0 r) (fun x => n - x.out.length) [(1, .nil)] [] ⟨j0, e0, []⟩ (by kernel_rfl) (fun _ => rfl) rfl ⟨Nat.zero_le _, AllI.nil, hj0, hst.mono fun l0 r _ _ ⟨h1, h2, h3⟩ => ⟨h1, h2, l0, rfl, h3⟩⟩ ⟨rfl, (by repeat' (first | rfl | trivial | apply And.intro)), trivial⟩ ⟨trivial, rfl, trivial⟩ ?_
  clear hst hhead hN hC hj0 hj
  rintro ⟨j, e, out⟩ ⟨h1, h2, h3, h4⟩
  change out.length ≤ n at h1
  change AllI out at h2
  change j ≤ b.length at h3
  change Gd b fun l0 r => l0.length = n ∧ Q1 (b.drop j) out e l0 r at h4
  conv => whnf
  apply vif_split <;> intro h
  ·have hlt : out.length < n := by simp at h; omega
   conv => whnf
   refine acallM [0] [] (by kernel_rfl) (number2A b j e (by omega) h3) rfl (by repeat' (first | rfl | trivial | apply And.intro)) (by repeat' (first | rfl | trivial | apply And.intro)) ?_
   rintro _ _ _ ⟨rfl, rfl, rfl⟩
   refine ⟨rfl, ?_⟩
   conv => whnf
   refine VReq.mk (app_ok (by simp only [List.length_map, List.length_append, List.length_cons, List.length_nil]; omega) (by kernel_rfl)) ?_
   conv => whnf
   refine AAr.i64 (x := (out.length : Int) + 1) (by omega) ?_
   conv => whnf
   have hl2 : (out ++ [(rnT (b.drop j) e).1]).length = out.length + 1 := by simp
   refine aback ⟨j + (rnT (b.drop j) e).2.1, (rnT (b.drop j) e).2.2, out ++ [(rnT (b.drop j) e).1]⟩ [(1, .lab 3)] [] rfl (by show n - (out ++ [(rnT (b.drop j) e).1]).length < n - out.length; omega)
    ⟨by show (out ++ [(rnT (b.drop j) e).1]).length ≤ n; omega, h2.snoc (rnT_ok (b.drop j) e).1, rn_le e h3, h4.mono fun l0 r ha _ ⟨q1, q2⟩ => ⟨q1, by
     have := q2.step ha (by omega)
     rwa [List.drop_drop] at this⟩⟩ ⟨⟨rfl, rfl, (snocI out _).symm⟩, (by repeat' (first | rfl | trivial | apply And.intro)), trivial⟩ ⟨rfl, congrArg (Value.int .i64) (by rw [hl2]; rfl), trivial⟩
  ·have hlt : out.length = n := by simp at h; omega
   conv => whnf
   exact aend (li out) 1 [(0, rd2 b j e)] [] [1] ⟨out, e, j, h2, by omega, h4.mono fun l0 r _ _ ⟨q1, q2⟩ => by
    have := q2.fin fun _ => by omega
    exact ⟨this.1, this.2.1⟩, rfl, rfl, rfl⟩ rfl (by repeat' (first | rfl | trivial | apply And.intro)) (by repeat' (first | rfl | trivial | apply And.intro))
 conv => whnf
 refine vif_split (fun hk2 => ?_) (fun hk2 => ?_)
 ·have hst := hst 2 (by simpa using hk2)
  clear hlen
  conv => whnf
  refine aloop ws97_2 2 [5] (fun _ : DX => [(5, .own 1)]) (fun x => [(1, .rows 3 1 (x.out.map enI)), (0, rd2 b x.j x.e)]) (fun x => x.out.length ≤ n ∧ AllI x.out ∧ x.j ≤ b.length ∧ Gd b fun l0 r => l0.length = n ∧ Q2 (b.drop x.j) x.out x.e l0 r) (fun x => 2 * (n - x.out.length) + (if x.e = 0 then 1 else 0)) [(1, .nil)] [] ⟨j0, e0, []⟩ (by kernel_rfl) (fun _ => rfl) rfl ⟨Nat.zero_le _, AllI.nil, hj0, hst.mono fun l0 r _ _ ⟨h1, h2, h3⟩ => ⟨h1, h2, l0, rfl, h3⟩⟩ ⟨rfl, (by repeat' (first | rfl | trivial | apply And.intro)), trivial⟩ ⟨trivial, trivial⟩ ?_
  clear hst hhead hN hC hj0 hj
  rintro ⟨j, e, out⟩ ⟨h1, h2, h3, h4⟩
  change out.length ≤ n at h1
  change AllI out at h2
  change j ≤ b.length at h3
  change Gd b fun l0 r => l0.length = n ∧ Q2 (b.drop j) out e l0 r at h4
  conv => whnf
  apply vif_split <;> intro h
  rotate_left 1
  ·have hlt : out.length = n := by simp at h; omega
   conv => whnf
   exact aend (li out) 1 [(0, rd2 b j e)] [] [1] ⟨out, e, j, h2, by omega, h4.mono fun l0 r _ _ ⟨q1, q2⟩ => ⟨q2.1, (q2.fin (by omega)).1⟩, rfl, rfl, rfl⟩ rfl (by repeat' (first | rfl | trivial | apply And.intro)) (by repeat' (first | rfl | trivial | apply And.intro))
  have hlt : out.length < n := by simp at h; omega
  conv => whnf
  apply vif_split <;> intro h
  rotate_left 1
  ·have he : e ≠ 0 := by simpa using h
   conv => whnf
   exact aend (li out) 1 [(0, rd2 b j e)] [] [1] ⟨out, e, j, h2, by omega, h4.mono fun l0 r _ _ ⟨q1, q2⟩ => absurd q2.1 he, rfl, rfl, rfl⟩ rfl (by repeat' (first | rfl | trivial | apply And.intro)) (by repeat' (first | rfl | trivial | apply And.intro))
  have he : e = 0 := by simpa using h
  subst he
  have hA := number2A b j 0 (by omega) h3
  have hj1 := rn_le 0 h3
  have hB := number2A b (j + (rnT (b.drop j) 0).2.1) (rnT (b.drop j) 0).2.2 (by omega) hj1
  have hj2 := rn_le (rnT (b.drop j) 0).2.2 hj1
  have hx := (rnT_ok (b.drop j) 0).1
  have hz := (rnT_ok (b.drop (j + (rnT (b.drop j) 0).2.1)) (rnT (b.drop j) 0).2.2).2.2.2
  have step : Gd b fun l0 r => ∃ m : Nat, (rnT (b.drop (j + (rnT (b.drop j) 0).2.1)) (rnT (b.drop j) 0).2.2).2.2 = 0 ∧ (rnT (b.drop (j + (rnT (b.drop j) 0).2.1)) (rnT (b.drop j) 0).2.2).1 = ((m + 1 : Nat) : Int) ∧ m + 1 + out.length ≤ n ∧ l0.length = n ∧
    Q2 (b.drop (j + (rnT (b.drop j) 0).2.1 + (rnT (b.drop (j + (rnT (b.drop j) 0).2.1)) (rnT (b.drop j) 0).2.2).2.1)) (out ++ List.replicate (m + 1) (rnT (b.drop j) 0).1) 0 l0 r := h4.mono fun l0 r ha hl ⟨q1, q2⟩ => by
   obtain ⟨m, m1, m2, m3, m4⟩ := q2.step ha (by omega) (by omega)
   simp only [List.drop_drop] at m1 m2 m4
   exact ⟨m, m1, m2, by omega, q1, m4⟩
  generalize hq : rnT (b.drop (j + (rnT (b.drop j) 0).2.1)) (rnT (b.drop j) 0).2.2 = t at *
  obtain ⟨kk, jj, e2⟩ := t
  simp only at step hB hj2 hz
  clear hq
  generalize (rnT (b.drop j) 0).1 = x at *
  generalize (rnT (b.drop j) 0).2.2 = e1 at *
  generalize j + (rnT (b.drop j) 0).2.1 = j1 at *
  generalize j1 + jj = j2 at *
  conv => whnf
  refine acallM [0] [] (by kernel_rfl) hA rfl (by repeat' (first | rfl | trivial | apply And.intro)) (by repeat' (first | rfl | trivial | apply And.intro)) ?_
  rintro _ _ _ ⟨rfl, rfl, rfl⟩
  refine ⟨rfl, ?_⟩
  conv => whnf
  refine acallM [0] [] (by kernel_rfl) hB rfl (by repeat' (first | rfl | trivial | apply And.intro)) (by repeat' (first | rfl | trivial | apply And.intro)) ?_
  rintro _ _ _ ⟨rfl, rfl, rfl⟩
  refine ⟨rfl, ?_⟩
  conv => whnf
  apply vif_split <;> intro h
  ·have hk : kk < 1 := by simpa using h
   have hbad : ∀ {l0 r}, ¬ ∃ m : Nat, e2 = 0 ∧ kk = ((m + 1 : Nat) : Int) ∧ m + 1 + out.length ≤ n ∧ l0.length = n ∧ Q2 (b.drop j2) (out ++ List.replicate (m + 1) x) 0 l0 r := by
    rintro l0 r ⟨m, _, m2, _⟩; omega
   conv => whnf
   refine acallM [0] [] (by kernel_rfl) (fail2A b j2 e2 1) rfl (by repeat' (first | rfl | trivial | apply And.intro)) (by repeat' (first | rfl | trivial | apply And.intro)) ?_
   rintro _ _ _ ⟨rfl, rfl, rfl⟩
   refine ⟨rfl, ?_⟩
   ·skip
    have hx2 : (if e2 = 0 then (1 : Int) else e2) ≠ 0 := by split <;> omega
    generalize (if e2 = 0 then (1 : Int) else e2) = e3 at *
    conv => whnf
    refine aloop ws97_3 3 [5, 9] (fun i : Nat => [(5, .own 2), (9, iv i)]) (fun _ => [(2, .rows 3 1 (out.map enI)), (0, rd2 b j2 e3)]) (fun i => i = 0) (fun _ => 0) [(2, .lab 1)] [] 0 (by kernel_rfl) (fun _ => rfl) rfl rfl ⟨⟨rfl, rfl, rfl⟩, (by repeat' (first | rfl | trivial | apply And.intro)), trivial⟩ ⟨rfl, rfl, trivial⟩ ?_
    rintro _ rfl
    conv => whnf
    apply vif_split <;> intro h
    ·conv => whnf
     apply vif_split <;> intro h
     ·exfalso; simp at h; exact hx2 h
     conv => whnf
     exact aback ⟨j2, e3, out⟩ [(1, .lab 2)] [] rfl (by show 2 * (n - out.length) + (if e3 = 0 then 1 else 0) < 2 * (n - out.length) + (if (0 : Int) = 0 then 1 else 0); rw [if_neg hx2, if_pos rfl]; omega) ⟨h1, h2, hj2, fun l0 r ha hl h => absurd (step l0 r ha hl h) hbad⟩ ⟨⟨rfl, rfl, rfl⟩, (by repeat' (first | rfl | trivial | apply And.intro)), trivial⟩ ⟨rfl, trivial⟩
    ·conv => whnf
     exact aback ⟨j2, e3, out⟩ [(1, .lab 2)] [] rfl (by show 2 * (n - out.length) + (if e3 = 0 then 1 else 0) < 2 * (n - out.length) + (if (0 : Int) = 0 then 1 else 0); rw [if_neg hx2, if_pos rfl]; omega) ⟨h1, h2, hj2, fun l0 r ha hl h => absurd (step l0 r ha hl h) hbad⟩ ⟨⟨rfl, rfl, rfl⟩, (by repeat' (first | rfl | trivial | apply And.intro)), trivial⟩ ⟨rfl, trivial⟩
  have hk : 1 ≤ kk := by simp at h; omega
  conv => whnf
  refine AAr.to (y := (n : Int) - (out.length : Int)) (by rw [List.length_map]; exact IntWalk.i64_in _ (by show _ ≤ (n : Int) - (out.length : Int) ∧ (n : Int) - (out.length : Int) ≤ _; omega)) ?_
  conv => whnf
  apply vif_split <;> intro h
  ·have hk2 : (n : Int) - (out.length : Int) < kk := by simp at h; omega
   have hbad : ∀ {l0 r}, ¬ ∃ m : Nat, e2 = 0 ∧ kk = ((m + 1 : Nat) : Int) ∧ m + 1 + out.length ≤ n ∧ l0.length = n ∧ Q2 (b.drop j2) (out ++ List.replicate (m + 1) x) 0 l0 r := by
    rintro l0 r ⟨m, _, m2, m3, _⟩; omega
   conv => whnf
   refine acallM [0] [] (by kernel_rfl) (fail2A b j2 e2 1) rfl (by repeat' (first | rfl | trivial | apply And.intro)) (by repeat' (first | rfl | trivial | apply And.intro)) ?_
   rintro _ _ _ ⟨rfl, rfl, rfl⟩
   refine ⟨rfl, ?_⟩
   ·skip
    have hx2 : (if e2 = 0 then (1 : Int) else e2) ≠ 0 := by split <;> omega
    generalize (if e2 = 0 then (1 : Int) else e2) = e3 at *
    conv => whnf
    refine aloop ws97_3 3 [5, 9] (fun i : Nat => [(5, .own 2), (9, iv i)]) (fun _ => [(2, .rows 3 1 (out.map enI)), (0, rd2 b j2 e3)]) (fun i => i = 0) (fun _ => 0) [(2, .lab 1)] [] 0 (by kernel_rfl) (fun _ => rfl) rfl rfl ⟨⟨rfl, rfl, rfl⟩, (by repeat' (first | rfl | trivial | apply And.intro)), trivial⟩ ⟨rfl, rfl, trivial⟩ ?_
    rintro _ rfl
    conv => whnf
    apply vif_split <;> intro h
    ·conv => whnf
     apply vif_split <;> intro h
     ·exfalso; simp at h; exact hx2 h
     conv => whnf
     exact aback ⟨j2, e3, out⟩ [(1, .lab 2)] [] rfl (by show 2 * (n - out.length) + (if e3 = 0 then 1 else 0) < 2 * (n - out.length) + (if (0 : Int) = 0 then 1 else 0); rw [if_neg hx2, if_pos rfl]; omega) ⟨h1, h2, hj2, fun l0 r ha hl h => absurd (step l0 r ha hl h) hbad⟩ ⟨⟨rfl, rfl, rfl⟩, (by repeat' (first | rfl | trivial | apply And.intro)), trivial⟩ ⟨rfl, trivial⟩
    ·conv => whnf
     exact aback ⟨j2, e3, out⟩ [(1, .lab 2)] [] rfl (by show 2 * (n - out.length) + (if e3 = 0 then 1 else 0) < 2 * (n - out.length) + (if (0 : Int) = 0 then 1 else 0); rw [if_neg hx2, if_pos rfl]; omega) ⟨h1, h2, hj2, fun l0 r ha hl h => absurd (step l0 r ha hl h) hbad⟩ ⟨⟨rfl, rfl, rfl⟩, (by repeat' (first | rfl | trivial | apply And.intro)), trivial⟩ ⟨rfl, trivial⟩
  have hk2 : kk ≤ (n : Int) - (out.length : Int) := by simp at h; omega
  have he2 : e2 = 0 := by
   rcases Classical.em (e2 = 0) with h | h
   ·exact h
   ·have := (hz h).1; omega
  subst he2
  obtain ⟨k, rfl⟩ : ∃ k : Nat, kk = (k : Int) := ⟨kk.toNat, by omega⟩
  conv => whnf
  refine aloop ws97_3 3 [5, 9] (fun i : Nat => [(5, .own 2), (9, iv i)]) (fun i => [(2, .rows 3 1 ((out ++ List.replicate i x).map enI)), (0, rd2 b j2 0)]) (fun i => i ≤ k) (fun i => k - i) [(2, .lab 1)] [] 0 (by kernel_rfl) (fun _ => rfl) rfl (Nat.zero_le _) ⟨⟨rfl, rfl, by rw [List.replicate_zero, List.append_nil]⟩, (by repeat' (first | rfl | trivial | apply And.intro)), trivial⟩ ⟨rfl, rfl, trivial⟩ ?_
  rintro i hi
  conv => whnf
  apply vif_split <;> intro h
  ·have hik : i < k := by simp at h; omega
   conv => whnf
   refine VReq.mk (app_ok (by simp only [List.length_map, List.length_append, List.length_replicate, List.length_cons, List.length_nil]; omega) (by kernel_rfl)) ?_
   conv => whnf
   refine AAr.i64 (x := (i : Int) + 1) (by omega) ?_
   conv => whnf
   refine aback (i + 1) [(2, .lab 4)] [] rfl (by show k - (i + 1) < k - i; omega) hik ⟨⟨rfl, rfl, ?_⟩, (by repeat' (first | rfl | trivial | apply And.intro)), trivial⟩ ⟨rfl, rfl, trivial⟩
   rw [List.replicate_succ', ← List.append_assoc]
   exact (snocI _ _).symm
  ·have hik : i = k := by simp at h; omega
   subst hik
   conv => whnf
   refine aback ⟨j2, 0, out ++ List.replicate i x⟩ [(1, .lab 2)] [] rfl (by show 2 * (n - (out ++ List.replicate i x).length) + (if (0 : Int) = 0 then 1 else 0) < 2 * (n - out.length) + (if (0 : Int) = 0 then 1 else 0); rw [List.length_append, List.length_replicate]; omega)
    ⟨by show (out ++ List.replicate i x).length ≤ n; rw [List.length_append, List.length_replicate]; omega, h2.app (AllI.rep hx i), hj2, step.mono fun l0 r _ _ ⟨m, m1, m2, m3, m4, m5⟩ => ⟨m4, by
     have : m + 1 = i := by omega
     rw [this] at m5
     exact m5⟩⟩ ⟨⟨rfl, rfl, rfl⟩, (by repeat' (first | rfl | trivial | apply And.intro)), trivial⟩ ⟨rfl, trivial⟩
 conv => whnf
 refine vif_split (fun hk3 => ?_) (fun hk3 => ?_)
 ·have hst := hst 3 (by simpa using hk3)
  conv => whnf
  refine aloop ws97_4 2 [5, 10] (fun x : DX => [(5, .own 1), (10, iv x.out.length)]) (fun x => [(1, .rows 3 1 ((sm 0 x.out).map enI)), (0, rd2 b x.j x.e)]) (fun x => x.out.length ≤ n ∧ AllI x.out ∧ x.j ≤ b.length ∧ Gd b fun l0 r => l0.length = n ∧ Q1 (b.drop x.j) x.out x.e (dl 0 l0) r) (fun x => n - x.out.length) [(1, .nil)] [] ⟨j0, e0, []⟩ (by kernel_rfl) (fun _ => rfl) rfl ⟨Nat.zero_le _, AllI.nil, hj0, hst.mono fun l0 r _ _ ⟨h1, h2, h3⟩ => ⟨h1, h2, dl 0 l0, rfl, by rw [h3, ← st_dl]; rfl⟩⟩ ⟨rfl, (by repeat' (first | rfl | trivial | apply And.intro)), trivial⟩ ⟨trivial, rfl, trivial⟩ ?_
  clear hst hhead hN hC hj0 hj
  rintro ⟨j, e, d⟩ ⟨h1, h2, h3, h4⟩
  change d.length ≤ n at h1
  change AllI d at h2
  change j ≤ b.length at h3
  change Gd b fun l0 r => l0.length = n ∧ Q1 (b.drop j) d e (dl 0 l0) r at h4
  have hsl := sm_len d 0
  conv => whnf
  apply vif_split <;> intro h
  rotate_left 1
  ·have hlt : d.length = n := by simp at h; omega
   conv => whnf
   exact aend (li (sm 0 d)) 1 [(0, rd2 b j e)] [] [1] ⟨sm 0 d, e, j, sm_all d 0, by omega, h4.mono fun l0 r ha _ ⟨q1, q2⟩ => by
    have := q2.fin fun _ => by rw [dl_len]; omega
    exact ⟨this.1, by rw [this.2.1, sm_dl l0 0 ha]⟩, rfl, rfl, rfl⟩ rfl (by repeat' (first | rfl | trivial | apply And.intro)) (by repeat' (first | rfl | trivial | apply And.intro))
  have hlt : d.length < n := by simp at h; omega
  have hxi := (rnT_ok (b.drop j) e).1
  have hnext : Gd b fun l0 r => l0.length = n ∧ Q1 (b.drop (j + (rnT (b.drop j) e).2.1)) (d ++ [(rnT (b.drop j) e).1]) (rnT (b.drop j) e).2.2 (dl 0 l0) r := h4.mono fun l0 r ha _ ⟨q1, q2⟩ => ⟨q1, by
   have := q2.step (dl_all l0 0) (by rw [dl_len]; omega)
   rwa [List.drop_drop] at this⟩
  have hnum := number2A b j e (by omega) h3
  have hjn := rn_le e h3
  generalize (rnT (b.drop j) e).1 = x at *
  generalize (rnT (b.drop j) e).2.2 = e' at *
  generalize j + (rnT (b.drop j) e).2.1 = j' at *
  have hl2 : (d ++ [x]).length = d.length + 1 := by simp
  have hsn := sm_snoc d 0 x
  conv => whnf
  refine acallM [0] [] (by kernel_rfl) hnum rfl (by repeat' (first | rfl | trivial | apply And.intro)) (by repeat' (first | rfl | trivial | apply And.intro)) ?_
  rintro _ _ _ ⟨rfl, rfl, rfl⟩
  refine ⟨rfl, ?_⟩
  conv => whnf
  apply vif_split <;> intro h
  ·have hi0 : 0 < d.length := by simp at h; omega
   have hat : (sm 0 d)[d.length - 1]? = some ((sm 0 d).getD (d.length - 1) 0) := by
    rw [List.getD_eq_getElem?_getD, List.getElem?_eq_getElem (by omega)]; rfl
   generalize (sm 0 d).getD (d.length - 1) 0 = y at *
   conv => whnf
   refine AAr.to rfl ?_
   conv => whnf
   refine AAr.i64 (x := (d.length : Int) - 1) (by omega) ?_
   conv => whnf
   refine AIn.mk' (d.length - 1) (by show (d.length : Int) - 1 = _; omega) (by rw [List.length_map]; show _ < (sm 0 d).length; omega) ?_
   conv => whnf
   refine ARd.mapAt hat ?_
   conv => whnf
   refine AAr.to rfl ?_
   conv => whnf
   refine AAr.to rfl ?_
   conv => whnf
   refine AAr.to (add_u _ _) ?_
   conv => whnf
   refine VReq.mk (app_ok (by simp only [List.length_map, List.length_append, List.length_cons, List.length_nil]; omega) (by kernel_rfl)) ?_
   conv => whnf
   refine AAr.i64 (x := (d.length : Int) + 1) (by omega) ?_
   conv => whnf
   refine aback ⟨j', e', d ++ [x]⟩ [(1, .lab 3)] [] rfl (by show n - (d ++ [x]).length < n - d.length; omega) ⟨by show (d ++ [x]).length ≤ n; omega, h2.snoc hxi, hjn, hnext⟩ ⟨⟨rfl, rfl, by rw [hsn, Int.add_comm]; exact (snocI _ _).symm⟩, (by repeat' (first | rfl | trivial | apply And.intro)), trivial⟩ ⟨rfl, congrArg (Value.int .i64) (by rw [hl2]; rfl), trivial⟩
  ·have hi0 : d = [] := List.eq_nil_of_length_eq_zero (by simp at h; simp [h])
   subst hi0
   conv => whnf
   refine VReq.mk (app_ok (by simp [sm]) (by kernel_rfl)) ?_
   conv => whnf
   refine AAr.i64 (x := (0 : Int) + 1) (by decide) ?_
   conv => whnf
   refine aback ⟨j', e', [] ++ [x]⟩ [(1, .lab 3)] [] rfl (by show n - 1 < n - 0; simp at hlt; omega) ⟨by show 1 ≤ n; simp at hlt; omega, h2.snoc hxi, hjn, hnext⟩ ⟨⟨rfl, rfl, by
    have e : w64 (0 + x) = x := by rw [Int.zero_add]; exact w64_id hxi
    show _ = (sm 0 [x]).map enI
    simp only [sm, e]; rfl⟩, (by repeat' (first | rfl | trivial | apply And.intro)), trivial⟩ ⟨rfl, rfl, trivial⟩
 conv => whnf
 refine vif_split (fun hk4 => ?_) (fun hk4 => ?_)
 ·have hst := hst 4 (by simpa using hk4)
  have hC4 := count2A b j0 e0 512 (by omega) hj0 (by decide)
  have hm := cnT_rng (b.drop j0) e0 512 5 (by decide) (by decide)
  have hm := And.intro hm.1 hm.2.1
  have hj3 : j0 + (cnT (b.drop j0) e0 512 5).2.1 ≤ b.length := by
   have := cnT_le (b.drop j0) e0 512 5
   rw [List.length_drop] at this
   omega
  have hq : Gd b fun l0 r => l0.length = n ∧ Q4k (cnT (b.drop j0) e0 512 5).1 (b.drop (j0 + (cnT (b.drop j0) e0 512 5).2.1)) [] (cnT (b.drop j0) e0 512 5).2.2 l0 r := hst.mono fun l0 r ha _ ⟨h1, h2, h3⟩ => ⟨h1, by
   have := (Q4k.start (b := b.drop j0) hn (most := 512) (em := 5) (by omega)) l0 r ha h1 h3
   rw [h2, ← List.drop_drop]
   exact this.2⟩
  generalize hc4 : cnT (b.drop j0) e0 512 5 = t at *
  obtain ⟨mm, jj, e3⟩ := t
  simp only at hC4 hm hj3 hq
  generalize j0 + jj = j3 at *
  clear hc4
  obtain ⟨m, rfl⟩ : ∃ m : Nat, mm = (m : Int) := ⟨mm.toNat, by omega⟩
  have hm5 : m ≤ 512 := by omega
  clear hst hhead hN hC hj0 hj
  conv => whnf
  refine acallM [0] [] (by kernel_rfl) hC4 rfl (by repeat' (first | rfl | trivial | apply And.intro)) (by repeat' (first | rfl | trivial | apply And.intro)) ?_
  rintro _ _ _ ⟨rfl, rfl, rfl⟩
  refine ⟨rfl, ?_⟩
  conv => whnf
  refine aloop ws97_5 2 [12, 14] (fun x : DX => [(12, .own 1), (14, iv x.out.length)]) (fun x => [(1, .rows 3 1 (x.out.map enI)), (0, rd2 b x.j x.e)]) (fun x => x.out.length ≤ m ∧ AllI x.out ∧ x.j ≤ b.length ∧ Gd b fun l0 r => l0.length = n ∧ Q4k m (b.drop x.j) x.out x.e l0 r) (fun x => m - x.out.length) [(1, .nil)] [] ⟨j3, e3, []⟩ (by kernel_rfl) (fun _ => rfl) rfl ⟨Nat.zero_le _, AllI.nil, hj3, hq⟩ ⟨rfl, (by repeat' (first | rfl | trivial | apply And.intro)), trivial⟩ ⟨trivial, rfl, trivial⟩ ?_
  clear hq hC4 hj3
  rintro ⟨j, e, keys⟩ ⟨h1, h2, h3, h4⟩
  change keys.length ≤ m at h1
  change AllI keys at h2
  change j ≤ b.length at h3
  change Gd b fun l0 r => l0.length = n ∧ Q4k m (b.drop j) keys e l0 r at h4
  conv => whnf
  apply vif_split <;> intro h
  ·have hlt : keys.length < m := by simp at h; omega
   conv => whnf
   refine acallM [0] [] (by kernel_rfl) (number2A b j e (by omega) h3) rfl (by repeat' (first | rfl | trivial | apply And.intro)) (by repeat' (first | rfl | trivial | apply And.intro)) ?_
   rintro _ _ _ ⟨rfl, rfl, rfl⟩
   refine ⟨rfl, ?_⟩
   conv => whnf
   refine VReq.mk (app_ok (by simp only [List.length_map, List.length_append, List.length_cons, List.length_nil]; omega) (by kernel_rfl)) ?_
   conv => whnf
   refine AAr.i64 (x := (keys.length : Int) + 1) (by omega) ?_
   conv => whnf
   have hl2 : (keys ++ [(rnT (b.drop j) e).1]).length = keys.length + 1 := by simp
   refine aback ⟨j + (rnT (b.drop j) e).2.1, (rnT (b.drop j) e).2.2, keys ++ [(rnT (b.drop j) e).1]⟩ [(1, .lab 3)] [] rfl (by show m - (keys ++ [(rnT (b.drop j) e).1]).length < m - keys.length; omega)
    ⟨by show (keys ++ [(rnT (b.drop j) e).1]).length ≤ m; omega, h2.snoc (rnT_ok (b.drop j) e).1, rn_le e h3, h4.mono fun l0 r ha _ ⟨q1, q2⟩ => ⟨q1, q2.1, by
     have hd := q2.1
     have := q2.2.step (fun y hy => ha y ((ds_mem l0 y).1 hy)) (by omega)
     rwa [List.drop_drop] at this⟩⟩ ⟨⟨rfl, rfl, (snocI keys _).symm⟩, (by repeat' (first | rfl | trivial | apply And.intro)), trivial⟩ ⟨rfl, congrArg (Value.int .i64) (by rw [hl2]; rfl), trivial⟩
  have hkm : keys.length = m := by simp at h; omega
  conv => whnf
  refine aloop ws97_6 3 [5, 15] (fun x : DX => [(5, .own 2), (15, iv x.out.length)]) (fun x => [(2, .rows 3 1 (x.out.map enI)), (1, .rows 3 1 (keys.map enI)), (0, rd2 b x.j x.e)]) (fun x => x.out.length ≤ n ∧ AllI x.out ∧ x.j ≤ b.length ∧ Gd b fun l0 r => l0.length = n ∧ Q4 keys (b.drop x.j) x.out x.e l0 r) (fun x => n - x.out.length) [(2, .nil)] [] ⟨j, e, []⟩ (by kernel_rfl) (fun _ => rfl) rfl ⟨Nat.zero_le _, AllI.nil, h3, h4.mono fun l0 r _ _ ⟨q1, q2⟩ => ⟨q1, Q4.start (fun _ => by rw [hkm]) q2⟩⟩ ⟨rfl, ⟨rfl, rfl, rfl⟩, (by repeat' (first | rfl | trivial | apply And.intro)), trivial⟩ ⟨trivial, rfl, trivial⟩ ?_
  clear h1 h3 h4
  rintro ⟨j, e, out⟩ ⟨h1, h5, h3, h4⟩
  change out.length ≤ n at h1
  change AllI out at h5
  change j ≤ b.length at h3
  change Gd b fun l0 r => l0.length = n ∧ Q4 keys (b.drop j) out e l0 r at h4
  conv => whnf
  apply vif_split <;> intro h
  rotate_left 1
  ·have hlt : out.length = n := by simp at h; omega
   conv => whnf
   exact aend (li out) 1 [(0, rd2 b j e)] [] [2] ⟨out, e, j, h5, by omega, h4.mono fun l0 r _ _ ⟨q1, q2⟩ => ⟨q2.2.1, (q2.fin (by omega)).1⟩, rfl, rfl, rfl⟩ rfl (by repeat' (first | rfl | trivial | apply And.intro)) (by repeat' (first | rfl | trivial | apply And.intro))
  have hlt : out.length < n := by simp at h; omega
  conv => whnf
  apply vif_split <;> intro h
  rotate_left 1
  ·have he : e ≠ 0 := by simpa using h
   conv => whnf
   exact aend (li out) 1 [(0, rd2 b j e)] [] [2] ⟨out, e, j, h5, by omega, h4.mono fun l0 r _ _ ⟨q1, q2⟩ => absurd q2.2.1 he, rfl, rfl, rfl⟩ rfl (by repeat' (first | rfl | trivial | apply And.intro)) (by repeat' (first | rfl | trivial | apply And.intro))
  have step : Gd b fun l0 r => ∃ (i : Nat) (x : Int), (rnT (b.drop j) e).2.2 = 0 ∧ (rnT (b.drop j) e).1 = (i : Int) ∧ keys[i]? = some x ∧ l0.length = n ∧ Q4 keys (b.drop (j + (rnT (b.drop j) e).2.1)) (out ++ [x]) 0 l0 r := h4.mono fun l0 r ha hl ⟨q1, q2⟩ => by
   obtain ⟨i, x, m1, m2, m3, m4⟩ := q2.step hl (by omega)
   rw [List.drop_drop] at m4
   exact ⟨i, x, m1, m2, m3, q1, m4⟩
  have hnum := number2A b j e (by omega) h3
  have hjn := rn_le e h3
  generalize rnT (b.drop j) e = t at *
  obtain ⟨ii, jj, e2⟩ := t
  simp only at step hnum hjn
  generalize j + jj = j' at *
  conv => whnf
  refine acallM [0] [] (by kernel_rfl) hnum rfl (by repeat' (first | rfl | trivial | apply And.intro)) (by repeat' (first | rfl | trivial | apply And.intro)) ?_
  rintro _ _ _ ⟨rfl, rfl, rfl⟩
  refine ⟨rfl, ?_⟩
  conv => whnf
  have bad : (¬ (0 ≤ ii ∧ ii < (keys.length : Int))) → Gd b fun l0 _ => (if e2 = 0 then (1 : Int) else e2) = 0 ∧ out = l0 := fun hbad => step.mono fun l0 r _ _ ⟨i, x, m1, m2, m3, _⟩ => by
   have := (List.getElem?_eq_some_iff.1 m3).1
   exact absurd ⟨by omega, by omega⟩ hbad
  apply vif_split <;> intro h
  ·have hk : ii < 0 := by simpa using h
   conv => whnf
   refine acallM [0] [] (by kernel_rfl) (fail2A b j' e2 1) rfl (by repeat' (first | rfl | trivial | apply And.intro)) (by repeat' (first | rfl | trivial | apply And.intro)) ?_
   rintro _ _ _ ⟨rfl, rfl, rfl⟩
   refine ⟨rfl, ?_⟩
   conv => whnf
   exact aend (li out) 1 [(0, rd2 b j' (if e2 = 0 then 1 else e2))] [] [2] ⟨out, _, j', h5, by omega, bad fun h => by omega, rfl, rfl, rfl⟩ rfl (by repeat' (first | rfl | trivial | apply And.intro)) (by repeat' (first | rfl | trivial | apply And.intro))
  have hk : 0 ≤ ii := by simp at h; omega
  conv => whnf
  apply vif_split <;> intro h
  ·have hk2 : (keys.length : Int) ≤ ii := by simp at h; omega
   conv => whnf
   refine acallM [0] [] (by kernel_rfl) (fail2A b j' e2 1) rfl (by repeat' (first | rfl | trivial | apply And.intro)) (by repeat' (first | rfl | trivial | apply And.intro)) ?_
   rintro _ _ _ ⟨rfl, rfl, rfl⟩
   refine ⟨rfl, ?_⟩
   conv => whnf
   exact aend (li out) 1 [(0, rd2 b j' (if e2 = 0 then 1 else e2))] [] [2] ⟨out, _, j', h5, by omega, bad fun h => by omega, rfl, rfl, rfl⟩ rfl (by repeat' (first | rfl | trivial | apply And.intro)) (by repeat' (first | rfl | trivial | apply And.intro))
  have hk2 : ii < (keys.length : Int) := by simp at h; omega
  obtain ⟨i, rfl⟩ : ∃ i : Nat, ii = (i : Int) := ⟨ii.toNat, by omega⟩
  have hil : i < keys.length := by omega
  conv => whnf
  refine AIn.mk' i rfl (by rw [List.length_map]; exact hil) ?_
  conv => whnf
  refine ARd.map hil ?_
  conv => whnf
  refine VReq.mk (app_ok (by simp only [List.length_map, List.length_append, List.length_cons, List.length_nil]; omega) (by kernel_rfl)) ?_
  conv => whnf
  refine AAr.i64 (x := (out.length : Int) + 1) (by omega) ?_
  conv => whnf
  have hl2 : (out ++ [keys[i]]).length = out.length + 1 := by simp
  refine aback ⟨j', e2, out ++ [keys[i]]⟩ [(2, .lab 4)] [] rfl (by show n - (out ++ [keys[i]]).length < n - out.length; omega)
   ⟨by show (out ++ [keys[i]]).length ≤ n; omega, h5.snoc (h2 _ (List.getElem_mem hil)), hjn, step.mono fun l0 r _ _ ⟨i', x, m1, m2, m3, m4, m5⟩ => ⟨m4, by
    have : i' = i := by omega
    subst this
    rw [List.getElem?_eq_getElem hil] at m3
    injection m3 with m3
    rw [m3, m1]
    exact m5⟩⟩ ⟨⟨rfl, rfl, (snocI out _).symm⟩, ⟨rfl, rfl, rfl⟩, (by repeat' (first | rfl | trivial | apply And.intro)), trivial⟩ ⟨rfl, congrArg (Value.int .i64) (by rw [hl2]; rfl), trivial⟩
 conv => whnf
 refine vif_split (fun hk5 => ?_) (fun hk5 => ?_)
 ·have hst := hst 5 (by simpa using hk5)
  have hA := number2A b j0 e0 (by omega) hj0
  have hj1 := rn_le e0 hj0
  have hB := number2A b (j0 + (rnT (b.drop j0) e0).2.1) (rnT (b.drop j0) e0).2.2 (by omega) hj1
  have hj2 := rn_le (rnT (b.drop j0) e0).2.2 hj1
  have hli := (rnT_ok (b.drop j0) e0).1
  have key : Gd b fun l0 r => l0.length = n ∧ (rnT (b.drop (j0 + (rnT (b.drop j0) e0).2.1)) (rnT (b.drop j0) e0).2.2).2.2 = 0 ∧ ∃ wn : Nat, (rnT (b.drop (j0 + (rnT (b.drop j0) e0).2.1)) (rnT (b.drop j0) e0).2.2).1 = (wn : Int) ∧ wn ≤ 64 ∧
    Q5 (rnT (b.drop j0) e0).1 wn (b.drop (j0 + (rnT (b.drop j0) e0).2.1 + (rnT (b.drop (j0 + (rnT (b.drop j0) e0).2.1)) (rnT (b.drop j0) e0).2.2).2.1)) l0 r := hst.mono fun l0 r ha _ ⟨q1, q2, q3⟩ => by
   have hlw := wd_le l0 ha
   have hlo : I64 (lo l0) := by
    cases l0 with
    | nil => show I64 0; unfold I64; omega
    | cons x t => exact ha _ (lo_le (l := x :: t) (x := x) List.mem_cons_self).2
   have r1 := rd1 (b := b.drop j0) (e := e0) (z := num (wd l0 : Int) ++ (pk (bitA (lo l0) (wd l0) l0) (sz5 l0.length (wd l0)) (l0.length * wd l0) ++ r)) hlo q2 (by rw [q3]; show b5 l0 ++ r = _; unfold b5; simp only [List.append_assoc])
   have r2 := rd1 (b := b.drop (j0 + (rnT (b.drop j0) e0).2.1)) (e := (rnT (b.drop j0) e0).2.2) (i64_nat (by omega : wd l0 ≤ 9223372036854775807)) r1.2.1 (by rw [← List.drop_drop]; exact r1.2.2)
   refine ⟨q1, r2.2.1, wd l0, r2.1, hlw, r1.1, rfl, ?_⟩
   rw [← List.drop_drop]
   exact r2.2.2
  generalize hq : rnT (b.drop (j0 + (rnT (b.drop j0) e0).2.1)) (rnT (b.drop j0) e0).2.2 = t at *
  obtain ⟨w, jj, e2⟩ := t
  simp only at key hB hj2
  clear hq
  generalize (rnT (b.drop j0) e0).1 = least at *
  generalize (rnT (b.drop j0) e0).2.2 = e1 at *
  generalize j0 + (rnT (b.drop j0) e0).2.1 = j1 at *
  generalize j1 + jj = j2 at *
  clear hst hhead hN hC hj0 hj hlen
  have hx2 : (if e2 = 0 then (1 : Int) else e2) ≠ 0 := by split <;> omega
  have BAD : (Gd b fun _ _ => False) → DcA b (li []) 1 [(0, rd2 b j2 (if e2 = 0 then 1 else e2))] := fun h => ⟨[], _, j2, AllI.nil, Nat.zero_le _, h.mono fun _ _ _ _ h => h.elim, rfl, rfl, rfl⟩
  conv => whnf
  refine acallM [0] [] (by kernel_rfl) hA rfl (by repeat' (first | rfl | trivial | apply And.intro)) (by repeat' (first | rfl | trivial | apply And.intro)) ?_
  rintro _ _ _ ⟨rfl, rfl, rfl⟩
  refine ⟨rfl, ?_⟩
  conv => whnf
  refine acallM [0] [] (by kernel_rfl) hB rfl (by repeat' (first | rfl | trivial | apply And.intro)) (by repeat' (first | rfl | trivial | apply And.intro)) ?_
  rintro _ _ _ ⟨rfl, rfl, rfl⟩
  refine ⟨rfl, ?_⟩
  conv => whnf
  by_cases hw : ¬ (0 ≤ w ∧ w ≤ 64)
  ·have hG : Gd b fun _ _ => False := key.mono fun l0 r _ _ ⟨_, _, wn, h1, h2, _⟩ => hw (by omega)
   refine AAr.to rfl ?_
   conv => whnf
   refine AAr.to rfl ?_
   conv => whnf
   refine VReq.mk (by decide) ?_
   conv => whnf
   refine AAr.to rfl ?_
   conv => whnf
   (refine adraw pln97 [] (by kernel_rfl) ?_; conv => whnf)
   apply vif_split <;> intro h
   ·conv => whnf
    refine acallM [0] [] (by kernel_rfl) (fail2A b j2 e2 1) rfl (by repeat' (first | rfl | trivial | apply And.intro)) (by repeat' (first | rfl | trivial | apply And.intro)) ?_
    rintro _ _ _ ⟨rfl, rfl, rfl⟩
    refine ⟨rfl, ?_⟩
    conv => whnf
    exact aend (li []) 1 [(0, rd2 b j2 (if e2 = 0 then 1 else e2))] [] [] (BAD hG) rfl (by repeat' (first | rfl | trivial | apply And.intro)) (by repeat' (first | rfl | trivial | apply And.intro))
   have h0 : ¬ w < 0 := by simpa using h
   conv => whnf
   apply vif_split <;> intro h
   ·conv => whnf
    refine acallM [0] [] (by kernel_rfl) (fail2A b j2 e2 1) rfl (by repeat' (first | rfl | trivial | apply And.intro)) (by repeat' (first | rfl | trivial | apply And.intro)) ?_
    rintro _ _ _ ⟨rfl, rfl, rfl⟩
    refine ⟨rfl, ?_⟩
    conv => whnf
    exact aend (li []) 1 [(0, rd2 b j2 (if e2 = 0 then 1 else e2))] [] [] (BAD hG) rfl (by repeat' (first | rfl | trivial | apply And.intro)) (by repeat' (first | rfl | trivial | apply And.intro))
   ·exfalso; simp at h; exact hw (by omega)
  have hw := Classical.not_not.1 hw
  obtain ⟨wn, rfl⟩ : ∃ wn : Nat, w = (wn : Int) := ⟨w.toNat, by omega⟩
  have hw64 : wn ≤ 64 := by omega
  have hnw : n * wn ≤ 40000 := by
   have := Nat.mul_le_mul hn hw64; omega
  have hs8 : sz5 n wn ≤ 5001 := by unfold sz5; omega
  have hQ : Gd b fun l0 r => l0.length = n ∧ e2 = 0 ∧ Q5 least wn (b.drop j2) l0 r := key.mono fun l0 r _ _ ⟨q1, q2, w', q3, q4, q5⟩ => ⟨q1, q2, by
   have : w' = wn := by omega
   subst this
   exact q5⟩
  clear key hA hB
  refine AAr.to (y := ((n * wn : Nat) : Int)) (by rw [← Int.natCast_mul]; exact IntWalk.i64_in _ (by omega)) ?_
  conv => whnf
  refine AAr.i64 (by omega) ?_
  conv => whnf
  refine VReq.mk (by decide) ?_
  conv => whnf
  refine AAr.to (y := ((sz5 n wn : Nat) : Int)) (by
   have e : Int.tdiv (((n * wn : Nat) : Int) + 7) 8 = ((sz5 n wn : Nat) : Int) := rfl
   rw [e]; exact IntWalk.i64_in _ (by omega)) ?_
  conv => whnf
  (refine adraw pln97 [] (by kernel_rfl) ?_; conv => whnf)
  apply vif_split <;> intro h
  ·exfalso; simp at h; omega
  conv => whnf
  apply vif_split <;> intro h
  ·have he : e2 ≠ 0 := by simpa using h
   conv => whnf
   refine acallM [0] [] (by kernel_rfl) (fail2A b j2 e2 1) rfl (by repeat' (first | rfl | trivial | apply And.intro)) (by repeat' (first | rfl | trivial | apply And.intro)) ?_
   rintro _ _ _ ⟨rfl, rfl, rfl⟩
   refine ⟨rfl, ?_⟩
   conv => whnf
   exact aend (li []) 1 [(0, rd2 b j2 (if e2 = 0 then 1 else e2))] [] [] (BAD (hQ.mono fun l0 r _ _ h => he h.2.1)) rfl (by repeat' (first | rfl | trivial | apply And.intro)) (by repeat' (first | rfl | trivial | apply And.intro))
  have he : e2 = 0 := by simpa using h
  subst he
  conv => whnf
  refine AAr.to (y := ((b.length - j2 : Nat) : Int)) (by rw [List.length_map, IntWalk.i64_in _ (by omega)]; omega) ?_
  conv => whnf
  apply vif_split <;> intro h
  ·have hsz : b.length - j2 < sz5 n wn := by simp at h; omega
   conv => whnf
   refine acallM [0] [] (by kernel_rfl) (fail2A b j2 0 1) rfl (by repeat' (first | rfl | trivial | apply And.intro)) (by repeat' (first | rfl | trivial | apply And.intro)) ?_
   rintro _ _ _ ⟨rfl, rfl, rfl⟩
   refine ⟨rfl, ?_⟩
   conv => whnf
   exact aend (li []) 1 [(0, rd2 b j2 (if (0 : Int) = 0 then 1 else 0))] [] [] (BAD (hQ.mono fun l0 r _ _ h => by have := h.2.2.size; rw [List.length_drop, h.1] at this; omega)) rfl (by repeat' (first | rfl | trivial | apply And.intro)) (by repeat' (first | rfl | trivial | apply And.intro))
  have hsz : sz5 n wn ≤ b.length - j2 := by simp at h; omega
  conv => whnf
  clear hw BAD hx2
  refine aloop ws97_7 2 [5, 20] (fun x : BX => [(5, .own 1), (20, iv x.i)]) (fun x => [(1, .rows 3 1 (x.out.map enI)), (0, rd2 b j2 0)]) (fun x => x.i ≤ n ∧ x.out.length = x.i ∧ AllI x.out ∧ Gd b (fun l0 _ => x.out = l0.take x.i)) (fun x => n - x.i) [(1, .nil)] [] ⟨0, []⟩ (by kernel_rfl) (fun _ => rfl) rfl ⟨Nat.zero_le _, rfl, AllI.nil, fun l0 r _ _ _ => rfl⟩ ⟨rfl, (by repeat' (first | rfl | trivial | apply And.intro)), trivial⟩ ⟨trivial, rfl, trivial⟩ ?_
  rintro ⟨i, out⟩ ⟨hin, hol, hall, hP⟩
  change i ≤ n at hin
  change out.length = i at hol
  change AllI out at hall
  change Gd b (fun l0 _ => out = l0.take i) at hP
  conv => whnf
  apply vif_split <;> intro h
  rotate_left 1
  ·have : i = n := by simp at h; omega
   subst this
   conv => whnf
   refine AAr.to (y := ((j2 + sz5 i wn : Nat) : Int)) (by show IntKind.i64.wrap ((j2 : Int) + ((sz5 i wn : Nat) : Int)) = _; rw [← Int.natCast_add]; exact IntWalk.i64_in _ (by omega)) ?_
   conv => whnf
   exact aend (li out) 1 [(0, rd2 b (j2 + sz5 i wn) 0)] [] [1] ⟨out, 0, j2 + sz5 i wn, hall, by omega, fun l0 r ha hl h => ⟨rfl, by
    have h1 := hP l0 r ha hl h
    have h2 := (hQ l0 r ha hl h).1
    rw [h1, ← h2, List.take_length]⟩, rfl, rfl, rfl⟩ rfl (by repeat' (first | rfl | trivial | apply And.intro)) (by repeat' (first | rfl | trivial | apply And.intro))
  have hlt : i < n := by simp at h; omega
  conv => whnf
  refine aloop ws97_8 2 [21, 22] (fun x : NX => [(21, uv x.u), (22, iv x.i)]) (fun _ => [(1, .rows 3 1 (out.map enI)), (0, rd2 b j2 0)]) (fun x => x.i ≤ wn ∧ x.u < 2 ^ x.i ∧ Gd b (fun l0 _ => x.u = dif least (l0.getD i 0) % 2 ^ x.i)) (fun x => wn - x.i) [] [] ⟨0, 0⟩ (by kernel_rfl) (fun _ => rfl) rfl ⟨Nat.zero_le _, Nat.one_pos, fun l0 r _ _ _ => by show 0 = _ % 2 ^ 0; rw [Nat.pow_zero, Nat.mod_one]⟩ ⟨⟨rfl, rfl, rfl⟩, (by repeat' (first | rfl | trivial | apply And.intro)), trivial⟩ ⟨rfl, rfl, trivial⟩ ?_
  rintro ⟨k, d⟩ ⟨hk, hd, hD⟩
  change k ≤ wn at hk
  change d < 2 ^ k at hd
  change Gd b (fun l0 _ => d = dif least (l0.getD i 0) % 2 ^ k) at hD
  conv => whnf
  apply vif_split <;> intro h
  ·have hkw : k < wn := by simp at h; omega
   have hat := at_lt hlt hkw
   have hmul : i * wn + k ≤ 640000 := by omega
   have hbit : Gd b fun l0 _ => ∃ c, (b.drop j2)[(i * wn + k) / 8]? = some c ∧ c.toNat.testBit ((i * wn + k) % 8) = (dif least (l0.getD i 0)).testBit k := hQ.mono fun l0 r _ _ ⟨q1, _, q2⟩ => q2.bit (by omega) hkw
   conv => whnf
   refine AAr.to (y := ((i * wn : Nat) : Int)) (by show IntKind.i64.wrap ((i : Int) * (wn : Int)) = _; rw [← Int.natCast_mul]; exact IntWalk.i64_in _ (by omega)) ?_
   conv => whnf
   refine AAr.to (y := ((i * wn + k : Nat) : Int)) (by show IntKind.i64.wrap (((i * wn : Nat) : Int) + (k : Int)) = _; rw [← Int.natCast_add]; exact IntWalk.i64_in _ (by omega)) ?_
   conv => whnf
   generalize i * wn + k = p at *
   have hp8 : j2 + p / 8 < b.length := by omega
   have hbit2 : Gd b fun l0 _ => (b[j2 + p / 8]).toNat.testBit (p % 8) = (dif least (l0.getD i 0)).testBit k := hbit.mono fun l0 r _ _ ⟨c, c1, c2⟩ => by
    rw [List.getElem?_drop, List.getElem?_eq_getElem hp8] at c1
    injection c1 with c1
    rw [c1]; exact c2
   have hk64 : k < 64 := by omega
   (refine adraw pln97 [] (by kernel_rfl) ?_; conv => whnf)
   repeat' (first
    | (refine AAr.to (y := ((p / 8 : Nat) : Int)) (by
      have e : Int.tdiv (p : Int) 8 = ((p / 8 : Nat) : Int) := rfl
      rw [e]; exact IntWalk.i64_in _ (by omega)) ?_; conv => whnf)
    | (refine AAr.to (y := ((j2 + p / 8 : Nat) : Int)) (by show IntKind.i64.wrap ((j2 : Int) + ((p / 8 : Nat) : Int)) = _; rw [← Int.natCast_add]; exact IntWalk.i64_in _ (by omega)) ?_; conv => whnf)
    | (refine AIn.mk' (j2 + p / 8) rfl (by rw [List.length_map]; exact hp8) ?_; conv => whnf)
    | (refine ARd.map hp8 ?_; conv => whnf)
    | (refine VReq.mk (by decide) ?_; conv => whnf)
    | (refine VReq.mk (by omega) ?_; conv => whnf)
    | (refine VReq.mk (by show (0 : Int) ≤ (k : Int); omega) ?_; conv => whnf)
    | (refine AAr.to (y := ((p % 8 : Nat) : Int)) (wr_u64 (n := p % 8) (by omega)) ?_; conv => whnf)
    | (refine AAr.to (y := ((k : Nat) : Int)) (wr_u64 (n := k) (by omega)) ?_; conv => whnf)
    | (refine AAr.to (bitv8 b[j2 + p / 8] (s := p % 8) (Nat.mod_lt _ (by decide))) ?_; conv => whnf))
   generalize b[j2 + p / 8] = c at *
   have hsh := shl64 (c := if c.toNat.testBit (p % 8) = true then 1 else 0) (k := k) (by split <;> omega) hk64
   refine AAr.to hsh.1 ?_
   conv => whnf
   rw [or_bit hd hk64 hsh.2]
   conv => whnf
   refine AAr.i64 (x := (k : Int) + 1) (by omega) ?_
   conv => whnf
   refine aback ⟨k + 1, d + (if c.toNat.testBit (p % 8) = true then 1 else 0) * 2 ^ k⟩ [] [] rfl (by show wn - (k + 1) < wn - k; omega) ⟨hkw, ?_, fun l0 r ha hl hb0 => ?_⟩ ⟨⟨rfl, rfl, rfl⟩, (by repeat' (first | rfl | trivial | apply And.intro)), trivial⟩ ⟨rfl, rfl, trivial⟩
   ·show d + (if c.toNat.testBit (p % 8) = true then 1 else 0) * 2 ^ k < 2 ^ (k + 1)
    rw [Nat.pow_succ]
    split <;> omega
   ·show d + (if c.toNat.testBit (p % 8) = true then 1 else 0) * 2 ^ k = dif least (l0.getD i 0) % 2 ^ (k + 1)
    rw [bit_sum, ← hD l0 r ha hl hb0, hbit2 l0 r ha hl hb0]
  ·have : k = wn := by simp at h; omega
   subst this
   conv => whnf
   refine AAr.to rfl ?_
   conv => whnf
   refine AAr.to rfl ?_
   conv => whnf
   refine AAr.to (add_ud _ _) ?_
   conv => whnf
   refine VReq.mk (app_ok (by simp only [List.length_map, List.length_append, List.length_cons, List.length_nil]; omega) (by kernel_rfl)) ?_
   conv => whnf
   refine AAr.i64 (x := (i : Int) + 1) (by omega) ?_
   conv => whnf
   refine aback ⟨i + 1, out ++ [w64 (least + (d : Int))]⟩ [(1, .lab 3)] [] rfl (by show n - (i + 1) < n - i; omega) ⟨hlt, by show (out ++ [w64 (least + (d : Int))]).length = i + 1; simp [hol], hall.snoc (w64_i _), fun l0 r ha hl hb0 => ?_⟩ ⟨⟨rfl, rfl, (snocI out _).symm⟩, (by repeat' (first | rfl | trivial | apply And.intro)), trivial⟩ ⟨rfl, rfl, trivial⟩
   show out ++ [w64 (least + (d : Int))] = l0.take (i + 1)
   have hq := hQ l0 r ha hl hb0
   have hil : i < l0.length := by omega
   rw [List.take_succ_eq_append_getElem hil, ← hP l0 r ha hl hb0]
   congr 2
   have := hq.2.2.val ha (i := i) (x := l0[i]) (List.getElem?_eq_getElem hil)
   rw [← hD l0 r ha hl hb0] at this
   exact this
 conv => whnf
 refine acallM [0] [] (by kernel_rfl) (fail2A b j0 e0 1) rfl (by repeat' (first | rfl | trivial | apply And.intro)) (by repeat' (first | rfl | trivial | apply And.intro)) ?_
 rintro _ _ _ ⟨rfl, rfl, rfl⟩
 refine ⟨rfl, ?_⟩
 conv => whnf
 exact aend (li []) 1 [(0, rd2 b j0 (if e0 = 0 then 1 else e0))] [] [] ⟨[], _, j0, AllI.nil, Nat.zero_le _, hhead.mono fun l0 r _ _ ⟨_, k, k1, k2, k3, _⟩ => by
  exfalso
  simp at hk1 hk2 hk3 hk4 hk5
  omega, rfl, rfl, rfl⟩ rfl (by repeat' (first | rfl | trivial | apply And.intro)) (by repeat' (first | rfl | trivial | apply And.intro))
section
attribute [local irreducible] best ints en bd
theorem readInts2A (b : By) (hb : b.length ≤ 100000) : AFn Tryz.prog GC 61 [bs b] 0 [] (RIa b) := by
 refine afn_of Tryz.func61 rfl mixed (by kernel_rfl) ?_
 conv => whnf
 (refine acallF [] (by kernel_rfl) (new2A b) ?_ ?_; (focus (repeat' (first | rfl | trivial | apply And.intro))))
 rintro _ _ _ ⟨rfl, rfl, rfl⟩
 conv => whnf
 refine acallM [0] [] (by kernel_rfl) (decodeA b hb) rfl (by repeat' (first | rfl | trivial | apply And.intro)) (by repeat' (first | rfl | trivial | apply And.intro)) ?_
 rintro _ _ _ ⟨l, e, j, hl, hs, hG, rfl, rfl, rfl⟩
 refine ⟨rfl, ?_⟩
 conv => whnf
 apply vif_split <;> intro h
 ·have he : e ≠ 0 := by simpa using h
  conv => whnf
  exact aend (.tup [li [], iv (0 : Nat), iv 1]) 0 [] [] [] ⟨[], 0, 1, RIs.bad fun l0 r ha hl h => he (hG l0 r ha hl h).1, rfl, rfl, rfl⟩ rfl trivial (by repeat' (first | rfl | trivial | apply And.intro))
 have he : e = 0 := by simpa using h
 subst he
 have hI := ints2A l hl hs
 have hpre := beginsA b (ints l)
 conv => whnf
 (refine acallF [] (by kernel_rfl) (hI) ?_ ?_; (focus (repeat' (first | rfl | trivial | apply And.intro))))
 rintro _ _ _ ⟨rfl, rfl, rfl⟩
 conv => whnf
 (refine acall [] (by kernel_rfl) (hpre) rfl ?_ ?_; (focus (repeat' (first | rfl | trivial | apply And.intro))))
 conv => whnf
 apply vif_split <;> intro h
 ·have hp : ¬ b.take (ints l).length = ints l := by simpa using h
  conv => whnf
  exact aend (.tup [li [], iv (0 : Nat), iv 1]) 0 [] [] [] ⟨[], 0, 1, RIs.bad fun l0 r ha hl h => hp (by rw [(hG l0 r ha hl h).2, h, List.take_left]), rfl, rfl, rfl⟩ rfl trivial (by repeat' (first | rfl | trivial | apply And.intro))
 ·have hp : b.take (ints l).length = ints l := by simpa using h
  conv => whnf
  exact aend (.tup [li l, iv ((ints l).length : Nat), iv 0]) 0 [] [] [] ⟨l, (ints l).length, 0, ⟨hl, hs, .inl ⟨rfl, rfl, hp⟩, fun l0 r ha hl h => ⟨rfl, (hG l0 r ha hl h).2⟩⟩, rfl, rfl, rfl⟩ rfl trivial ⟨⟨rfl, rfl⟩, congrArg (fun n : Nat => Value.int .i64 (n : Int)) (List.length_map _), rfl, trivial⟩
end
def RdT2 (b : By) (j : Nat) (t : By × Nat × Int) (a : AV) (n : Nat) (H : AHeap) : Prop := a = tv t.1 ∧ n = 1 ∧ H = [(0, rd2 b (j + if t.2.2 = 0 then t.2.1 else 0) t.2.2)]
theorem text2A (b : By) (j : Nat) (e : Int) (hb : b.length ≤ 3000000) (hj : j ≤ b.length) : AFn Tryz.prog GC 95 [.ptr 0 0, iv 200] 1 [(0, rd2 b j e)] (RdT2 b j (txT (b.drop j) e)) := by
 have hN := number2A b j e hb hj
 have hd := txT_def (b.drop j) e
 have ho := (rnT_ok (b.drop j) e).2.1
 rw [cnT_def] at hd
 generalize rnT (b.drop j) e = c at *
 obtain ⟨x, k, e'⟩ := c
 simp only at hN hd ho
 have hdl : (b.drop j).length = b.length - j := List.length_drop
 have hdk : ((b.drop j).drop k).length = b.length - j - k := by rw [List.length_drop, hdl]
 by_cases he : e' = 0
 ·subst he
  simp only [if_true] at hd
  by_cases h1 : x < 0
  ·simp only [h1, if_true] at hd
   rw [if_neg (by decide)] at hd
   rw [hd]
   refine afn_of Tryz.func95 rfl mixed (by kernel_rfl) ?_
   conv => whnf
   refine acallM [0] [] (by kernel_rfl) hN rfl (by repeat' (first | rfl | trivial | apply And.intro)) (by repeat' (first | rfl | trivial | apply And.intro)) ?_
   rintro _ _ _ ⟨rfl, rfl, rfl⟩
   refine ⟨rfl, ?_⟩
   conv => whnf
   apply vif_split <;> intro h
   rotate_left 1
   ·exfalso; simp at h; omega
   conv => whnf
   refine acallM [0] [] (by kernel_rfl) (fail2A b (j + k) 0 3) rfl (by repeat' (first | rfl | trivial | apply And.intro)) (by repeat' (first | rfl | trivial | apply And.intro)) ?_
   rintro _ _ _ ⟨rfl, rfl, rfl⟩
   refine ⟨rfl, ?_⟩
   conv => whnf
   exact aend (tv []) 1 [(0, rd2 b j 3)] [] [] ⟨rfl, rfl, rfl⟩ rfl (by repeat' (first | rfl | trivial | apply And.intro)) (by repeat' (first | rfl | trivial | apply And.intro))
  rw [if_neg h1] at hd
  by_cases h2 : 200 < x
  ·simp only [h2, if_true] at hd
   rw [if_neg (by decide)] at hd
   rw [hd]
   refine afn_of Tryz.func95 rfl mixed (by kernel_rfl) ?_
   conv => whnf
   refine acallM [0] [] (by kernel_rfl) hN rfl (by repeat' (first | rfl | trivial | apply And.intro)) (by repeat' (first | rfl | trivial | apply And.intro)) ?_
   rintro _ _ _ ⟨rfl, rfl, rfl⟩
   refine ⟨rfl, ?_⟩
   conv => whnf
   apply vif_split <;> intro h
   ·exfalso; simp at h; omega
   conv => whnf
   apply vif_split <;> intro h
   rotate_left 1
   ·exfalso; simp at h; omega
   conv => whnf
   refine acallM [0] [] (by kernel_rfl) (fail2A b (j + k) 0 4) rfl (by repeat' (first | rfl | trivial | apply And.intro)) (by repeat' (first | rfl | trivial | apply And.intro)) ?_
   rintro _ _ _ ⟨rfl, rfl, rfl⟩
   refine ⟨rfl, ?_⟩
   conv => whnf
   exact aend (tv []) 1 [(0, rd2 b j 4)] [] [] ⟨rfl, rfl, rfl⟩ rfl (by repeat' (first | rfl | trivial | apply And.intro)) (by repeat' (first | rfl | trivial | apply And.intro))
  simp only [h2, if_false, if_true] at hd
  obtain ⟨n, rfl⟩ : ∃ n : Nat, x = (n : Int) := ⟨x.toNat, by omega⟩
  rw [Int.toNat_natCast] at hd
  by_cases h3 : (((b.drop j).drop k).length : Int) < (n : Int)
  ·rw [if_pos h3] at hd
   rw [hd]
   refine afn_of Tryz.func95 rfl mixed (by kernel_rfl) ?_
   conv => whnf
   refine acallM [0] [] (by kernel_rfl) hN rfl (by repeat' (first | rfl | trivial | apply And.intro)) (by repeat' (first | rfl | trivial | apply And.intro)) ?_
   rintro _ _ _ ⟨rfl, rfl, rfl⟩
   refine ⟨rfl, ?_⟩
   conv => whnf
   apply vif_split <;> intro h
   ·exfalso; simp at h; omega
   conv => whnf
   (refine adraw pln95 [] (by kernel_rfl) ?_; conv => whnf)
   refine AAr.to (y := ((b.length - j - k : Nat) : Int)) (by rw [List.length_map, IntWalk.i64_in _ (by omega)]; omega) ?_
   conv => whnf
   apply vif_split <;> intro h
   rotate_left 1
   ·exfalso; simp at h; omega
   conv => whnf
   refine acallM [0] [] (by kernel_rfl) (fail2A b (j + k) 0 16) rfl (by repeat' (first | rfl | trivial | apply And.intro)) (by repeat' (first | rfl | trivial | apply And.intro)) ?_
   rintro _ _ _ ⟨rfl, rfl, rfl⟩
   refine ⟨rfl, ?_⟩
   conv => whnf
   exact aend (tv []) 1 [(0, rd2 b j 16)] [] [] ⟨rfl, rfl, rfl⟩ rfl (by repeat' (first | rfl | trivial | apply And.intro)) (by repeat' (first | rfl | trivial | apply And.intro))
  ·rw [if_neg h3] at hd
   rw [hd]
   refine afn_of Tryz.func95 rfl mixed (by kernel_rfl) ?_
   conv => whnf
   refine acallM [0] [] (by kernel_rfl) hN rfl (by repeat' (first | rfl | trivial | apply And.intro)) (by repeat' (first | rfl | trivial | apply And.intro)) ?_
   rintro _ _ _ ⟨rfl, rfl, rfl⟩
   refine ⟨rfl, ?_⟩
   conv => whnf
   apply vif_split <;> intro h
   ·exfalso; simp at h; omega
   conv => whnf
   (refine adraw pln95 [] (by kernel_rfl) ?_; conv => whnf)
   refine AAr.to (y := ((b.length - j - k : Nat) : Int)) (by rw [List.length_map, IntWalk.i64_in _ (by omega)]; omega) ?_
   conv => whnf
   apply vif_split <;> intro h
   ·exfalso; simp at h; omega
   conv => whnf
   refine AAr.to (y := ((j + k + n : Nat) : Int)) (by rw [← Int.natCast_add]; exact IntWalk.i64_in _ (by omega)) ?_
   conv => whnf
   (refine adraw pln95 [] (by kernel_rfl) ?_; conv => whnf)
   repeat' (first
    | (refine And.intro ?_ ?_ <;> (conv => whnf))
    | (refine AAr.to (y := ((j + k : Nat) : Int)) (by rw [IntWalk.i64_in _ (by omega)]; omega) ?_; conv => whnf)
    | (refine ABd.mk' (j + k) (j + k + n) rfl rfl (by omega) (by rw [List.length_map]; omega) ?_; conv => whnf))
   have ec : ((b.map enB).take (j + k + n)).drop (j + k) = (((b.drop j).drop k).take n).map enB := by
    rw [List.drop_take, List.map_take, List.map_drop, List.map_drop, List.drop_drop, show j + k + n - (j + k) = n by omega]
   show ABy (((b.map enB).take (j + k + n)).drop (j + k)) _
   rw [ec]
   refine ABy.of ?_
   conv => whnf
   exact aend (tv (((b.drop j).drop k).take n)) 1 [(0, rd2 b (j + k + n) 0)] [] [] ⟨rfl, rfl, by show _ = [(0, rd2 b (j + (k + n)) 0)]; rw [← Nat.add_assoc]⟩ rfl (by repeat' (first | rfl | trivial | apply And.intro)) (by repeat' (first | rfl | trivial | apply And.intro))
 ·simp only [he, if_false] at hd
  rw [hd]
  ·skip
   refine afn_of Tryz.func95 rfl mixed (by kernel_rfl) ?_
   conv => whnf
   refine acallM [0] [] (by kernel_rfl) hN rfl (by repeat' (first | rfl | trivial | apply And.intro)) (by repeat' (first | rfl | trivial | apply And.intro)) ?_
   rintro _ _ _ ⟨rfl, rfl, rfl⟩
   refine ⟨rfl, ?_⟩
   conv => whnf
   have hq2 : (e' != 0) = true := by simpa using he
   rw [hq2]
   conv => whnf
   exact aend (tv []) 1 [(0, rd2 b j e')] [] [] ⟨rfl, rfl, by show _ = [(0, rd2 b (j + if e' = 0 then k else 0) e')]; rw [if_neg he]; rfl⟩ rfl (by repeat' (first | rfl | trivial | apply And.intro)) (by repeat' (first | rfl | trivial | apply And.intro))
section
attribute [local irreducible] best ints en bd
structure TY where
 ks : Tx
 j : Nat
 e : Int
def KJ (b : By) (n : Nat) (x : TY) : Prop := x.ks.length ≤ n ∧ TOK x.ks ∧ x.j ≤ b.length ∧ GT b fun l0 r => x.e = 0 ∧ (dsT l0).length = n ∧ QT l0 r x.ks (b.drop x.j)
theorem readTexts2A (b : By) (hb : b.length ≤ 100000) : AFn Tryz.prog GC 60 [bs b] 0 [] (RTa b) := by
 have hC := count2A b 0 0 512 (by omega) (Nat.zero_le _) (by decide)
 have hcl := cnT_le b 0 512 5
 have hcr := cnT_rng b 0 512 5 (by decide) (by decide)
 have hhead := gt_head b
 rw [List.drop_zero, Nat.zero_add] at hC
 generalize cnT b 0 512 5 = c at *
 obtain ⟨x, k, e⟩ := c
 simp only at hC hcr hhead hcl
 obtain ⟨n, rfl⟩ : ∃ n : Nat, x = (n : Int) := ⟨x.toNat, by omega⟩
 have hn : n ≤ 512 := by omega
 have hk0 : KJ b n ⟨[], k, e⟩ := ⟨Nat.zero_le _, fun _ h => (by cases h), hcl, fun l0 r hl ht hb => by
  have := hhead l0 r hl ht hb
  exact ⟨this.1, by omega, this.2.2⟩⟩
 clear hhead hcr hcl
 refine afn_of Tryz.func60 rfl mixed (by kernel_rfl) ?_
 conv => whnf
 (refine acallF [] (by kernel_rfl) (new2A b) ?_ ?_; (focus (repeat' (first | rfl | trivial | apply And.intro))))
 rintro _ _ _ ⟨rfl, rfl, rfl⟩
 conv => whnf
 refine acallM [0] [] (by kernel_rfl) hC rfl (by repeat' (first | rfl | trivial | apply And.intro)) (by repeat' (first | rfl | trivial | apply And.intro)) ?_
 rintro _ _ _ ⟨rfl, rfl, rfl⟩
 refine ⟨rfl, ?_⟩
 conv => whnf
 refine aloop ws60_1 2 [7, 9] (fun x : TY => [(7, .own 1), (9, iv x.ks.length)]) (fun x => [(1, .rows 9 1 (x.ks.map enT)), (0, rd2 b x.j x.e)]) (KJ b n) (fun x => n - x.ks.length) [(1, .nil)] [] ⟨[], k, e⟩ (by kernel_rfl) (fun _ => rfl) rfl hk0 ⟨rfl, (by repeat' (first | rfl | trivial | apply And.intro)), trivial⟩ ⟨trivial, rfl, trivial⟩ ?_
 rintro ⟨ks, j, e'⟩ ⟨k1, k2, k3, k4⟩
 change ks.length ≤ n at k1
 change TOK ks at k2
 change j ≤ b.length at k3
 change GT b fun l0 r => e' = 0 ∧ (dsT l0).length = n ∧ QT l0 r ks (b.drop j) at k4
 conv => whnf
 apply vif_split <;> intro h
 ·have hlt : ks.length < n := by simp at h; omega
  have hT := text2A b j e' (by omega) k3
  have hto := txT_ok (b.drop j) e'
  have hstep : GT b fun l0 r => (txT (b.drop j) e').2.2 = 0 ∧ (dsT l0).length = n ∧ QT l0 r (ks ++ [(txT (b.drop j) e').1]) ((b.drop j).drop (txT (b.drop j) e').2.1) := fun l0 r hl ht hbb => by
   obtain ⟨h1, h2, h3⟩ := k4 l0 r hl ht hbb
   subst h1
   have := h3.step ht (by omega)
   exact ⟨this.1, h2, this.2⟩
  generalize txT (b.drop j) e' = t at *
  obtain ⟨s, q, f⟩ := t
  simp only at hto hstep
  have hs2 : s.length ≤ 200 := hto.1
  have hjq : j + (if f = 0 then q else 0) ≤ b.length := by
   have := hto.2.1
   rw [List.length_drop] at this
   split <;> omega
  have hnew : GT b fun l0 r => f = 0 ∧ (dsT l0).length = n ∧ QT l0 r (ks ++ [s]) (b.drop (j + (if f = 0 then q else 0))) := fun l0 r hl ht hbb => by
   obtain ⟨h1, h2, h3⟩ := hstep l0 r hl ht hbb
   subst h1
   rw [if_pos rfl, ← List.drop_drop]
   exact ⟨rfl, h2, h3⟩
  have hT' : AFn Tryz.prog GC 95 [.ptr 0 0, iv 200] 1 [(0, rd2 b j e')] (fun a n H => a = tv s ∧ n = 1 ∧ H = [(0, rd2 b (j + (if f = 0 then q else 0)) f)]) := hT
  clear hT hstep hto
  generalize j + (if f = 0 then q else 0) = j' at *
  conv => whnf
  refine acallM [0] [] (by kernel_rfl) hT' rfl (by repeat' (first | rfl | trivial | apply And.intro)) (by repeat' (first | rfl | trivial | apply And.intro)) ?_
  rintro _ _ _ ⟨rfl, rfl, rfl⟩
  refine ⟨rfl, ?_⟩
  conv => whnf
  refine VReq.mk (app_ok (by simp only [List.length_map, List.length_append, List.length_cons, List.length_nil]; omega) (by kernel_rfl)) ?_
  conv => whnf
  refine AAr.i64 (by simp only; omega) ?_
  conv => whnf
  refine aback ⟨ks ++ [s], j', f⟩ [(1, .lab 3)] [] rfl (by show n - (ks ++ [s]).length < n - ks.length; rw [List.length_append]; simp only [List.length_cons, List.length_nil]; omega) ⟨by show (ks ++ [s]).length ≤ n; rw [List.length_append]; simp only [List.length_cons, List.length_nil]; omega, fun t ht => ?_, hjq, hnew⟩ ⟨⟨rfl, rfl, (enT_snoc ks s).symm⟩, ⟨rfl, ⟨rfl, rfl⟩, rfl, rfl, trivial⟩, trivial⟩ ⟨rfl, ?_, trivial⟩
  ·rcases List.mem_append.1 ht with h | h
   ·exact k2 t h
   ·rw [List.mem_singleton.1 h]; exact hs2
  ·refine congrArg (fun n : Int => Value.int .i64 n) ?_
   show _ = ((ks ++ [s]).length : Int)
   rw [List.length_append]; rfl
 ·have hkn : ks.length = n := by simp at h; omega
  have hfin : GT b fun l0 r => ks = dsT l0 ∧ b.drop j = ints (ixT (dsT l0) l0) ++ r := fun l0 r hl ht hb => by
   have := k4 l0 r hl ht hb
   exact this.2.2.fin (by omega)
  conv => whnf
  apply vif_split <;> intro h
  ·have he : e' ≠ 0 := by simpa using h
   conv => whnf
   exact aend (.tup [tl [], iv (0 : Nat), iv 1]) 0 [] [] [] ⟨[], 0, 1, RTs.bad fun l0 r ha hl h => he (k4 l0 r ha hl h).1, rfl, rfl, rfl⟩ rfl trivial (by repeat' (first | rfl | trivial | apply And.intro))
  have he : e' = 0 := by simpa using h
  subst he
  conv => whnf
  refine ABd.mk' j b.length rfl (by rw [List.length_map]) k3 (by rw [List.length_map]; exact Nat.le_refl _) ?_
  conv => whnf
  have hdrop : (b.map enB).drop j = (b.drop j).map enB := List.map_drop.symm
  rw [show cut (some (AV.v (.int .i64 ((j : Nat) : Int)))) none j b.length (b.map enB) = (b.drop j).map enB from hdrop]
  have hb' : (b.drop j).length ≤ 100000 := drop_le hb
  (refine acallF [] (by kernel_rfl) (readInts2A (b.drop j) hb') ?_ ?_; (focus (repeat' (first | rfl | trivial | apply And.intro))))
  rintro _ _ _ ⟨il, m, f, hR, rfl, rfl, rfl⟩
  have hgood : GT b fun l0 r => f = 0 ∧ il = ixT (dsT l0) l0 ∧ ks = dsT l0 := fun l0 r hl ht hb => by
   have h1 := hfin l0 r hl ht hb
   have h2 := dsT_len l0
   have h3 := hR.2.2.2 _ r (ixT_all (dsT l0) l0 (fun x hx => (dsT_mem l0 x).2 hx) (by omega)) (by rw [ixT_len]; exact hl) h1.2
   exact ⟨h3.1, h3.2, h1.1⟩
  have hil := hR.2.1
  have hR1 := hR.1
  have hR3 := hR.2.2.1
  clear hdrop hfin hR hC hk0
  conv => whnf
  apply vif_split <;> intro h
  ·have he : f ≠ 0 := by simpa using h
   obtain rfl : f = 1 := by
    rcases hR3 with ⟨h, _⟩ | ⟨h, _⟩
    ·exact absurd h he
    ·exact h
   conv => whnf
   exact aend (.tup [tl [], iv (0 : Nat), iv 1]) 0 [] [] [] ⟨[], 0, 1, RTs.bad fun l0 r ha hl h => he (hgood l0 r ha hl h).1, rfl, rfl, rfl⟩ rfl trivial (by repeat' (first | rfl | trivial | apply And.intro))
  conv => whnf
  refine aloop ws60_2 3 [8, 13] (fun i : Nat => [(8, .own 2), (13, iv i)]) (fun i => [(2, .rows 9 1 ((lkT ks (il.take i)).map enT)), (1, .rows 9 1 (ks.map enT)), (0, rd2 b j 0)]) (fun i => i ≤ il.length ∧ ∀ j (h : j < il.length), j < i → 0 ≤ il[j] ∧ il[j] < (ks.length : Int)) (fun i => il.length - i) [(2, .nil)] [] 0 (by kernel_rfl) (fun _ => rfl) rfl ⟨Nat.zero_le _, fun j _ h => absurd h (Nat.not_lt_zero j)⟩ ⟨rfl, ⟨rfl, rfl, rfl⟩, (by repeat' (first | rfl | trivial | apply And.intro)), trivial⟩ ⟨trivial, rfl, trivial⟩ ?_
  rintro i ⟨hi, hin⟩
  conv => whnf
  apply vif_split <;> intro h
  ·have hlt : i < il.length := by simp at h; omega
   have hat := List.getElem?_eq_getElem hlt
   conv => whnf
   refine AIn.mk' i rfl (by rw [List.length_map]; exact hlt) ?_
   conv => whnf
   refine ARd.mapAt hat ?_
   conv => whnf
   have hbad : ¬ (0 ≤ il[i] ∧ il[i] < (ks.length : Int)) → GT b fun _ _ => False := fun hx l0 r hl ht hb => by
    obtain ⟨_, h2, h3⟩ := hgood l0 r hl ht hb
    have hlt' : i < (ixT (dsT l0) l0).length := by rw [← h2]; exact hlt
    have e : il[i] = (ixT (dsT l0) l0)[i]'hlt' := by simp only [h2]
    rw [ixT_len] at hlt'
    have e2 : il[i] = ((idxT (dsT l0) l0[i] : Nat) : Int) := by rw [e]; simp [ixT]
    have := (idxT_lt ((dsT_mem l0 l0[i]).2 (List.getElem_mem hlt'))).1
    exact hx (by rw [h3]; omega)
   have hstep : ∀ q : Nat, il[i] = (q : Int) → ∀ x, ks[q]? = some x → lkT ks (il.take (i + 1)) = lkT ks (il.take i) ++ [x] := fun q hq x hx => lkT_snoc hlt hq hx
   have hnx : (0 ≤ il[i] ∧ il[i] < (ks.length : Int)) → ∀ j (h : j < il.length), j < i + 1 → 0 ≤ il[j] ∧ il[j] < (ks.length : Int) := fun hx j h hj => by
    rcases Nat.lt_or_ge j i with h4 | h4
    ·exact hin j h h4
    ·have : j = i := by omega
     subst this; exact hx
   have hxI : I64 il[i] := hR1 _ (List.getElem_mem hlt)
   generalize il[i] = x at *
   apply vif_split <;> intro h
   ·have hx : x < 0 := by simpa using h
    conv => whnf
    exact aend (.tup [tl [], iv (0 : Nat), iv 1]) 0 [] [] [] ⟨[], 0, 1, RTs.bad (hbad (by omega)), rfl, rfl, rfl⟩ rfl trivial (by repeat' (first | rfl | trivial | apply And.intro))
   have hx0 : 0 ≤ x := by simpa using h
   conv => whnf
   refine AIn.mk' i rfl (by rw [List.length_map]; exact hlt) ?_
   conv => whnf
   refine ARd.mapAt hat ?_
   conv => whnf
   apply vif_split <;> intro h
   ·have hx : (ks.length : Int) ≤ x := by simpa using h
    conv => whnf
    exact aend (.tup [tl [], iv (0 : Nat), iv 1]) 0 [] [] [] ⟨[], 0, 1, RTs.bad (hbad (by omega)), rfl, rfl, rfl⟩ rfl trivial (by repeat' (first | rfl | trivial | apply And.intro))
   have hx1 : x < (ks.length : Int) := by simp at h; omega
   obtain ⟨q, rfl⟩ : ∃ q : Nat, x = (q : Int) := ⟨x.toNat, by omega⟩
   have hq : q < ks.length := by omega
   have hkq := List.getElem?_eq_getElem hq
   conv => whnf
   refine AIn.mk' i rfl (by rw [List.length_map]; exact hlt) ?_
   conv => whnf
   refine ARd.mapAt hat ?_
   conv => whnf
   refine AIn.mk' q rfl (by rw [List.length_map]; exact hq) ?_
   conv => whnf
   refine ARd.mapAt hkq ?_
   conv => whnf
   have e1 := hstep q rfl ks[q] hkq
   have htl : (lkT ks (il.take i)).length ≤ 512 := by rw [lkT_len, List.length_take]; omega
   refine VReq.mk (app_ok (by simp only [List.length_map, List.length_append, List.length_cons, List.length_nil]; omega) (by kernel_rfl)) ?_
   conv => whnf
   refine AAr.i64 (by omega) ?_
   conv => whnf
   exact aback (i + 1) [(2, .lab 4)] [] rfl (by show il.length - (i + 1) < il.length - i; omega) ⟨hlt, hnx ⟨hx0, hx1⟩⟩ ⟨⟨rfl, rfl, by rw [e1]; exact (enT_snoc _ _).symm⟩, ⟨rfl, rfl, rfl⟩, ⟨rfl, (by repeat' (first | rfl | trivial | apply And.intro))⟩, trivial⟩ ⟨rfl, rfl, trivial⟩
  ·have hie : i = il.length := by simp at h; omega
   subst hie
   rw [List.take_length]
   have hl5 : (lkT ks il).length ≤ 512 := by rw [lkT_len]; exact hil
   have hok := lkT_ok k2 il
   have hG : GT b fun l0 r => lkT ks il = l0 := fun l0 r hl ht hb => by
    obtain ⟨_, h2, h3⟩ := hgood l0 r hl ht hb
    rw [h2, h3]
    exact lkT_ix fun x hx => (dsT_mem l0 x).2 hx
   generalize lkT ks il = l at *
   conv => whnf
   have hT := texts2A l hl5 hok
   have hpre := beginsA b (txs l)
   (refine acallF [2] (by kernel_rfl) (hT) ?_ ?_; (focus (repeat' (first | rfl | trivial | apply And.intro))))
   rintro _ _ _ ⟨rfl, rfl, rfl⟩
   conv => whnf
   (refine acall [] (by kernel_rfl) (hpre) rfl ?_ ?_; (focus (repeat' (first | rfl | trivial | apply And.intro))))
   conv => whnf
   apply vif_split <;> intro h
   ·have hp : ¬ b.take (txs l).length = txs l := by simpa using h
    conv => whnf
    exact aend (.tup [tl [], iv (0 : Nat), iv 1]) 0 [] [] [] ⟨[], 0, 1, RTs.bad fun l0 r ha hl h => hp (by rw [hG l0 r ha hl h, h, List.take_left' rfl]), rfl, rfl, rfl⟩ rfl trivial (by repeat' (first | rfl | trivial | apply And.intro))
   ·have hp : b.take (txs l).length = txs l := by simpa using h
    conv => whnf
    exact aend (.tup [tl l, iv ((txs l).length : Nat), iv 0]) 0 [] [] [] ⟨l, (txs l).length, 0, ⟨hok, hl5, .inl ⟨rfl, rfl, hp⟩, fun l0 r ha hl h => ⟨rfl, hG l0 r ha hl h⟩⟩, rfl, rfl, rfl⟩ rfl trivial ⟨⟨rfl, rfl⟩, congrArg (fun n : Nat => Value.int .i64 (n : Int)) (List.length_map _), rfl, trivial⟩
end
end Go.Proofs.YtmhpfadbmpipkaaGreatDoor.Cl
