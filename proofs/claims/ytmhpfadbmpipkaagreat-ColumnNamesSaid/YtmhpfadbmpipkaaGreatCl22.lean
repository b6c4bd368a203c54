/- The walk of column's decoder of packed bits. Condition: sizes. The walk of column's readBits. Condition: sizes. -/
import Derived.Test.YtmhpfadbmpipkaaGreatCl20
set_option linter.unusedVariables false
set_option linter.unusedSimpArgs false
namespace Go.Proofs.YtmhpfadbmpipkaaGreat.Cl
open Go Go.RowKit Go.Proofs Go.Proofs.YtmhpfadbmpipkaaGreat.Vc Go.Proofs.YtmhpfadbmpipkaaGreat.Ax
attribute [local irreducible] loadVar storeVar Instr.indexAt Instr.index Instr.sliceAt Instr.makeSlice Instr.lookup Instr.mapUpdate Instr.range Instr.next Instr.entry Instr.makeMap Builtin.append_ Builtin.copy_ Builtin.len_ Builtin.min_ Builtin.max_ Builtin.cap_ Builtin.delete_ Builtin.clear_ convert binOp eqGuard Op.unary Calls
theorem bitv8 (c : UInt8) {s : Nat} (hs : s < 8) : IntKind.u64.wrap (bitsOp .and .u8 (Int.fdiv (c.toNat : Int) (2 ^ min (Int.toNat (s : Int)) IntKind.u8.bits)) 1) = (((if c.toNat.testBit s = true then 1 else 0) : Nat) : Int) := by
  have e : IntKind.u8.bits = 8 := rfl
  have e1 : (1 : Int) = ((1 : Nat) : Int) := rfl
  have hc := c.toNat_lt
  have hd : c.toNat / 2 ^ s ≤ c.toNat := Nat.div_le_self _ _
  have e2 : Int.fdiv (c.toNat : Int) (2 ^ s) = ((c.toNat / 2 ^ s : Nat) : Int) := by rw [Int.fdiv_eq_ediv_of_nonneg _ (Int.pow_nonneg (by decide))]; simp
  rw [e, Int.toNat_natCast, Nat.min_eq_left (by omega), e2, e1, bo_and8 _ _ (by omega) (by decide), and1, bit_of, wr_u64 (by split <;> omega)]
theorem shl64 {c k : Nat} (hc : c ≤ 1) (hk : k < 64) : IntKind.u64.wrap ((c : Int) * 2 ^ min (Int.toNat (k : Int)) IntKind.u64.bits) = ((c * 2 ^ k : Nat) : Int) ∧ c * 2 ^ k < 18446744073709551616 := by
  have e : IntKind.u64.bits = 64 := rfl
  have h1 : 2 ^ k ≤ 2 ^ 63 := Nat.pow_le_pow_right (by decide) (by omega)
  have h2 := Nat.mul_le_mul hc h1
  have h3 : (1 : Nat) * 2 ^ 63 < 18446744073709551616 := by decide
  have e2 : (c : Int) * 2 ^ k = ((c * 2 ^ k : Nat) : Int) := by simp
  rw [e, Int.toNat_natCast, Nat.min_eq_left (by omega), e2]
  exact ⟨wr_u64 (by omega), by omega⟩
theorem or_bit {d c k : Nat} (hd : d < 2 ^ k) (hk : k < 64) (hc : c * 2 ^ k < 18446744073709551616) : bitsOp .or .u64 (d : Int) ((c * 2 ^ k : Nat) : Int) = ((d + c * 2 ^ k : Nat) : Int) := by
  have h1 : 2 ^ k ≤ 2 ^ 63 := Nat.pow_le_pow_right (by decide) (by omega)
  have h3 : (2 : Nat) ^ 63 < 18446744073709551616 := by decide
  rw [bo_or64 d _ (by omega) hc, or_add _ _ hd]
theorem add_ud (x : Int) (d : Nat) : IntKind.i64.wrap (IntKind.u64.wrap (IntKind.u64.wrap x + (d : Int))) = w64 (x + (d : Int)) := by
  have e : IntKind.u64.bits = 64 := rfl
  have e1 : IntKind.u64.signed = false := rfl
  have := w64_of (IntKind.u64.wrap (IntKind.u64.wrap x + (d : Int)))
  unfold w64 at this
  rw [this, w64_of]
  simp only [IntKind.wrap, e, e1, Bool.false_and, Bool.false_eq_true, if_false]
  omega
/-- two numbers ahead of the bits -/
theorem rd_two {b : By} (h : (cnT (b.drop (rnT b 0).2.1) (rnT b 0).2.2 64 5).2.2 = 0) : ∃ (w : Nat) (rest : By), w ≤ 64 ∧ (cnT (b.drop (rnT b 0).2.1) (rnT b 0).2.2 64 5).1 = (w : Int) ∧ I64 (rnT b 0).1 ∧ b = num (rnT b 0).1 ++ (num (w : Int) ++ rest) := by
  have hr := cnT_rng (b.drop (rnT b 0).2.1) (rnT b 0).2.2 64 5 (by decide) (by decide)
  have h2 := hr.2.2.2 h
  have o2 := (rnT_ok (b.drop (rnT b 0).2.1) (rnT b 0).2.2).2.2.1 h2.1
  have o1 := rnT_ok b 0
  have o3 := o1.2.2.1 o2.1
  refine ⟨(cnT (b.drop (rnT b 0).2.1) (rnT b 0).2.2 64 5).1.toNat, (b.drop (rnT b 0).2.1).drop (rnT (b.drop (rnT b 0).2.1) (rnT b 0).2.2).2.1, by omega, by omega, o1.1, ?_⟩
  have e : (((cnT (b.drop (rnT b 0).2.1) (rnT b 0).2.2 64 5).1.toNat : Nat) : Int) = (rnT (b.drop (rnT b 0).2.1) (rnT b 0).2.2).1 := by omega
  rw [e, ← o2.2.1]
  exact o3.2.1
theorem q5_start {b rest : By} {least : Int} {n w : Nat} (hi : I64 least) (hw : w ≤ 64) (hb : b = num least ++ (num (w : Int) ++ rest)) : Pr b n b5 (Q5 least w rest) := fun l0 r ha hl h => by
  rw [hb] at h
  have hlw := wd_le l0 ha
  cases l0 with
  | nil =>
    have e0 : b5 [] = num 0 ++ (num ((0 : Nat) : Int) ++ []) := by decide
    have r1 := rnT_num hi (num (w : Int) ++ rest)
    have r2 := rnT_num (n := 0) (by unfold I64; omega) (num ((0 : Nat) : Int) ++ r)
    rw [h, e0] at r1
    simp only [List.append_nil, List.append_assoc] at r1
    rw [r2] at r1
    have e1 : least = 0 := by injection r1 with h _; exact h.symm
    subst e1
    rw [e0] at h
    simp only [List.append_nil, List.append_assoc] at h
    have h := List.append_cancel_left h
    have r3 := rnT_num (n := (w : Int)) (i64_nat (by omega)) rest
    have r4 := rnT_num (n := ((0 : Nat) : Int)) (by unfold I64; omega) r
    rw [h, r4] at r3
    have e2 : w = 0 := by injection r3 with h _; omega
    subst e2
    have h := List.append_cancel_left h
    exact ⟨by decide, by decide, by rw [h]; rfl⟩
  | cons x t =>
    have hlo := ha _ (lo_le (l := x :: t) (x := x) List.mem_cons_self).2
    have e0 : b5 (x :: t) ++ r = num (lo (x :: t)) ++ (num (wd (x :: t) : Int) ++ (pk (bitA (lo (x :: t)) (wd (x :: t)) (x :: t)) (sz5 (x :: t).length (wd (x :: t))) ((x :: t).length * wd (x :: t)) ++ r)) := by unfold b5; simp only [List.append_assoc]
    rw [e0] at h
    have r1 := rnT_num hi (num (w : Int) ++ rest)
    rw [h, rnT_num hlo] at r1
    have e1 : lo (x :: t) = least := by injection r1
    rw [e1] at h
    have h := List.append_cancel_left h
    have r3 := rnT_num (n := (w : Int)) (i64_nat (by omega)) rest
    rw [h, rnT_num (n := ((wd (x :: t) : Nat) : Int)) (i64_nat (by omega))] at r3
    have e2 : wd (x :: t) = w := by injection r3 with h _; omega
    rw [e2] at h
    have h := List.append_cancel_left h
    exact ⟨e1.symm, e2.symm, by rw [h, e1, e2]⟩
theorem q5_err {b : By} {n : Nat} : Pr b n b5 fun _ _ => (cnT (b.drop (rnT b 0).2.1) (rnT b 0).2.2 64 5).2.2 = 0 := fun l0 r ha hl h => by
  have hlw := wd_le l0 ha
  have hlo : I64 (lo l0) := by
    cases l0 with
    | nil => show I64 0; unfold I64; omega
    | cons x t => exact ha _ (lo_le (l := x :: t) (x := x) List.mem_cons_self).2
  have r1 := rd1 (b := b) (e := 0) (z := num (wd l0 : Int) ++ (pk (bitA (lo l0) (wd l0) l0) (sz5 l0.length (wd l0)) (l0.length * wd l0) ++ r)) hlo rfl (by rw [h]; unfold b5; simp only [List.append_assoc])
  rw [r1.2.1, r1.2.2]
  have r2 := rd1 (e := 0) (i64_nat (by omega : wd l0 ≤ 9223372036854775807)) rfl (rfl : num (wd l0 : Int) ++ (pk (bitA (lo l0) (wd l0) l0) (sz5 l0.length (wd l0)) (l0.length * wd l0) ++ r) = _)
  rw [cnT_def]
  simp only
  rw [r2.1, r2.2.1, if_pos rfl, if_neg (by omega), if_neg (by omega)]
end Go.Proofs.YtmhpfadbmpipkaaGreat.Cl

namespace Go.Proofs.YtmhpfadbmpipkaaGreat.Cl
open Go Go.RowKit Go.Proofs Go.Proofs.YtmhpfadbmpipkaaGreat.Vc Go.Proofs.YtmhpfadbmpipkaaGreat.Ax
attribute [local irreducible] loadVar storeVar Instr.indexAt Instr.index Instr.sliceAt Instr.makeSlice Instr.lookup Instr.mapUpdate Instr.range Instr.next Instr.entry Instr.makeMap Builtin.append_ Builtin.copy_ Builtin.len_ Builtin.min_ Builtin.max_ Builtin.cap_ Builtin.delete_ Builtin.clear_ convert binOp eqGuard Op.unary Calls
set_option maxHeartbeats 8000000 in
set_option maxRecDepth 100000 in
theorem readBitsA (b : By) (n : Nat) (hb : b.length ≤ 3000000) (hn : n ≤ 512) : AFn Tryz.prog GC 59 [bs b, iv n] 0 [] (DecA b5 b n) := by
  have herr := q5_err (b := b) (n := n)
  have htwo := rd_two (b := b)
  have hN := numberA b 0 hb
  have hC := countA (b.drop (rnT b 0).2.1) (rnT b 0).2.2 64 (drop_le hb) (by decide)
  generalize hc : cnT (b.drop (rnT b 0).2.1) (rnT b 0).2.2 64 5 = t at *
  obtain ⟨ww, j2, e2⟩ := t
  simp only at herr htwo hC
  generalize (rnT b 0).1 = least at *
  generalize hb1 : b.drop (rnT b 0).2.1 = b1' at *
  generalize (rnT b 0).2.2 = e1 at *
  generalize b1'.drop j2 = b2' at *
  clear hc hb1
  refine afn_of Tryz.func59 rfl mixed (by kernel_rfl) ?_
  conv => whnf
  (refine acallF [] (by kernel_rfl) (newA b hb) ?_ ?_; (focus (repeat' (first | rfl | trivial | apply And.intro))))
  rintro _ _ _ ⟨rfl, rfl, rfl⟩
  conv => whnf
  refine acallM [0] [] (by kernel_rfl) hN rfl (by repeat' (first | rfl | trivial | apply And.intro)) (by repeat' (first | rfl | trivial | apply And.intro)) ?_
  rintro _ _ _ ⟨rfl, rfl, rfl⟩
  refine ⟨rfl, ?_⟩
  conv => whnf
  refine acallM [0] [] (by kernel_rfl) hC rfl (by repeat' (first | rfl | trivial | apply And.intro)) (by repeat' (first | rfl | trivial | apply And.intro)) ?_
  rintro _ _ _ ⟨rfl, rfl, rfl⟩
  refine ⟨rfl, ?_⟩
  conv => whnf
  refine acallM [0] [] (by kernel_rfl) (errA b2' e2) rfl (by repeat' (first | rfl | trivial | apply And.intro)) (by repeat' (first | rfl | trivial | apply And.intro)) ?_
  rintro _ _ _ ⟨rfl, rfl, rfl⟩
  refine ⟨rfl, ?_⟩
  conv => whnf
  refine vif_split (fun h => ?_) (fun h => ?_)
  · have he : e2 ≠ 0 := by simpa using h
    conv => whnf
    exact aend (.tup [.own 0, bv false]) 1 [(0, .rows 3 1 [])] [(0, .nil)] [] ⟨[], false, ⟨AllI.nil, Nat.zero_le _, fun l0 r ha hl hb0 => absurd (herr l0 r ha hl hb0) he⟩, rfl, rfl, rfl⟩ rfl (by repeat' (first | rfl | trivial | apply And.intro)) (by repeat' (first | rfl | trivial | apply And.intro))
  have he : e2 = 0 := by simpa using h
  subst he
  obtain ⟨w, rest, hw, rfl, hi, hbe⟩ := htwo rfl
  have hQ := q5_start (n := n) hi hw hbe
  have n1 := (num_len least).2
  have n2 := (num_len (w : Int)).2
  have hbl := congrArg List.length hbe
  simp only [List.length_append] at hbl
  conv => whnf
  (refine acallF [] (by kernel_rfl) (putA [] least hi (by simp)) ?_ ?_; (focus (repeat' (first | rfl | trivial | apply And.intro))))
  rintro _ _ _ ⟨rfl, rfl, rfl⟩
  conv => whnf
  (refine acallF [1] (by kernel_rfl) (putA (num least) (w : Int) (i64_nat (by omega)) (by omega)) ?_ ?_; (focus (repeat' (first | rfl | trivial | apply And.intro))))
  rintro _ _ _ ⟨rfl, rfl, rfl⟩
  conv => whnf
  refine ABd.mk' (num least ++ num (w : Int)).length b.length (by rw [List.length_map]) (by rw [List.length_map]) (by rw [List.length_append]; omega) (by rw [List.length_map]; exact Nat.le_refl _) ?_
  have hdrop : (b.map enB).drop (num least ++ num (w : Int)).length = rest.map enB := by
    rw [← List.map_drop, hbe, ← List.append_assoc, List.drop_left]
  have hnw : n * w ≤ 40000 := by
    have := Nat.mul_le_mul hn hw; omega
  have hs8 : sz5 n w ≤ 5001 := by unfold sz5; omega
  rw [show cut (some (AV.v (.int .i64 (((num least ++ num (w : Int)).map enB).length : Nat)))) none (num least ++ num (w : Int)).length b.length (b.map enB) = rest.map enB from hdrop]
  conv => whnf
  refine AAr.to (y := ((n * w : Nat) : Int)) (by rw [← Int.natCast_mul]; exact IntWalk.i64_in _ (by omega)) ?_
  conv => whnf
  refine AAr.i64 (by omega) ?_
  conv => whnf
  refine VReq.mk (by decide) ?_
  conv => whnf
  refine AAr.to (y := ((sz5 n w : Nat) : Int)) (by
    have e : Int.tdiv (((n * w : Nat) : Int) + 7) 8 = ((sz5 n w : Nat) : Int) := rfl
    rw [e]; exact IntWalk.i64_in _ (by omega)) ?_
  conv => whnf
  refine vif_split (fun h => ?_) (fun h => ?_)
  · have hlt : rest.length < sz5 n w := by simp at h; omega
    conv => whnf
    exact aend (.tup [.own 0, bv false]) 1 [(0, .rows 3 1 [])] [(0, .nil)] [] ⟨[], false, ⟨AllI.nil, Nat.zero_le _, fun l0 r ha hl hb0 => by have := (hQ l0 r ha hl hb0).size; rw [hl] at this; omega⟩, rfl, rfl, rfl⟩ rfl (by repeat' (first | rfl | trivial | apply And.intro)) (by repeat' (first | rfl | trivial | apply And.intro))
  have hrl : sz5 n w ≤ rest.length := by simp at h; omega
  conv => whnf
  refine aloop ws59_1 4 [9, 39] (fun x : BX => [(9, .own 3), (39, iv x.i)]) (fun x => [(3, .rows 3 1 (x.out.map enI))]) (fun x => x.i ≤ n ∧ x.out.length = x.i ∧ AllI x.out ∧ Pr b n b5 (fun l0 _ => x.out = l0.take x.i)) (fun x => n - x.i) [(3, .nil)] [] ⟨0, []⟩ (by kernel_rfl) (fun _ => rfl) rfl ⟨Nat.zero_le _, rfl, AllI.nil, fun l0 r _ _ _ => rfl⟩ ⟨rfl, trivial⟩ ⟨trivial, rfl, trivial⟩ ?_
  rintro ⟨i, out⟩ ⟨hin, hol, hall, hP⟩
  change i ≤ n at hin
  change out.length = i at hol
  change AllI out at hall
  change Pr b n b5 (fun l0 _ => out = l0.take i) at hP
  conv => whnf
  refine vif_split (fun h => ?_) (fun h => ?_)
  rotate_left 1
  · have : i = n := by simp at h; omega
    subst this
    conv => whnf
    exact aend (.tup [.own 0, bv true]) 1 _ [(0, .lab 3)] [] ⟨out, true, ⟨hall, by omega, fun l0 r ha hl hb0 => ⟨rfl, by have := hP l0 r ha hl hb0; rw [this, ← hl, List.take_length]⟩⟩, rfl, rfl, rfl⟩ rfl (by repeat' (first | rfl | trivial | apply And.intro)) (by repeat' (first | rfl | trivial | apply And.intro))
  have hlt : i < n := by simp at h; omega
  conv => whnf
  refine aloop ws59_2 4 [11, 43] (fun x : NX => [(11, uv x.u), (43, iv x.i)]) (fun _ => [(3, .rows 3 1 (out.map enI))]) (fun x => x.i ≤ w ∧ x.u < 2 ^ x.i ∧ Pr b n b5 (fun l0 _ => x.u = dif least (l0.getD i 0) % 2 ^ x.i)) (fun x => w - x.i) [] [] ⟨0, 0⟩ (by kernel_rfl) (fun _ => rfl) rfl ⟨Nat.zero_le _, Nat.one_pos, fun l0 r _ _ _ => by show 0 = _ % 2 ^ 0; rw [Nat.pow_zero, Nat.mod_one]⟩ ⟨⟨rfl, rfl, rfl⟩, trivial⟩ ⟨rfl, rfl, trivial⟩ ?_
  rintro ⟨k, d⟩ ⟨hk, hd, hD⟩
  change k ≤ w at hk
  change d < 2 ^ k at hd
  change Pr b n b5 (fun l0 _ => d = dif least (l0.getD i 0) % 2 ^ k) at hD
  conv => whnf
  refine vif_split (fun h => ?_) (fun h => ?_)
  · have hkw : k < w := by simp at h; omega
    have hat := at_lt hlt hkw
    have hmul : i * w + k ≤ 640000 := by omega
    have hbit : Pr b n b5 fun l0 _ => ∃ c, rest[(i * w + k) / 8]? = some c ∧ c.toNat.testBit ((i * w + k) % 8) = (dif least (l0.getD i 0)).testBit k := fun l0 r ha hl hb0 => (hQ l0 r ha hl hb0).bit (by omega) hkw
    conv => whnf
    refine AAr.to (y := ((i * w : Nat) : Int)) (by show IntKind.i64.wrap ((i : Int) * (w : Int)) = _; rw [← Int.natCast_mul]; exact IntWalk.i64_in _ (by omega)) ?_
    conv => whnf
    refine AAr.to (y := ((i * w + k : Nat) : Int)) (by show IntKind.i64.wrap (((i * w : Nat) : Int) + (k : Int)) = _; rw [← Int.natCast_add]; exact IntWalk.i64_in _ (by omega)) ?_
    conv => whnf
    generalize i * w + k = p at *
    refine VReq.mk (by decide) ?_
    conv => whnf
    refine AAr.to (y := ((p / 8 : Nat) : Int)) (by
      have e : Int.tdiv (p : Int) 8 = ((p / 8 : Nat) : Int) := rfl
      rw [e]; exact IntWalk.i64_in _ (by omega)) ?_
    conv => whnf
    have hp8 : p / 8 < rest.length := by omega
    refine AIn.mk' (p / 8) rfl (by rw [List.length_map]; exact hp8) ?_
    conv => whnf
    refine ARd.map hp8 ?_
    conv => whnf
    have hbit2 : Pr b n b5 fun l0 _ => (rest[p / 8]).toNat.testBit (p % 8) = (dif least (l0.getD i 0)).testBit k := fun l0 r ha hl hb0 => by
      obtain ⟨c, c1, c2⟩ := hbit l0 r ha hl hb0
      rw [List.getElem?_eq_getElem hp8] at c1
      injection c1 with c1
      rw [c1]; exact c2
    generalize rest[p / 8] = c at *
    refine VReq.mk (by decide) ?_
    conv => whnf
    refine VReq.mk (by show (0 : Int) ≤ ((p % 8 : Nat) : Int); omega) ?_
    conv => whnf
    refine AAr.to (bitv8 c (s := p % 8) (Nat.mod_lt _ (by decide))) ?_
    conv => whnf
    have hk64 : k < 64 := by omega
    have hsh := shl64 (c := if c.toNat.testBit (p % 8) = true then 1 else 0) (k := k) (by split <;> omega) hk64
    refine VReq.mk (by show (0 : Int) ≤ (k : Int); omega) ?_
    conv => whnf
    refine AAr.to hsh.1 ?_
    conv => whnf
    rw [or_bit hd hk64 hsh.2]
    conv => whnf
    refine AAr.i64 (x := (k : Int) + 1) (by omega) ?_
    conv => whnf
    refine aback ⟨k + 1, d + (if c.toNat.testBit (p % 8) = true then 1 else 0) * 2 ^ k⟩ [] [] rfl (by show w - (k + 1) < w - k; omega) ⟨hkw, ?_, fun l0 r ha hl hb0 => ?_⟩ ⟨⟨rfl, rfl, rfl⟩, trivial⟩ ⟨rfl, rfl, trivial⟩
    · show d + (if c.toNat.testBit (p % 8) = true then 1 else 0) * 2 ^ k < 2 ^ (k + 1)
      rw [Nat.pow_succ]
      split <;> omega
    · show d + (if c.toNat.testBit (p % 8) = true then 1 else 0) * 2 ^ k = dif least (l0.getD i 0) % 2 ^ (k + 1)
      rw [bit_sum, ← hD l0 r ha hl hb0, hbit2 l0 r ha hl hb0]
  · have : k = w := by simp at h; omega
    subst this
    conv => whnf
    refine AAr.to rfl ?_
    conv => whnf
    refine AAr.to rfl ?_
    conv => whnf
    refine AAr.to (add_ud _ _) ?_
    conv => whnf
    refine VReq.mk (app_ok (by simp only [List.length_map, List.length_append, List.length_cons, List.length_nil]; omega) (by kernel_rfl)) ?_
    conv => whnf
    refine AAr.i64 (x := (i : Int) + 1) (by omega) ?_
    conv => whnf
    refine aback ⟨i + 1, out ++ [w64 (least + (d : Int))]⟩ [(3, .lab 5)] [] rfl (by show n - (i + 1) < n - i; omega) ⟨hlt, by show (out ++ [w64 (least + (d : Int))]).length = i + 1; simp [hol], hall.snoc (w64_i _), fun l0 r ha hl hb0 => ?_⟩ ⟨⟨rfl, rfl, (snocI out _).symm⟩, trivial⟩ ⟨rfl, rfl, trivial⟩
    show out ++ [w64 (least + (d : Int))] = l0.take (i + 1)
    have hil : i < l0.length := by omega
    rw [List.take_succ_eq_append_getElem hil, ← hP l0 r ha hl hb0]
    congr 2
    have := (hQ l0 r ha hl hb0).val ha (i := i) (x := l0[i]) (List.getElem?_eq_getElem hil)
    rw [← hD l0 r ha hl hb0] at this
    exact this
end Go.Proofs.YtmhpfadbmpipkaaGreat.Cl
