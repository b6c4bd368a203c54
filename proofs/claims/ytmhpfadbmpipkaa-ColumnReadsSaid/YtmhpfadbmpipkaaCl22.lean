/- The walk of column's readBits. Condition: sizes. -/
import Derived.Test.YtmhpfadbmpipkaaCl21
set_option linter.unusedVariables false
set_option linter.unusedSimpArgs false
namespace Go.Proofs.Ytmhpfadbmpipkaa.Cl
open Go Go.RowKit Go.Proofs Go.Proofs.Ytmhpfadbmpipkaa.Vc Go.Proofs.Ytmhpfadbmpipkaa.Ax
attribute [local irreducible] loadVar storeVar Instr.indexAt Instr.index Instr.sliceAt Instr.makeSlice Instr.lookup Instr.mapUpdate Instr.range Instr.next Instr.entry Instr.makeMap Builtin.append_ Builtin.copy_ Builtin.len_ Builtin.min_ Builtin.max_ Builtin.cap_ Builtin.delete_ Builtin.clear_ convert binOp eqGuard Op.unary Calls
set_option maxHeartbeats 8000000 in
set_option maxRecDepth 100000 in
theorem readBitsA (b : By) (n : Nat) (hb : b.length ≤ 3000000) (hn : n ≤ 512) : AFn Try.prog GC 35 [bs b, iv n] 0 [] (DecA b5 b n) := by
  have herr := q5_err (b := b) (n := n)
  have htwo := rd_two (b := b)
  have hN := numberA b 0 hb
  have hC := countA (b.drop (rnT b 0).2.1) (rnT b 0).2.2 64 (drop_le hb) (by decide)
  generalize hc : cnT (b.drop (rnT b 0).2.1) (rnT b 0).2.2 64 5 = t at *
  obtain ⟨ww, j2, e2⟩ := t
  simp only at herr htwo hC
  generalize (rnT b 0).1 = least at *
  generalize hb1 : b.drop (rnT b 0).2.1 = b1' at *
  generalize (rnT b 0).2.2 = e1 at *
  generalize b1'.drop j2 = b2' at *
  clear hc hb1
  refine afn_of Try.func35 rfl mixed (by kernel_rfl) ?_
  conv => whnf
  (refine acallF [] (by kernel_rfl) (newA b hb) ?_ ?_; (focus (repeat' (first | rfl | trivial | apply And.intro))))
  rintro _ _ _ ⟨rfl, rfl, rfl⟩
  conv => whnf
  refine acallM [0] [] (by kernel_rfl) hN rfl (by repeat' (first | rfl | trivial | apply And.intro)) (by repeat' (first | rfl | trivial | apply And.intro)) ?_
  rintro _ _ _ ⟨rfl, rfl, rfl⟩
  refine ⟨rfl, ?_⟩
  conv => whnf
  refine acallM [0] [] (by kernel_rfl) hC rfl (by repeat' (first | rfl | trivial | apply And.intro)) (by repeat' (first | rfl | trivial | apply And.intro)) ?_
  rintro _ _ _ ⟨rfl, rfl, rfl⟩
  refine ⟨rfl, ?_⟩
  conv => whnf
  refine acallM [0] [] (by kernel_rfl) (errA b2' e2) rfl (by repeat' (first | rfl | trivial | apply And.intro)) (by repeat' (first | rfl | trivial | apply And.intro)) ?_
  rintro _ _ _ ⟨rfl, rfl, rfl⟩
  refine ⟨rfl, ?_⟩
  conv => whnf
  refine vif_split (fun h => ?_) (fun h => ?_)
  · have he : e2 ≠ 0 := by simpa using h
    conv => whnf
    exact aend (.tup [.own 0, bv false]) 1 [(0, .rows 3 1 [])] [(0, .nil)] [] ⟨[], false, ⟨AllI.nil, Nat.zero_le _, fun l0 r ha hl hb0 => absurd (herr l0 r ha hl hb0) he⟩, rfl, rfl, rfl⟩ rfl (by repeat' (first | rfl | trivial | apply And.intro)) (by repeat' (first | rfl | trivial | apply And.intro))
  have he : e2 = 0 := by simpa using h
  subst he
  obtain ⟨w, rest, hw, rfl, hi, hbe⟩ := htwo rfl
  have hQ := q5_start (n := n) hi hw hbe
  have n1 := (num_len least).2
  have n2 := (num_len (w : Int)).2
  have hbl := congrArg List.length hbe
  simp only [List.length_append] at hbl
  conv => whnf
  (refine acallF [] (by kernel_rfl) (putA [] least hi (by simp)) ?_ ?_; (focus (repeat' (first | rfl | trivial | apply And.intro))))
  rintro _ _ _ ⟨rfl, rfl, rfl⟩
  conv => whnf
  (refine acallF [1] (by kernel_rfl) (putA (num least) (w : Int) (i64_nat (by omega)) (by omega)) ?_ ?_; (focus (repeat' (first | rfl | trivial | apply And.intro))))
  rintro _ _ _ ⟨rfl, rfl, rfl⟩
  conv => whnf
  refine ABd.mk' (num least ++ num (w : Int)).length b.length (by rw [List.length_map]) (by rw [List.length_map]) (by rw [List.length_append]; omega) (by rw [List.length_map]; exact Nat.le_refl _) ?_
  have hdrop : (b.map enB).drop (num least ++ num (w : Int)).length = rest.map enB := by
    rw [← List.map_drop, hbe, ← List.append_assoc, List.drop_left]
  have hnw : n * w ≤ 40000 := by
    have := Nat.mul_le_mul hn hw; omega
  have hs8 : sz5 n w ≤ 5001 := by unfold sz5; omega
  rw [show cut (some (AV.v (.int .i64 (((num least ++ num (w : Int)).map enB).length : Nat)))) none (num least ++ num (w : Int)).length b.length (b.map enB) = rest.map enB from hdrop]
  conv => whnf
  refine AAr.to (y := ((n * w : Nat) : Int)) (by rw [← Int.natCast_mul]; exact IntWalk.i64_in _ (by omega)) ?_
  conv => whnf
  refine AAr.i64 (by omega) ?_
  conv => whnf
  refine VReq.mk (by decide) ?_
  conv => whnf
  refine AAr.to (y := ((sz5 n w : Nat) : Int)) (by
    have e : Int.tdiv (((n * w : Nat) : Int) + 7) 8 = ((sz5 n w : Nat) : Int) := rfl
    rw [e]; exact IntWalk.i64_in _ (by omega)) ?_
  conv => whnf
  refine vif_split (fun h => ?_) (fun h => ?_)
  · have hlt : rest.length < sz5 n w := by simp at h; omega
    conv => whnf
    exact aend (.tup [.own 0, bv false]) 1 [(0, .rows 3 1 [])] [(0, .nil)] [] ⟨[], false, ⟨AllI.nil, Nat.zero_le _, fun l0 r ha hl hb0 => by have := (hQ l0 r ha hl hb0).size; rw [hl] at this; omega⟩, rfl, rfl, rfl⟩ rfl (by repeat' (first | rfl | trivial | apply And.intro)) (by repeat' (first | rfl | trivial | apply And.intro))
  have hrl : sz5 n w ≤ rest.length := by simp at h; omega
  conv => whnf
  refine aloop ws35_1 4 [9, 39] (fun x : BX => [(9, .own 3), (39, iv x.i)]) (fun x => [(3, .rows 3 1 (x.out.map enI))]) (fun x => x.i ≤ n ∧ x.out.length = x.i ∧ AllI x.out ∧ Pr b n b5 (fun l0 _ => x.out = l0.take x.i)) (fun x => n - x.i) [(3, .nil)] [] ⟨0, []⟩ (by kernel_rfl) (fun _ => rfl) rfl ⟨Nat.zero_le _, rfl, AllI.nil, fun l0 r _ _ _ => rfl⟩ ⟨rfl, trivial⟩ ⟨trivial, rfl, trivial⟩ ?_
  rintro ⟨i, out⟩ ⟨hin, hol, hall, hP⟩
  change i ≤ n at hin
  change out.length = i at hol
  change AllI out at hall
  change Pr b n b5 (fun l0 _ => out = l0.take i) at hP
  conv => whnf
  refine vif_split (fun h => ?_) (fun h => ?_)
  rotate_left 1
  · have : i = n := by simp at h; omega
    subst this
    conv => whnf
    exact aend (.tup [.own 0, bv true]) 1 _ [(0, .lab 3)] [] ⟨out, true, ⟨hall, by omega, fun l0 r ha hl hb0 => ⟨rfl, by have := hP l0 r ha hl hb0; rw [this, ← hl, List.take_length]⟩⟩, rfl, rfl, rfl⟩ rfl (by repeat' (first | rfl | trivial | apply And.intro)) (by repeat' (first | rfl | trivial | apply And.intro))
  have hlt : i < n := by simp at h; omega
  conv => whnf
  refine aloop ws35_2 4 [11, 43] (fun x : NX => [(11, uv x.u), (43, iv x.i)]) (fun _ => [(3, .rows 3 1 (out.map enI))]) (fun x => x.i ≤ w ∧ x.u < 2 ^ x.i ∧ Pr b n b5 (fun l0 _ => x.u = dif least (l0.getD i 0) % 2 ^ x.i)) (fun x => w - x.i) [] [] ⟨0, 0⟩ (by kernel_rfl) (fun _ => rfl) rfl ⟨Nat.zero_le _, Nat.one_pos, fun l0 r _ _ _ => by show 0 = _ % 2 ^ 0; rw [Nat.pow_zero, Nat.mod_one]⟩ ⟨⟨rfl, rfl, rfl⟩, trivial⟩ ⟨rfl, rfl, trivial⟩ ?_
  rintro ⟨k, d⟩ ⟨hk, hd, hD⟩
  change k ≤ w at hk
  change d < 2 ^ k at hd
  change Pr b n b5 (fun l0 _ => d = dif least (l0.getD i 0) % 2 ^ k) at hD
  conv => whnf
  refine vif_split (fun h => ?_) (fun h => ?_)
  · have hkw : k < w := by simp at h; omega
    have hat := at_lt hlt hkw
    have hmul : i * w + k ≤ 640000 := by omega
    have hbit : Pr b n b5 fun l0 _ => ∃ c, rest[(i * w + k) / 8]? = some c ∧ c.toNat.testBit ((i * w + k) % 8) = (dif least (l0.getD i 0)).testBit k := fun l0 r ha hl hb0 => (hQ l0 r ha hl hb0).bit (by omega) hkw
    conv => whnf
    refine AAr.to (y := ((i * w : Nat) : Int)) (by show IntKind.i64.wrap ((i : Int) * (w : Int)) = _; rw [← Int.natCast_mul]; exact IntWalk.i64_in _ (by omega)) ?_
    conv => whnf
    refine AAr.to (y := ((i * w + k : Nat) : Int)) (by show IntKind.i64.wrap (((i * w : Nat) : Int) + (k : Int)) = _; rw [← Int.natCast_add]; exact IntWalk.i64_in _ (by omega)) ?_
    conv => whnf
    generalize i * w + k = p at *
    refine VReq.mk (by decide) ?_
    conv => whnf
    refine AAr.to (y := ((p / 8 : Nat) : Int)) (by
      have e : Int.tdiv (p : Int) 8 = ((p / 8 : Nat) : Int) := rfl
      rw [e]; exact IntWalk.i64_in _ (by omega)) ?_
    conv => whnf
    have hp8 : p / 8 < rest.length := by omega
    refine AIn.mk' (p / 8) rfl (by rw [List.length_map]; exact hp8) ?_
    conv => whnf
    refine ARd.map hp8 ?_
    conv => whnf
    have hbit2 : Pr b n b5 fun l0 _ => (rest[p / 8]).toNat.testBit (p % 8) = (dif least (l0.getD i 0)).testBit k := fun l0 r ha hl hb0 => by
      obtain ⟨c, c1, c2⟩ := hbit l0 r ha hl hb0
      rw [List.getElem?_eq_getElem hp8] at c1
      injection c1 with c1
      rw [c1]; exact c2
    generalize rest[p / 8] = c at *
    refine VReq.mk (by decide) ?_
    conv => whnf
    refine VReq.mk (by show (0 : Int) ≤ ((p % 8 : Nat) : Int); omega) ?_
    conv => whnf
    refine AAr.to (bitv8 c (s := p % 8) (Nat.mod_lt _ (by decide))) ?_
    conv => whnf
    have hk64 : k < 64 := by omega
    have hsh := shl64 (c := if c.toNat.testBit (p % 8) = true then 1 else 0) (k := k) (by split <;> omega) hk64
    refine VReq.mk (by show (0 : Int) ≤ (k : Int); omega) ?_
    conv => whnf
    refine AAr.to hsh.1 ?_
    conv => whnf
    rw [or_bit hd hk64 hsh.2]
    conv => whnf
    refine AAr.i64 (x := (k : Int) + 1) (by omega) ?_
    conv => whnf
    refine aback ⟨k + 1, d + (if c.toNat.testBit (p % 8) = true then 1 else 0) * 2 ^ k⟩ [] [] rfl (by show w - (k + 1) < w - k; omega) ⟨hkw, ?_, fun l0 r ha hl hb0 => ?_⟩ ⟨⟨rfl, rfl, rfl⟩, trivial⟩ ⟨rfl, rfl, trivial⟩
    · show d + (if c.toNat.testBit (p % 8) = true then 1 else 0) * 2 ^ k < 2 ^ (k + 1)
      rw [Nat.pow_succ]
      split <;> omega
    · show d + (if c.toNat.testBit (p % 8) = true then 1 else 0) * 2 ^ k = dif least (l0.getD i 0) % 2 ^ (k + 1)
      rw [bit_sum, ← hD l0 r ha hl hb0, hbit2 l0 r ha hl hb0]
  · have : k = w := by simp at h; omega
    subst this
    conv => whnf
    refine AAr.to rfl ?_
    conv => whnf
    refine AAr.to rfl ?_
    conv => whnf
    refine AAr.to (add_ud _ _) ?_
    conv => whnf
    refine VReq.mk (app_ok (by simp only [List.length_map, List.length_append, List.length_cons, List.length_nil]; omega) (by kernel_rfl)) ?_
    conv => whnf
    refine AAr.i64 (x := (i : Int) + 1) (by omega) ?_
    conv => whnf
    refine aback ⟨i + 1, out ++ [w64 (least + (d : Int))]⟩ [(3, .lab 5)] [] rfl (by show n - (i + 1) < n - i; omega) ⟨hlt, by show (out ++ [w64 (least + (d : Int))]).length = i + 1; simp [hol], hall.snoc (w64_i _), fun l0 r ha hl hb0 => ?_⟩ ⟨⟨rfl, rfl, (snocI out _).symm⟩, trivial⟩ ⟨rfl, rfl, trivial⟩
    show out ++ [w64 (least + (d : Int))] = l0.take (i + 1)
    have hil : i < l0.length := by omega
    rw [List.take_succ_eq_append_getElem hil, ← hP l0 r ha hl hb0]
    congr 2
    have := (hQ l0 r ha hl hb0).val ha (i := i) (x := l0[i]) (List.getElem?_eq_getElem hil)
    rw [← hD l0 r ha hl hb0] at this
    exact this
end Go.Proofs.Ytmhpfadbmpipkaa.Cl
