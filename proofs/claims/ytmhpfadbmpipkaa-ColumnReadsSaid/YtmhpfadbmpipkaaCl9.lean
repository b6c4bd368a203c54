/- The walk of column's putBits. Condition: the list is not empty; sizes. -/
import Derived.Test.YtmhpfadbmpipkaaCl8
set_option linter.unusedVariables false
set_option linter.unusedSimpArgs false
namespace Go.Proofs.Ytmhpfadbmpipkaa.Cl
open Go Go.RowKit Go.Proofs Go.Proofs.Ytmhpfadbmpipkaa.Vc Go.Proofs.Ytmhpfadbmpipkaa.Ax
attribute [local irreducible] loadVar storeVar Instr.indexAt Instr.index Instr.sliceAt Instr.makeSlice Instr.lookup Instr.mapUpdate Instr.range Instr.next Instr.entry Instr.makeMap Builtin.append_ Builtin.copy_ Builtin.len_ Builtin.min_ Builtin.max_ Builtin.cap_ Builtin.delete_ Builtin.clear_ convert binOp eqGuard Op.unary Calls
theorem u64_dif {lo x : Int} (h1 : I64 lo) (h2 : I64 x) (h : lo ≤ x) : IntKind.u64.wrap (IntKind.u64.wrap x - IntKind.u64.wrap lo) = ((dif lo x : Nat) : Int) ∧ dif lo x < 18446744073709551616 := by
  have e : IntKind.u64.bits = 64 := rfl
  have s : IntKind.u64.signed = false := rfl
  unfold I64 at h1 h2
  unfold dif
  simp only [IntKind.wrap, e, s, Bool.false_and, Bool.false_eq_true, if_false]
  omega
set_option maxRecDepth 100000 in
theorem or_bit8 : ∀ a, a < 256 → ∀ s, s < 8 → a.testBit s = false → a ||| 2 ^ s = a + 2 ^ s := by decide
/-- the bit of a word at its place -/
theorem bit_at {d k : Nat} (hd : d < 18446744073709551616) (hk : k ≤ 64) : bitsOp .and .u64 (Int.fdiv (d : Int) (2 ^ min (Int.toNat (k : Int)) IntKind.u64.bits)) 1 = (((if d.testBit k = true then 1 else 0) : Nat) : Int) := by
  have e : (1 : Int) = ((1 : Nat) : Int) := rfl
  have h1 : d / 2 ^ k ≤ d := Nat.div_le_self _ _
  rw [shrk d k hk, e, bo_and64 _ 1 (by omega) (by decide), and1, bit_of]
theorem w8 {n : Nat} (h : n < 256) : IntKind.u8.wrap (n : Int) = n := wr_u8 h
theorem pw8 {c s : Nat} (hc : c ≤ 1) (hs : s < 8) : c * 2 ^ s < 256 := by
  have : 2 ^ s ≤ 2 ^ 7 := Nat.pow_le_pow_right (by decide) (by omega)
  have h2 := Nat.mul_le_mul hc this
  have : (1 : Nat) * 2 ^ 7 = 128 := by decide
  omega
theorem shl8 {c s : Nat} (hc : c ≤ 1) (hs : s < 8) : IntKind.u8.wrap ((c : Int) * 2 ^ min (Int.toNat (s : Int)) IntKind.u8.bits) = ((c * 2 ^ s : Nat) : Int) := by
  have e : IntKind.u8.bits = 8 := rfl
  rw [e, Int.toNat_natCast, Nat.min_eq_left (by omega)]
  have e2 : (c : Int) * 2 ^ s = ((c * 2 ^ s : Nat) : Int) := by simp
  rw [e2, w8 (pw8 hc hs)]
/-- a byte with one bit more -/
theorem set_bit (bit : Nat → Bool) (p : Nat) : bitsOp .or .u8 ((UInt8.ofNat (byA bit p (p / 8) 8)).toNat : Int) (((if bit p = true then 1 else 0) * 2 ^ (p % 8) : Nat) : Int) = ((UInt8.ofNat (byA bit p (p / 8) 8 + (if bit p = true then 2 ^ (p % 8) else 0))).toNat : Int) := by
  have hlt := byA_lt bit p (p / 8) 8
  have hb := byA_bit bit p (p / 8) 8 (p % 8) (by omega)
  have e : 8 * (p / 8) + p % 8 = p := by omega
  rw [e, decide_eq_false (Nat.lt_irrefl p), Bool.false_and] at hb
  rw [toNat_ofNat (by omega)]
  by_cases h : bit p = true
  · rw [if_pos h, if_pos h, Nat.one_mul]
    have h2 := pw8 (c := 1) (s := p % 8) (Nat.le_refl _) (by omega)
    have h3 := or_bit8 _ hlt (p % 8) (by omega) hb
    have h4 := Nat.or_lt_two_pow (n := 8) hlt (show 2 ^ (p % 8) < 2 ^ 8 by omega)
    rw [bo_or8 _ _ (by omega) (by omega), h3, toNat_ofNat (by omega)]
  · rw [if_neg h, if_neg h, Nat.zero_mul, bo_or8 _ _ (by omega) (by omega), Nat.or_zero, Nat.add_zero, toNat_ofNat (by omega)]
theorem pk_row (bit : Nat → Bool) (n p : Nat) : (pk bit n (p + 1)).map enB = ((pk bit n p).map enB).set (p / 8) [FV.v (.int .u8 (bitsOp .or .u8 ((UInt8.ofNat (byA bit p (p / 8) 8)).toNat : Int) (((if bit p = true then 1 else 0) * 2 ^ (p % 8) : Nat) : Int)))] := by
  rw [set_bit, pk_step, List.map_set]; rfl
theorem pk_get {bit : Nat → Bool} {n p j : Nat} (h : j < n) : (pk bit n p)[j]? = some (UInt8.ofNat (byA bit p j 8)) := by
  simp only [pk, List.getElem?_map, List.getElem?_range h, Option.map_some]
theorem bitA_at {l : Li} {i k : Nat} (hk : k < wd l) (hi : i < l.length) : bitA (lo l) (wd l) l (i * wd l + k) = (dif (lo l) l[i]).testBit k := by
  unfold bitA
  have hw : 0 < wd l := by omega
  have e1 : (i * wd l + k) / wd l = i := by rw [Nat.mul_comm, Nat.mul_add_div hw, Nat.div_eq_of_lt hk, Nat.add_zero]
  have e2 : (i * wd l + k) % wd l = k := by rw [Nat.mul_comm, Nat.mul_add_mod, Nat.mod_eq_of_lt hk]
  rw [e1, e2, List.getD_eq_getElem?_getD, List.getElem?_eq_getElem hi]; rfl
theorem at_lt {n w i k : Nat} (hi : i < n) (hk : k < w) : i * w + k < n * w ∧ (i * w + k) / 8 < sz5 n w := by
  have := Nat.mul_le_mul_right w (show i + 1 ≤ n from hi)
  rw [Nat.add_mul, Nat.one_mul] at this
  unfold sz5
  omega
set_option maxHeartbeats 4000000 in
set_option maxRecDepth 100000 in
theorem putBitsA (b : By) (l : Li) (hl : AllI l) (hne : l ≠ []) (hb : b.length ≤ 1000000) (hs : l.length ≤ 10000) : AFn Try.prog GC 34 [bs b, li l] 0 [] (Is (bs (b ++ b5 l))) := by
  obtain ⟨a, ha⟩ := List.exists_mem_of_ne_nil l hne
  have h1 := lo_le ha
  have h2 := hi_ge ha
  have hlo := hl _ h1.2
  have hhi := hl _ h2.2
  have hd := u64_dif hlo hhi (by omega)
  have hw := wd_le l hl
  have hlen := len64A (dif (lo l) (hi l)) hd.2
  have hwd : wid 64 (dif (lo l) (hi l)) = wd l := rfl
  rw [hwd] at hlen
  have n1 := (num_len (lo l)).2
  have hmin := minA l hne (by omega)
  have hmax := maxA l hne (by omega)
  clear hwd
  generalize hwe : wd l = w at *
  generalize hm : lo l = m at *
  generalize hM : hi l = M at *
  refine afn_of Try.func34 rfl mixed (by kernel_rfl) ?_
  conv => whnf
  (refine acall [] (by kernel_rfl) (hmin) rfl ?_ ?_; (focus (repeat' (first | rfl | trivial | apply And.intro))))
  conv => whnf
  (refine acall [] (by kernel_rfl) (hmax) rfl ?_ ?_; (focus (repeat' (first | rfl | trivial | apply And.intro))))
  conv => whnf
  refine AAr.to rfl ?_
  conv => whnf
  refine AAr.to rfl ?_
  conv => whnf
  refine AAr.to hd.1 ?_
  conv => whnf
  (refine acall [] (by kernel_rfl) (hlen) rfl ?_ ?_; (focus (repeat' (first | rfl | trivial | apply And.intro))))
  conv => whnf
  (refine acallF [] (by kernel_rfl) (putA b m hlo (by omega)) ?_ ?_; (focus (repeat' (first | rfl | trivial | apply And.intro))))
  rintro _ _ _ ⟨rfl, rfl, rfl⟩
  conv => whnf
  (refine acallF [0] (by kernel_rfl) (putA (b ++ num m) (w : Int) (i64_nat (by omega)) (by rw [List.length_append]; omega)) ?_ ?_; (focus (repeat' (first | rfl | trivial | apply And.intro))))
  rintro _ _ _ ⟨rfl, rfl, rfl⟩
  conv => whnf
  have hlw : l.length * w ≤ 640000 := by
    have := Nat.mul_le_mul hs hw; omega
  refine AAr.to (y := ((l.length * w : Nat) : Int)) (by rw [List.length_map, ← Int.natCast_mul]; exact IntWalk.i64_in _ (by omega)) ?_
  conv => whnf
  refine AAr.i64 (by omega) ?_
  conv => whnf
  refine VReq.mk (by decide) ?_
  conv => whnf
  refine AAr.to (y := ((sz5 l.length w : Nat) : Int)) (by
    have e : Int.tdiv (((l.length * w : Nat) : Int) + 7) 8 = ((sz5 l.length w : Nat) : Int) := rfl
    rw [e]; exact IntWalk.i64_in _ (by unfold sz5; omega)) ?_
  conv => whnf
  refine AMk.mk' (by_ := 1) (sz5 l.length w) rfl rfl (by unfold sz5 maxLen; omega) ?_
  conv => whnf
  have hb3 : (b ++ num m ++ num (w : Int)).length ≤ 1000020 := by have := (num_len (w : Int)).2; simp only [List.length_append]; omega
  refine aloop ws34_1 3 [36] (fun i : Nat => [(36, iv i)]) (fun i => [(2, .rows 5 1 ((pk (bitA m w l) (sz5 l.length w) (i * w)).map enB)), (1, .rows 5 1 ((b ++ num m ++ num (w : Int)).map enB))]) (fun i => i ≤ l.length) (fun i => l.length - i) [] [] 0 (by kernel_rfl) (fun _ => rfl) rfl (Nat.zero_le _) ⟨⟨rfl, rfl, by rw [Nat.zero_mul, pk_zero, List.map_replicate]; rfl⟩, ⟨rfl, rfl, rfl⟩, trivial⟩ ⟨rfl, trivial⟩ ?_
  rintro i hi
  conv => whnf
  refine vif_split (fun h => ?_) (fun h => ?_)
  · have hlt : i < l.length := by simp at h; omega
    have hx := lo_le (List.getElem_mem hlt)
    rw [hm] at hx
    have hxd := u64_dif hlo (hl _ (List.getElem_mem hlt)) hx.1
    conv => whnf
    (repeat' (first | (refine And.intro ?_ ?_ <;> (conv => whnf)) | (refine vif_split (fun h => ?_) (fun h => ?_) <;> (try simp only [sEqD, cond_true, cond_false, Bool.not_eq_true', Bool.not_eq_false', decide_eq_true_eq, decide_eq_false_iff_not, beq_iff_eq, bne_iff_ne, beq_eq_false_iff_ne, bne_eq_false_iff_eq, ne_eq, Bool.not_eq_eq_eq_not, Bool.not_true, Bool.not_false, Bool.false_eq_true, Bool.true_eq_false, Decidable.not_not, gt_iff_lt, ge_iff_le, Int.not_lt, Int.not_le] at h) <;> (conv => whnf)) | (refine AAr.i64 (by first | omega | ((try simp only [List.length_map] at *); omega)) ?_; conv => whnf) | (refine AIn.mk' _ rfl (by first | omega | (simp only [List.length_map, List.length_append, List.length_cons, List.length_nil, List.length_take, List.length_drop, List.length_set, List.length_replicate]; omega) | (simp only [List.length_map, List.length_append, List.length_cons, List.length_nil, List.length_take, List.length_drop, List.length_set, List.length_replicate] at *; omega)) ?_; conv => whnf) | (refine ARd.mapAt (by assumption) ?_; conv => whnf) | (refine ARd.set (by (try simp only [List.length_map, List.length_append, List.length_cons, List.length_nil, List.length_take, List.length_drop, List.length_set, List.length_replicate] at *); omega) ?_; conv => whnf) | (refine ARd.map (by first | omega | (simp only [List.length_map] at *; omega)) ?_; conv => whnf) | (refine VReq.mk (by first | decide | omega) ?_; conv => whnf) | (refine AEq.mk (by kernel_rfl) rfl rfl ?_; conv => whnf) | (refine VReq.mk (app_ok (by (try simp only [List.length_map, List.length_append, List.length_cons, List.length_nil, List.length_take, List.length_drop, List.length_set, List.length_replicate] at *); omega) (by kernel_rfl)) ?_; conv => whnf)))
    refine AAr.to rfl ?_
    conv => whnf
    refine AAr.to rfl ?_
    conv => whnf
    refine AAr.to hxd.1 ?_
    conv => whnf
    have hbit : ∀ k, k < w → bitA m w l (i * w + k) = (dif m l[i]).testBit k := fun k hk => by
      have := bitA_at (l := l) (i := i) (k := k) (by rw [hwe]; exact hk) hlt
      rwa [hm, hwe] at this
    generalize dif m l[i] = d at *
    refine aloop ws34_2 3 [47] (fun k : Nat => [(47, iv k)]) (fun k => [(2, .rows 5 1 ((pk (bitA m w l) (sz5 l.length w) (i * w + k)).map enB)), (1, .rows 5 1 ((b ++ num m ++ num (w : Int)).map enB))]) (fun k => k ≤ w) (fun k => w - k) [] [] 0 (by kernel_rfl) (fun _ => rfl) rfl (Nat.zero_le _) ⟨⟨rfl, rfl, rfl⟩, ⟨rfl, rfl, rfl⟩, trivial⟩ ⟨rfl, trivial⟩ ?_
    rintro k hk
    conv => whnf
    refine vif_split (fun h => ?_) (fun h => ?_)
    · have hkw : k < w := by simp at h; omega
      have hat := at_lt hlt hkw
      have hmul : i * w + k ≤ 640000 := by omega
      conv => whnf
      refine AAr.to (y := ((i * w : Nat) : Int)) (by rw [← Int.natCast_mul]; exact IntWalk.i64_in _ (by omega)) ?_
      conv => whnf
      refine AAr.to (y := ((i * w + k : Nat) : Int)) (by rw [← Int.natCast_add]; exact IntWalk.i64_in _ (by omega)) ?_
      conv => whnf
      generalize hp : i * w + k = p at *
      (refine adraw pln34 [] (by kernel_rfl) ?_; conv => whnf)
      refine VReq.mk (by decide) ?_
      conv => whnf
      refine AAr.to (y := ((p / 8 : Nat) : Int)) (by
        have e : Int.tdiv (p : Int) 8 = ((p / 8 : Nat) : Int) := rfl
        rw [e]; exact IntWalk.i64_in _ (by omega)) ?_
      conv => whnf
      refine AIn.mk' (p / 8) rfl (by rw [List.length_map, pk_len]; exact hat.2) ?_
      conv => whnf
      refine ARd.mapAt (pk_get hat.2) ?_
      conv => whnf
      refine VReq.mk (by omega) ?_
      conv => whnf
      refine AAr.to (y := (((if d.testBit k = true then 1 else 0 : Nat)) : Int)) (by rw [bit_at hxd.2 (by omega)]; exact w8 (by split <;> omega)) ?_
      conv => whnf
      refine VReq.mk (by decide) ?_
      conv => whnf
      refine VReq.mk (by show (0 : Int) ≤ ((p % 8 : Nat) : Int); omega) ?_
      conv => whnf
      refine AAr.to (y := (((if d.testBit k = true then 1 else 0) * 2 ^ (p % 8) : Nat) : Int)) (shl8 (s := p % 8) (by split <;> omega) (Nat.mod_lt _ (by decide))) ?_
      conv => whnf
      refine AIn.mk' (p / 8) rfl (by rw [List.length_map, pk_len]; exact hat.2) ?_
      conv => whnf
      refine ARd.mapAt (pk_get hat.2) ?_
      conv => whnf
      refine AAr.i64 (by omega) ?_
      conv => whnf
      have hbk : bitA m w l p = d.testBit k := by rw [← hp]; exact hbit k hkw
      refine aback (k + 1) [] [] rfl (by show w - (k + 1) < w - k; omega) hkw ⟨⟨rfl, rfl, ?_⟩, ⟨rfl, rfl, rfl⟩, trivial⟩ ⟨rfl, trivial⟩
      rw [show i * w + (k + 1) = p + 1 by omega, pk_row, hbk]
    · have : k = w := by simp at h; omega
      subst this
      conv => whnf
      refine AAr.i64 (by omega) ?_
      conv => whnf
      refine aback (i + 1) [] [] rfl (by show l.length - (i + 1) < l.length - i; omega) hlt ⟨⟨rfl, rfl, ?_⟩, ⟨rfl, rfl, rfl⟩, trivial⟩ ⟨rfl, trivial⟩
      rw [show (i + 1) * k = i * k + k by rw [Nat.add_mul, Nat.one_mul]]
  · have : i = l.length := by simp at h; omega
    subst this
    have hS : sz5 l.length w ≤ 100000 := by unfold sz5; omega
    conv => whnf
    refine VReq.mk (app_ok (by simp only [List.length_map, List.length_append, pk_len] at *; omega) (by kernel_rfl)) ?_
    conv => whnf
    have e : b ++ b5 l = b ++ num m ++ num (w : Int) ++ pk (bitA m w l) (sz5 l.length w) (l.length * w) := by
      unfold b5
      rw [hm, hwe]
      simp only [List.append_assoc]
    rw [e]
    refine aret [3] ⟨rfl, rfl, ?_⟩
    simp only [List.map_append]
end Go.Proofs.Ytmhpfadbmpipkaa.Cl
