/- The walks of package wire's number writing and of the reference's: own, groups, PutNumber. Condition: sizes up to 4000000 bytes. The walks of column's encoders: plain numbers, runs, steps, and the list of codecs. Condition: sizes. -/
import Derived.Test.YtmhpfadbmpipkaaGreatCl6
import Derived.Test.YtmhpfadbmpipkaaGreatAx10
import Derived.Test.YtmhpfadbmpipkaaGreatPlans
import Derived.Test.YtmhpfadbmpipkaaGreatProg
set_option linter.unusedVariables false
set_option linter.unusedSimpArgs false
namespace Go.Proofs.YtmhpfadbmpipkaaGreat.Cl
open Go Go.RowKit Go.Proofs Go.Proofs.YtmhpfadbmpipkaaGreat.Vc Go.Proofs.YtmhpfadbmpipkaaGreat.Ax
attribute [local irreducible] loadVar storeVar Instr.indexAt Instr.index Instr.sliceAt Instr.makeSlice Instr.lookup Instr.mapUpdate Instr.range Instr.next Instr.entry Instr.makeMap Builtin.append_ Builtin.copy_ Builtin.len_ Builtin.min_ Builtin.max_ Builtin.cap_ Builtin.delete_ Builtin.clear_ convert binOp eqGuard Op.unary Calls
theorem mixed : Tryz.prog.follows .mixedOrders = true := by kernel_rfl
def GC : Glob := ⟨0, fun _ => none⟩
abbrev iv (n : Int) : AV := .v (.int .i64 n)
abbrev bv (b : Bool) : AV := .v (.bool b)
abbrev uv (n : Nat) : AV := .v (.int .u64 (n : Int))
def enI (x : Int) : List FV := [.v (.int .i64 x)]
abbrev bs (b : By) : AV := .lst 1 (b.map enB)
abbrev li (l : Li) : AV := .lst 1 (l.map enI)
theorem AAr.to {k : IntKind} {x y : Int} {K : Int → Prop} (h : k.wrap x = y) (c : K y) : AAr k x K := ⟨by rw [h]; exact c⟩
set_option maxHeartbeats 4000000 in
set_option maxRecDepth 100000 in
theorem ownA (b more : By) (hb : b.length + more.length ≤ 4000000) : AFn Tryz.prog GC 38 [bs b, bs more] 0 [] (Own1 5 1 ((b ++ more).map enB)) := by
  refine afn_of Tryz.func38 rfl mixed (by kernel_rfl) ?_
  conv => whnf
  (repeat' (first | (refine And.intro ?_ ?_ <;> (conv => whnf)) | (refine vif_split (fun h => ?_) (fun h => ?_) <;> (try simp only [sEqD, cond_true, cond_false, Bool.not_eq_true', Bool.not_eq_false', decide_eq_true_eq, decide_eq_false_iff_not, beq_iff_eq, bne_iff_ne, beq_eq_false_iff_ne, bne_eq_false_iff_eq, ne_eq, Bool.not_eq_eq_eq_not, Bool.not_true, Bool.not_false, Bool.false_eq_true, Bool.true_eq_false, Decidable.not_not, gt_iff_lt, ge_iff_le, Int.not_lt, Int.not_le] at h) <;> (conv => whnf)) | (refine AAr.i64 (by first | omega | ((try simp only [List.length_map] at *); omega)) ?_; conv => whnf) | (refine AIn.mk' _ rfl (by first | omega | (simp only [List.length_map, List.length_append, List.length_cons, List.length_nil, List.length_take, List.length_drop, List.length_set, List.length_replicate]; omega) | (simp only [List.length_map, List.length_append, List.length_cons, List.length_nil, List.length_take, List.length_drop, List.length_set, List.length_replicate] at *; omega)) ?_; conv => whnf) | (refine ARd.mapAt (by assumption) ?_; conv => whnf) | (refine ARd.set (by (try simp only [List.length_map, List.length_append, List.length_cons, List.length_nil, List.length_take, List.length_drop, List.length_set, List.length_replicate] at *); omega) ?_; conv => whnf) | (refine ARd.map (by first | omega | (simp only [List.length_map] at *; omega)) ?_; conv => whnf) | (refine VReq.mk (by first | decide | omega) ?_; conv => whnf) | (refine AEq.mk (by kernel_rfl) rfl rfl ?_; conv => whnf) | (refine VReq.mk (app_ok (by (try simp only [List.length_map, List.length_append, List.length_cons, List.length_nil, List.length_take, List.length_drop, List.length_set, List.length_replicate] at *); omega) (by kernel_rfl)) ?_; conv => whnf)))
  refine AMk.cap (by_ := 1) 0 (b.length + more.length) rfl (by rw [List.length_map, List.length_map]; omega) (Nat.zero_le _) (by unfold maxLen; omega) ?_
  conv => whnf
  (repeat' (first | (refine And.intro ?_ ?_ <;> (conv => whnf)) | (refine vif_split (fun h => ?_) (fun h => ?_) <;> (try simp only [sEqD, cond_true, cond_false, Bool.not_eq_true', Bool.not_eq_false', decide_eq_true_eq, decide_eq_false_iff_not, beq_iff_eq, bne_iff_ne, beq_eq_false_iff_ne, bne_eq_false_iff_eq, ne_eq, Bool.not_eq_eq_eq_not, Bool.not_true, Bool.not_false, Bool.false_eq_true, Bool.true_eq_false, Decidable.not_not, gt_iff_lt, ge_iff_le, Int.not_lt, Int.not_le] at h) <;> (conv => whnf)) | (refine AAr.i64 (by first | omega | ((try simp only [List.length_map] at *); omega)) ?_; conv => whnf) | (refine AIn.mk' _ rfl (by first | omega | (simp only [List.length_map, List.length_append, List.length_cons, List.length_nil, List.length_take, List.length_drop, List.length_set, List.length_replicate]; omega) | (simp only [List.length_map, List.length_append, List.length_cons, List.length_nil, List.length_take, List.length_drop, List.length_set, List.length_replicate] at *; omega)) ?_; conv => whnf) | (refine ARd.mapAt (by assumption) ?_; conv => whnf) | (refine ARd.set (by (try simp only [List.length_map, List.length_append, List.length_cons, List.length_nil, List.length_take, List.length_drop, List.length_set, List.length_replicate] at *); omega) ?_; conv => whnf) | (refine ARd.map (by first | omega | (simp only [List.length_map] at *; omega)) ?_; conv => whnf) | (refine VReq.mk (by first | decide | omega) ?_; conv => whnf) | (refine AEq.mk (by kernel_rfl) rfl rfl ?_; conv => whnf) | (refine VReq.mk (app_ok (by (try simp only [List.length_map, List.length_append, List.length_cons, List.length_nil, List.length_take, List.length_drop, List.length_set, List.length_replicate] at *); omega) (by kernel_rfl)) ?_; conv => whnf)))
  rw [List.map_append]
  exact aend (.own 0) 1 _ [(0, .lab 2)] [] ⟨rfl, rfl, rfl⟩ rfl (by repeat' (first | rfl | trivial | apply And.intro)) (by repeat' (first | rfl | trivial | apply And.intro))
theorem p2_1 : (2 : Int) ^ min (Int.toNat 1) IntKind.u64.bits = 2 := by decide
theorem p2_7 : (2 : Int) ^ min (Int.toNat 7) IntKind.u64.bits = 128 := by decide
theorem p2_63 : (2 : Int) ^ min (Int.toNat 63) IntKind.u64.bits = 9223372036854775808 := by decide
/-- groups written so far, and what is left -/
def GI (f u : Nat) (out : By) : Prop := u < 2 * 128 ^ f ∧ f ≤ 9 ∧ out.length + f = 9
theorem GI.next {f u : Nat} {out : By} (h : GI f u out) (hu : 128 ≤ u) : ∃ g, f = g + 1 ∧ GI g (u / 128) (out ++ [UInt8.ofNat (128 + u % 128)]) ∧ out ++ grp f u = (out ++ [UInt8.ofNat (128 + u % 128)]) ++ grp g (u / 128) := by
  obtain ⟨h1, h2, h3⟩ := h
  cases f with
  | zero => simp at h1; omega
  | succ g =>
    refine ⟨g, rfl, ⟨?_, by omega, by simp; omega⟩, ?_⟩
    · rw [pow128] at h1; omega
    · rw [show grp (g + 1) u = UInt8.ofNat (128 + u % 128) :: grp g (u / 128) by unfold grp; rw [if_neg (by omega)]; cases g <;> rfl]; simp
theorem grp_last {f u : Nat} (h : u < 128) : grp f u = [UInt8.ofNat u] := by cases f with
  | zero => rfl
  | succ f => unfold grp; rw [if_pos h]
theorem GI.start {n : Int} (hn : I64 n) : GI 9 (zu n) [] ∧ [] ++ grp 9 (zu n) = num n := by
  have hz := zu_lt hn
  have e : (128 : Nat) ^ 9 = 9223372036854775808 := by decide
  exact ⟨⟨by rw [e]; omega, Nat.le_refl _, rfl⟩, rfl⟩
structure GX where
  f : Nat
  u : Nat
  out : By
theorem enB_snoc (out : By) (c : UInt8) : (out ++ [c]).map enB = out.map enB ++ [[FV.v (.int .u8 (c.toNat : Int))]] := by rw [List.map_append]; rfl
set_option maxHeartbeats 4000000 in
set_option maxRecDepth 100000 in
theorem groupsA (n : Int) (hn : I64 n) : AFn Tryz.prog GC 39 [iv n] 0 [] (Own1 5 1 ((num n).map enB)) := by
  have hz := zu_lt hn
  have hbits : bitsOp .xor .u64 (IntKind.u64.wrap (IntKind.u64.wrap n * 2 ^ min (Int.toNat 1) IntKind.u64.bits)) (IntKind.u64.wrap (n.fdiv (2 ^ min (Int.toNat 63) IntKind.u64.bits))) = (zu n : Int) := by
    rw [p2_1, p2_63]; exact zu_bits n hn
  refine afn_of Tryz.func39 rfl mixed (by kernel_rfl) ?_
  conv => whnf
  refine AAr.to rfl ?_
  conv => whnf
  (repeat' (first | (refine And.intro ?_ ?_ <;> (conv => whnf)) | (refine vif_split (fun h => ?_) (fun h => ?_) <;> (try simp only [sEqD, cond_true, cond_false, Bool.not_eq_true', Bool.not_eq_false', decide_eq_true_eq, decide_eq_false_iff_not, beq_iff_eq, bne_iff_ne, beq_eq_false_iff_ne, bne_eq_false_iff_eq, ne_eq, Bool.not_eq_eq_eq_not, Bool.not_true, Bool.not_false, Bool.false_eq_true, Bool.true_eq_false, Decidable.not_not, gt_iff_lt, ge_iff_le, Int.not_lt, Int.not_le] at h) <;> (conv => whnf)) | (refine AAr.i64 (by first | omega | ((try simp only [List.length_map] at *); omega)) ?_; conv => whnf) | (refine AIn.mk' _ rfl (by first | omega | (simp only [List.length_map, List.length_append, List.length_cons, List.length_nil, List.length_take, List.length_drop, List.length_set, List.length_replicate]; omega) | (simp only [List.length_map, List.length_append, List.length_cons, List.length_nil, List.length_take, List.length_drop, List.length_set, List.length_replicate] at *; omega)) ?_; conv => whnf) | (refine ARd.mapAt (by assumption) ?_; conv => whnf) | (refine ARd.set (by (try simp only [List.length_map, List.length_append, List.length_cons, List.length_nil, List.length_take, List.length_drop, List.length_set, List.length_replicate] at *); omega) ?_; conv => whnf) | (refine ARd.map (by first | omega | (simp only [List.length_map] at *; omega)) ?_; conv => whnf) | (refine VReq.mk (by first | decide | omega) ?_; conv => whnf) | (refine AEq.mk (by kernel_rfl) rfl rfl ?_; conv => whnf) | (refine VReq.mk (app_ok (by (try simp only [List.length_map, List.length_append, List.length_cons, List.length_nil, List.length_take, List.length_drop, List.length_set, List.length_replicate] at *); omega) (by kernel_rfl)) ?_; conv => whnf)))
  refine AAr.to rfl ?_
  conv => whnf
  (repeat' (first | (refine And.intro ?_ ?_ <;> (conv => whnf)) | (refine vif_split (fun h => ?_) (fun h => ?_) <;> (try simp only [sEqD, cond_true, cond_false, Bool.not_eq_true', Bool.not_eq_false', decide_eq_true_eq, decide_eq_false_iff_not, beq_iff_eq, bne_iff_ne, beq_eq_false_iff_ne, bne_eq_false_iff_eq, ne_eq, Bool.not_eq_eq_eq_not, Bool.not_true, Bool.not_false, Bool.false_eq_true, Bool.true_eq_false, Decidable.not_not, gt_iff_lt, ge_iff_le, Int.not_lt, Int.not_le] at h) <;> (conv => whnf)) | (refine AAr.i64 (by first | omega | ((try simp only [List.length_map] at *); omega)) ?_; conv => whnf) | (refine AIn.mk' _ rfl (by first | omega | (simp only [List.length_map, List.length_append, List.length_cons, List.length_nil, List.length_take, List.length_drop, List.length_set, List.length_replicate]; omega) | (simp only [List.length_map, List.length_append, List.length_cons, List.length_nil, List.length_take, List.length_drop, List.length_set, List.length_replicate] at *; omega)) ?_; conv => whnf) | (refine ARd.mapAt (by assumption) ?_; conv => whnf) | (refine ARd.set (by (try simp only [List.length_map, List.length_append, List.length_cons, List.length_nil, List.length_take, List.length_drop, List.length_set, List.length_replicate] at *); omega) ?_; conv => whnf) | (refine ARd.map (by first | omega | (simp only [List.length_map] at *; omega)) ?_; conv => whnf) | (refine VReq.mk (by first | decide | omega) ?_; conv => whnf) | (refine AEq.mk (by kernel_rfl) rfl rfl ?_; conv => whnf) | (refine VReq.mk (app_ok (by (try simp only [List.length_map, List.length_append, List.length_cons, List.length_nil, List.length_take, List.length_drop, List.length_set, List.length_replicate] at *); omega) (by kernel_rfl)) ?_; conv => whnf)))
  refine AAr.to rfl ?_
  conv => whnf
  refine aloop ws39_1 1 [3, 4] (fun x : GX => [(3, uv x.u), (4, .own 0)]) (fun x => [(0, .rows 5 1 (x.out.map enB))]) (fun x => GI x.f x.u x.out ∧ x.out ++ grp x.f x.u = num n) (fun x => x.f) [(0, .nil)] [] ⟨9, zu n, []⟩ (by kernel_rfl) (fun _ => rfl) rfl (GI.start hn) ⟨rfl, trivial⟩ ⟨congrArg (Value.int .u64) hbits, trivial, trivial⟩ ?_
  rintro ⟨f, u, out⟩ ⟨hg, hout⟩
  have hlen := hg.2.2
  conv => whnf
  refine vif_split (fun h => ?_) (fun h => ?_)
  · have hu : 128 ≤ u := by simp at h; omega
    obtain ⟨g, rfl, hg2, ho2⟩ := hg.next hu
    conv => whnf
    refine AAr.to rfl ?_
    conv => whnf
    (repeat' (first | (refine And.intro ?_ ?_ <;> (conv => whnf)) | (refine vif_split (fun h => ?_) (fun h => ?_) <;> (try simp only [sEqD, cond_true, cond_false, Bool.not_eq_true', Bool.not_eq_false', decide_eq_true_eq, decide_eq_false_iff_not, beq_iff_eq, bne_iff_ne, beq_eq_false_iff_ne, bne_eq_false_iff_eq, ne_eq, Bool.not_eq_eq_eq_not, Bool.not_true, Bool.not_false, Bool.false_eq_true, Bool.true_eq_false, Decidable.not_not, gt_iff_lt, ge_iff_le, Int.not_lt, Int.not_le] at h) <;> (conv => whnf)) | (refine AAr.i64 (by first | omega | ((try simp only [List.length_map] at *); omega)) ?_; conv => whnf) | (refine AIn.mk' _ rfl (by first | omega | (simp only [List.length_map, List.length_append, List.length_cons, List.length_nil, List.length_take, List.length_drop, List.length_set, List.length_replicate]; omega) | (simp only [List.length_map, List.length_append, List.length_cons, List.length_nil, List.length_take, List.length_drop, List.length_set, List.length_replicate] at *; omega)) ?_; conv => whnf) | (refine ARd.mapAt (by assumption) ?_; conv => whnf) | (refine ARd.set (by (try simp only [List.length_map, List.length_append, List.length_cons, List.length_nil, List.length_take, List.length_drop, List.length_set, List.length_replicate] at *); omega) ?_; conv => whnf) | (refine ARd.map (by first | omega | (simp only [List.length_map] at *; omega)) ?_; conv => whnf) | (refine VReq.mk (by first | decide | omega) ?_; conv => whnf) | (refine AEq.mk (by kernel_rfl) rfl rfl ?_; conv => whnf) | (refine VReq.mk (app_ok (by (try simp only [List.length_map, List.length_append, List.length_cons, List.length_nil, List.length_take, List.length_drop, List.length_set, List.length_replicate] at *); omega) (by kernel_rfl)) ?_; conv => whnf)))
    refine aback ⟨g, u / 128, out ++ [UInt8.ofNat (128 + u % 128)]⟩ [(0, .lab 2)] [] rfl (Nat.lt_succ_self g) ⟨hg2, by rw [← ho2]; exact hout⟩ ?_ ?_
    · refine ⟨⟨rfl, rfl, ?_⟩, trivial⟩
      rw [enB_snoc, ← grp_byte]
    · refine ⟨congrArg (Value.int .u64) (by rw [p2_7]; exact shr7 u), ?_⟩
      repeat' (first | rfl | trivial | apply And.intro)
  · have hu : u < 128 := by simp at h; omega
    conv => whnf
    refine AAr.to (last_byte hu) ?_
    conv => whnf
    (repeat' (first | (refine And.intro ?_ ?_ <;> (conv => whnf)) | (refine vif_split (fun h => ?_) (fun h => ?_) <;> (try simp only [sEqD, cond_true, cond_false, Bool.not_eq_true', Bool.not_eq_false', decide_eq_true_eq, decide_eq_false_iff_not, beq_iff_eq, bne_iff_ne, beq_eq_false_iff_ne, bne_eq_false_iff_eq, ne_eq, Bool.not_eq_eq_eq_not, Bool.not_true, Bool.not_false, Bool.false_eq_true, Bool.true_eq_false, Decidable.not_not, gt_iff_lt, ge_iff_le, Int.not_lt, Int.not_le] at h) <;> (conv => whnf)) | (refine AAr.i64 (by first | omega | ((try simp only [List.length_map] at *); omega)) ?_; conv => whnf) | (refine AIn.mk' _ rfl (by first | omega | (simp only [List.length_map, List.length_append, List.length_cons, List.length_nil, List.length_take, List.length_drop, List.length_set, List.length_replicate]; omega) | (simp only [List.length_map, List.length_append, List.length_cons, List.length_nil, List.length_take, List.length_drop, List.length_set, List.length_replicate] at *; omega)) ?_; conv => whnf) | (refine ARd.mapAt (by assumption) ?_; conv => whnf) | (refine ARd.set (by (try simp only [List.length_map, List.length_append, List.length_cons, List.length_nil, List.length_take, List.length_drop, List.length_set, List.length_replicate] at *); omega) ?_; conv => whnf) | (refine ARd.map (by first | omega | (simp only [List.length_map] at *; omega)) ?_; conv => whnf) | (refine VReq.mk (by first | decide | omega) ?_; conv => whnf) | (refine AEq.mk (by kernel_rfl) rfl rfl ?_; conv => whnf) | (refine VReq.mk (app_ok (by (try simp only [List.length_map, List.length_append, List.length_cons, List.length_nil, List.length_take, List.length_drop, List.length_set, List.length_replicate] at *); omega) (by kernel_rfl)) ?_; conv => whnf)))
    refine aend (.own 0) 1 _ [(0, .lab 2)] [] ⟨rfl, rfl, rfl⟩ rfl ⟨⟨rfl, rfl, ?_⟩, trivial⟩ (by repeat' (first | rfl | trivial | apply And.intro))
    rw [← hout, grp_last hu, enB_snoc]
set_option maxHeartbeats 4000000 in
set_option maxRecDepth 100000 in
theorem putA (b : By) (n : Int) (hn : I64 n) (hb : b.length ≤ 3999990) : AFn Tryz.prog GC 17 [bs b, iv n] 0 [] (Own1 5 1 ((b ++ num n).map enB)) := by
  have hl := (num_len n).2
  refine afn_of Tryz.func17 rfl mixed (by kernel_rfl) ?_
  conv => whnf
  (refine acallF [] (by kernel_rfl) (groupsA n hn) ?_ ?_; (focus (repeat' (first | rfl | trivial | apply And.intro))))
  rintro _ _ _ ⟨rfl, rfl, rfl⟩
  conv => whnf
  (refine acallF [0] (by kernel_rfl) (ownA b (num n) (by omega)) ?_ ?_; (focus (repeat' (first | rfl | trivial | apply And.intro))))
  rintro _ _ _ ⟨rfl, rfl, rfl⟩
  conv => whnf
  exact aend (.own 0) 1 _ [(0, .lab 1)] [] ⟨rfl, rfl, rfl⟩ rfl (by repeat' (first | rfl | trivial | apply And.intro)) (by repeat' (first | rfl | trivial | apply And.intro))
theorem and_byte {u : Nat} (hu : u < 18446744073709551616) : IntKind.u8.wrap (bitsOp .and .u64 (u : Int) 127) = ((u % 128 : Nat) : Int) := by
  have e : (127 : Int) = ((127 : Nat) : Int) := rfl
  rw [e, bo_and64 u 127 hu (by decide), and127, wr_u8 (by omega)]
theorem or_byte {u : Nat} : bitsOp .or .u8 ((u % 128 : Nat) : Int) 128 = ((UInt8.ofNat (128 + u % 128)).toNat : Int) := by
  have e2 : (128 : Int) = ((128 : Nat) : Int) := rfl
  rw [e2, bo_or8 _ _ (by omega) (by omega), or128 (by omega), toNat_ofNat (by omega)]
  congr 1
  omega
theorem GI.u64 {f u : Nat} {out : By} (h : GI f u out) : u < 18446744073709551616 := by
  have e : (128 : Nat) ^ 9 = 9223372036854775808 := by decide
  have := Nat.pow_le_pow_right (show 0 < 128 by decide) h.2.1
  have := h.1
  omega
/-- the number's bits as the document has them -/
theorem zu_doc (n : Int) (hn : I64 n) : (n < 0 → bitsOp .xor .u64 (bif IntKind.u64.signed then -1 else IntKind.u64.max) (IntKind.u64.wrap (IntKind.u64.wrap n * 2 ^ min (Int.toNat 1) IntKind.u64.bits)) = (zu n : Int)) ∧ (¬ n < 0 → IntKind.u64.wrap (IntKind.u64.wrap n * 2 ^ min (Int.toNat 1) IntKind.u64.bits) = (zu n : Int)) := by
  have e : IntKind.u64.bits = 64 := rfl
  have s : IntKind.u64.signed = false := rfl
  have hm : IntKind.u64.max = ((18446744073709551615 : Nat) : Int) := by decide
  rw [p2_1]
  unfold I64 at hn
  unfold zu
  constructor
  · intro h
    have e1 : IntKind.u64.wrap (IntKind.u64.wrap n * 2) = ((18446744073709551616 - (-2 * n).toNat : Nat) : Int) := by
      simp only [IntKind.wrap, e, s, Bool.false_and, Bool.false_eq_true, if_false]; omega
    rw [if_pos h, e1, s, cond_false, hm, bo_xor64 _ _ (by omega) (by omega), Nat.xor_comm, xor_ones (by omega)]
    omega
  · intro h
    rw [if_neg h]
    simp only [IntKind.wrap, e, s, Bool.false_and, Bool.false_eq_true, if_false]; omega
set_option maxHeartbeats 4000000 in
set_option maxRecDepth 100000 in
theorem put2A (b : By) (n : Int) (hn : I64 n) (hb : b.length ≤ 3999990) : AFn Tryz.prog GC 26 [bs b, iv n] 0 [] (Own1 5 1 ((b ++ num n).map enB)) := by
  have hd := zu_doc n hn
  refine afn_of Tryz.func26 rfl mixed (by kernel_rfl) ?_
  conv => whnf
  (repeat' (first | (refine And.intro ?_ ?_ <;> (conv => whnf)) | (refine vif_split (fun h => ?_) (fun h => ?_) <;> (try simp only [sEqD, cond_true, cond_false, Bool.not_eq_true', Bool.not_eq_false', decide_eq_true_eq, decide_eq_false_iff_not, beq_iff_eq, bne_iff_ne, beq_eq_false_iff_ne, bne_eq_false_iff_eq, ne_eq, Bool.not_eq_eq_eq_not, Bool.not_true, Bool.not_false, Bool.false_eq_true, Bool.true_eq_false, Decidable.not_not, gt_iff_lt, ge_iff_le, Int.not_lt, Int.not_le] at h) <;> (conv => whnf)) | (refine AAr.i64 (by first | omega | ((try simp only [List.length_map] at *); omega)) ?_; conv => whnf) | (refine AIn.mk' _ rfl (by first | omega | (simp only [List.length_map, List.length_append, List.length_cons, List.length_nil, List.length_take, List.length_drop, List.length_set, List.length_replicate]; omega) | (simp only [List.length_map, List.length_append, List.length_cons, List.length_nil, List.length_take, List.length_drop, List.length_set, List.length_replicate] at *; omega)) ?_; conv => whnf) | (refine ARd.mapAt (by assumption) ?_; conv => whnf) | (refine ARd.set (by (try simp only [List.length_map, List.length_append, List.length_cons, List.length_nil, List.length_take, List.length_drop, List.length_set, List.length_replicate] at *); omega) ?_; conv => whnf) | (refine ARd.map (by first | omega | (simp only [List.length_map] at *; omega)) ?_; conv => whnf) | (refine VReq.mk (by first | decide | omega) ?_; conv => whnf) | (refine AEq.mk (by kernel_rfl) rfl rfl ?_; conv => whnf) | (refine VReq.mk (app_ok (by (try simp only [List.length_map, List.length_append, List.length_cons, List.length_nil, List.length_take, List.length_drop, List.length_set, List.length_replicate] at *); omega) (by kernel_rfl)) ?_; conv => whnf)))
  refine AAr.to rfl ?_
  conv => whnf
  refine VReq.mk (by decide) ?_
  conv => whnf
  refine AAr.to rfl ?_
  conv => whnf
  refine vif_split (fun h => ?_) (fun h => ?_)
  all_goals
    have hu0 := (by simp at h; first | exact hd.1 (by omega) | exact hd.2 (by omega))
    conv => whnf
    refine aloop ws26_1 2 [0, 5] (fun x : GX => [(0, .own 1), (5, uv x.u)]) (fun x => [(1, .rows 5 1 ((b ++ x.out).map enB))]) (fun x => GI x.f x.u x.out ∧ x.out ++ grp x.f x.u = num n) (fun x => x.f) [(1, .lab 0)] [] ⟨9, zu n, []⟩ (by kernel_rfl) (fun _ => rfl) rfl (GI.start hn) ⟨⟨rfl, rfl, by rw [List.append_nil]⟩, trivial⟩ ⟨rfl, congrArg (Value.int .u64) hu0, trivial⟩ ?_
    rintro ⟨f, u, out⟩ ⟨hg, hout⟩
    have hlen := hg.2.2
    have h64 := hg.u64
    conv => whnf
    refine vif_split (fun h => ?_) (fun h => ?_)
    · have hu : 128 ≤ u := by simp at h; omega
      obtain ⟨g, rfl, hg2, ho2⟩ := hg.next hu
      conv => whnf
      refine AAr.to (and_byte h64) ?_
      conv => whnf
      (repeat' (first | (refine And.intro ?_ ?_ <;> (conv => whnf)) | (refine vif_split (fun h => ?_) (fun h => ?_) <;> (try simp only [sEqD, cond_true, cond_false, Bool.not_eq_true', Bool.not_eq_false', decide_eq_true_eq, decide_eq_false_iff_not, beq_iff_eq, bne_iff_ne, beq_eq_false_iff_ne, bne_eq_false_iff_eq, ne_eq, Bool.not_eq_eq_eq_not, Bool.not_true, Bool.not_false, Bool.false_eq_true, Bool.true_eq_false, Decidable.not_not, gt_iff_lt, ge_iff_le, Int.not_lt, Int.not_le] at h) <;> (conv => whnf)) | (refine AAr.i64 (by first | omega | ((try simp only [List.length_map] at *); omega)) ?_; conv => whnf) | (refine AIn.mk' _ rfl (by first | omega | (simp only [List.length_map, List.length_append, List.length_cons, List.length_nil, List.length_take, List.length_drop, List.length_set, List.length_replicate]; omega) | (simp only [List.length_map, List.length_append, List.length_cons, List.length_nil, List.length_take, List.length_drop, List.length_set, List.length_replicate] at *; omega)) ?_; conv => whnf) | (refine ARd.mapAt (by assumption) ?_; conv => whnf) | (refine ARd.set (by (try simp only [List.length_map, List.length_append, List.length_cons, List.length_nil, List.length_take, List.length_drop, List.length_set, List.length_replicate] at *); omega) ?_; conv => whnf) | (refine ARd.map (by first | omega | (simp only [List.length_map] at *; omega)) ?_; conv => whnf) | (refine VReq.mk (by first | decide | omega) ?_; conv => whnf) | (refine AEq.mk (by kernel_rfl) rfl rfl ?_; conv => whnf) | (refine VReq.mk (app_ok (by (try simp only [List.length_map, List.length_append, List.length_cons, List.length_nil, List.length_take, List.length_drop, List.length_set, List.length_replicate] at *); omega) (by kernel_rfl)) ?_; conv => whnf)))
      refine aback ⟨g, u / 128, out ++ [UInt8.ofNat (128 + u % 128)]⟩ [(1, .lab 3)] [] rfl (Nat.lt_succ_self g) ⟨hg2, by rw [← ho2]; exact hout⟩ ?_ ?_
      · refine ⟨⟨rfl, rfl, ?_⟩, trivial⟩
        rw [← List.append_assoc, enB_snoc, ← or_byte]
      · refine ⟨rfl, congrArg (Value.int .u64) (by rw [p2_7]; exact shr7 u), trivial⟩
    · have hu : u < 128 := by simp at h; omega
      conv => whnf
      refine AAr.to (last_byte hu) ?_
      conv => whnf
      (repeat' (first | (refine And.intro ?_ ?_ <;> (conv => whnf)) | (refine vif_split (fun h => ?_) (fun h => ?_) <;> (try simp only [sEqD, cond_true, cond_false, Bool.not_eq_true', Bool.not_eq_false', decide_eq_true_eq, decide_eq_false_iff_not, beq_iff_eq, bne_iff_ne, beq_eq_false_iff_ne, bne_eq_false_iff_eq, ne_eq, Bool.not_eq_eq_eq_not, Bool.not_true, Bool.not_false, Bool.false_eq_true, Bool.true_eq_false, Decidable.not_not, gt_iff_lt, ge_iff_le, Int.not_lt, Int.not_le] at h) <;> (conv => whnf)) | (refine AAr.i64 (by first | omega | ((try simp only [List.length_map] at *); omega)) ?_; conv => whnf) | (refine AIn.mk' _ rfl (by first | omega | (simp only [List.length_map, List.length_append, List.length_cons, List.length_nil, List.length_take, List.length_drop, List.length_set, List.length_replicate]; omega) | (simp only [List.length_map, List.length_append, List.length_cons, List.length_nil, List.length_take, List.length_drop, List.length_set, List.length_replicate] at *; omega)) ?_; conv => whnf) | (refine ARd.mapAt (by assumption) ?_; conv => whnf) | (refine ARd.set (by (try simp only [List.length_map, List.length_append, List.length_cons, List.length_nil, List.length_take, List.length_drop, List.length_set, List.length_replicate] at *); omega) ?_; conv => whnf) | (refine ARd.map (by first | omega | (simp only [List.length_map] at *; omega)) ?_; conv => whnf) | (refine VReq.mk (by first | decide | omega) ?_; conv => whnf) | (refine AEq.mk (by kernel_rfl) rfl rfl ?_; conv => whnf) | (refine VReq.mk (app_ok (by (try simp only [List.length_map, List.length_append, List.length_cons, List.length_nil, List.length_take, List.length_drop, List.length_set, List.length_replicate] at *); omega) (by kernel_rfl)) ?_; conv => whnf)))
      refine aend (.own 0) 1 _ [(0, .lab 3)] [] ⟨rfl, rfl, rfl⟩ rfl ⟨⟨rfl, rfl, ?_⟩, trivial⟩ (by repeat' (first | rfl | trivial | apply And.intro))
      rw [← hout, grp_last hu, ← List.append_assoc, enB_snoc]
end Go.Proofs.YtmhpfadbmpipkaaGreat.Cl

namespace Go.Proofs.YtmhpfadbmpipkaaGreat.Cl
open Go Go.RowKit Go.Proofs Go.Proofs.YtmhpfadbmpipkaaGreat.Vc Go.Proofs.YtmhpfadbmpipkaaGreat.Ax
attribute [local irreducible] loadVar storeVar Instr.indexAt Instr.index Instr.sliceAt Instr.makeSlice Instr.lookup Instr.mapUpdate Instr.range Instr.next Instr.entry Instr.makeMap Builtin.append_ Builtin.copy_ Builtin.len_ Builtin.min_ Builtin.max_ Builtin.cap_ Builtin.delete_ Builtin.clear_ convert binOp eqGuard Op.unary Calls
structure LX where
  k : Nat
  p : Int
  out : By
theorem b1_snoc (l : Li) (x : Int) : b1 (l ++ [x]) = b1 l ++ num x := by simp [b1]
theorem b1_take {l : Li} {k : Nat} (h : k < l.length) : b1 (l.take (k + 1)) = b1 (l.take k) ++ num l[k] := by rw [List.take_succ_eq_append_getElem h, b1_snoc]
theorem b1_take_len (l : Li) (k : Nat) : (b1 (l.take k)).length ≤ 10 * l.length := by
  have := b1_len (l.take k); rw [List.length_take] at this; omega
set_option maxHeartbeats 4000000 in
set_option maxRecDepth 100000 in
theorem putPlainA (b : By) (l : Li) (hl : AllI l) (hs : b.length + 10 * l.length ≤ 3000000) : AFn Tryz.prog GC 50 [bs b, li l] 0 [] (Is (bs (b ++ b1 l))) := by
  refine afn_of Tryz.func50 rfl mixed (by kernel_rfl) ?_
  conv => whnf
  refine aloop ws50_1 0 [0, 9] (fun k : Nat => [(0, bs (b ++ b1 (l.take k))), (9, iv k)]) (fun _ => []) (fun k => k ≤ l.length) (fun k => l.length - k) [] [] 0 (by kernel_rfl) (fun _ => rfl) rfl (Nat.zero_le _) trivial ⟨⟨rfl, by simp [b1]⟩, rfl, trivial⟩ ?_
  rintro k hk
  have hbl := b1_take_len l k
  conv => whnf
  refine vif_split (fun hlt => ?_) (fun hge => ?_)
  · have hlt : k < l.length := by simpa using hlt
    conv => whnf
    (repeat' (first | (refine And.intro ?_ ?_ <;> (conv => whnf)) | (refine vif_split (fun h => ?_) (fun h => ?_) <;> (try simp only [sEqD, cond_true, cond_false, Bool.not_eq_true', Bool.not_eq_false', decide_eq_true_eq, decide_eq_false_iff_not, beq_iff_eq, bne_iff_ne, beq_eq_false_iff_ne, bne_eq_false_iff_eq, ne_eq, Bool.not_eq_eq_eq_not, Bool.not_true, Bool.not_false, Bool.false_eq_true, Bool.true_eq_false, Decidable.not_not, gt_iff_lt, ge_iff_le, Int.not_lt, Int.not_le] at h) <;> (conv => whnf)) | (refine AAr.i64 (by first | omega | ((try simp only [List.length_map] at *); omega)) ?_; conv => whnf) | (refine AIn.mk' _ rfl (by first | omega | (simp only [List.length_map, List.length_append, List.length_cons, List.length_nil, List.length_take, List.length_drop, List.length_set, List.length_replicate]; omega) | (simp only [List.length_map, List.length_append, List.length_cons, List.length_nil, List.length_take, List.length_drop, List.length_set, List.length_replicate] at *; omega)) ?_; conv => whnf) | (refine ARd.mapAt (by assumption) ?_; conv => whnf) | (refine ARd.set (by (try simp only [List.length_map, List.length_append, List.length_cons, List.length_nil, List.length_take, List.length_drop, List.length_set, List.length_replicate] at *); omega) ?_; conv => whnf) | (refine ARd.map (by first | omega | (simp only [List.length_map] at *; omega)) ?_; conv => whnf) | (refine VReq.mk (by first | decide | omega) ?_; conv => whnf) | (refine AEq.mk (by kernel_rfl) rfl rfl ?_; conv => whnf) | (refine VReq.mk (app_ok (by (try simp only [List.length_map, List.length_append, List.length_cons, List.length_nil, List.length_take, List.length_drop, List.length_set, List.length_replicate] at *); omega) (by kernel_rfl)) ?_; conv => whnf)))
    (refine acallF [] (by kernel_rfl) (putA (b ++ b1 (l.take k)) l[k] (hl _ (List.getElem_mem hlt)) (by rw [List.length_append]; omega)) ?_ ?_; (focus (repeat' (first | rfl | trivial | apply And.intro))))
    rintro _ _ _ ⟨rfl, rfl, rfl⟩
    conv => whnf
    (repeat' (first | (refine And.intro ?_ ?_ <;> (conv => whnf)) | (refine vif_split (fun h => ?_) (fun h => ?_) <;> (try simp only [sEqD, cond_true, cond_false, Bool.not_eq_true', Bool.not_eq_false', decide_eq_true_eq, decide_eq_false_iff_not, beq_iff_eq, bne_iff_ne, beq_eq_false_iff_ne, bne_eq_false_iff_eq, ne_eq, Bool.not_eq_eq_eq_not, Bool.not_true, Bool.not_false, Bool.false_eq_true, Bool.true_eq_false, Decidable.not_not, gt_iff_lt, ge_iff_le, Int.not_lt, Int.not_le] at h) <;> (conv => whnf)) | (refine AAr.i64 (by first | omega | ((try simp only [List.length_map] at *); omega)) ?_; conv => whnf) | (refine AIn.mk' _ rfl (by first | omega | (simp only [List.length_map, List.length_append, List.length_cons, List.length_nil, List.length_take, List.length_drop, List.length_set, List.length_replicate]; omega) | (simp only [List.length_map, List.length_append, List.length_cons, List.length_nil, List.length_take, List.length_drop, List.length_set, List.length_replicate] at *; omega)) ?_; conv => whnf) | (refine ARd.mapAt (by assumption) ?_; conv => whnf) | (refine ARd.set (by (try simp only [List.length_map, List.length_append, List.length_cons, List.length_nil, List.length_take, List.length_drop, List.length_set, List.length_replicate] at *); omega) ?_; conv => whnf) | (refine ARd.map (by first | omega | (simp only [List.length_map] at *; omega)) ?_; conv => whnf) | (refine VReq.mk (by first | decide | omega) ?_; conv => whnf) | (refine AEq.mk (by kernel_rfl) rfl rfl ?_; conv => whnf) | (refine VReq.mk (app_ok (by (try simp only [List.length_map, List.length_append, List.length_cons, List.length_nil, List.length_take, List.length_drop, List.length_set, List.length_replicate] at *); omega) (by kernel_rfl)) ?_; conv => whnf)))
    refine aback (k + 1) [] [0] rfl (by show l.length - (k + 1) < l.length - k; omega) hlt trivial ⟨⟨rfl, rfl, by rw [b1_take hlt, List.append_assoc]⟩, rfl, trivial⟩
  · have : k = l.length := by simp at hge; omega
    subst this
    conv => whnf
    rw [List.take_length]
    exact aret [] (by repeat' (first | rfl | trivial | apply And.intro))
theorem drop_cons {l : Li} {k : Nat} (h : k < l.length) : l.drop k = l[k] :: l.drop (k + 1) := List.drop_eq_getElem_cons h
set_option maxHeartbeats 4000000 in
set_option maxRecDepth 100000 in
theorem putStepsA (b : By) (l : Li) (hs : b.length + 10 * l.length ≤ 3000000) : AFn Tryz.prog GC 54 [bs b, li l] 0 [] (Is (bs (b ++ b3 l))) := by
  refine afn_of Tryz.func54 rfl mixed (by kernel_rfl) ?_
  conv => whnf
  refine aloop ws54_1 0 [0, 5, 10] (fun x : LX => [(0, bs x.out), (5, iv x.p), (10, iv x.k)]) (fun _ => []) (fun x => x.k ≤ l.length ∧ x.out ++ st x.p (l.drop x.k) = b ++ b3 l) (fun x => l.length - x.k) [] [] ⟨0, 0, b⟩ (by kernel_rfl) (fun _ => rfl) rfl ⟨Nat.zero_le _, rfl⟩ trivial ⟨⟨rfl, rfl⟩, rfl, rfl, trivial⟩ ?_
  rintro ⟨k, p, out⟩ ⟨hk, ho⟩
  change k ≤ l.length at hk
  change out ++ st p (l.drop k) = b ++ b3 l at ho
  have hbl := st_len l 0
  have hol : out.length ≤ b.length + 10 * l.length := by have := congrArg List.length ho; simp only [List.length_append, b3] at this; omega
  conv => whnf
  refine vif_split (fun hlt => ?_) (fun hge => ?_)
  · have hlt : k < l.length := by simp at hlt; omega
    simp only [drop_cons hlt, st] at ho
    conv => whnf
    (repeat' (first | (refine And.intro ?_ ?_ <;> (conv => whnf)) | (refine vif_split (fun h => ?_) (fun h => ?_) <;> (try simp only [sEqD, cond_true, cond_false, Bool.not_eq_true', Bool.not_eq_false', decide_eq_true_eq, decide_eq_false_iff_not, beq_iff_eq, bne_iff_ne, beq_eq_false_iff_ne, bne_eq_false_iff_eq, ne_eq, Bool.not_eq_eq_eq_not, Bool.not_true, Bool.not_false, Bool.false_eq_true, Bool.true_eq_false, Decidable.not_not, gt_iff_lt, ge_iff_le, Int.not_lt, Int.not_le] at h) <;> (conv => whnf)) | (refine AAr.i64 (by first | omega | ((try simp only [List.length_map] at *); omega)) ?_; conv => whnf) | (refine AIn.mk' _ rfl (by first | omega | (simp only [List.length_map, List.length_append, List.length_cons, List.length_nil, List.length_take, List.length_drop, List.length_set, List.length_replicate]; omega) | (simp only [List.length_map, List.length_append, List.length_cons, List.length_nil, List.length_take, List.length_drop, List.length_set, List.length_replicate] at *; omega)) ?_; conv => whnf) | (refine ARd.mapAt (by assumption) ?_; conv => whnf) | (refine ARd.set (by (try simp only [List.length_map, List.length_append, List.length_cons, List.length_nil, List.length_take, List.length_drop, List.length_set, List.length_replicate] at *); omega) ?_; conv => whnf) | (refine ARd.map (by first | omega | (simp only [List.length_map] at *; omega)) ?_; conv => whnf) | (refine VReq.mk (by first | decide | omega) ?_; conv => whnf) | (refine AEq.mk (by kernel_rfl) rfl rfl ?_; conv => whnf) | (refine VReq.mk (app_ok (by (try simp only [List.length_map, List.length_append, List.length_cons, List.length_nil, List.length_take, List.length_drop, List.length_set, List.length_replicate] at *); omega) (by kernel_rfl)) ?_; conv => whnf)))
    refine AAr.to rfl ?_
    conv => whnf
    (refine acallF [] (by kernel_rfl) (putA out (w64 (l[k] - p)) (w64_i _) (by omega)) ?_ ?_; (focus (repeat' (first | rfl | trivial | apply And.intro))))
    rintro _ _ _ ⟨rfl, rfl, rfl⟩
    conv => whnf
    (repeat' (first | (refine And.intro ?_ ?_ <;> (conv => whnf)) | (refine vif_split (fun h => ?_) (fun h => ?_) <;> (try simp only [sEqD, cond_true, cond_false, Bool.not_eq_true', Bool.not_eq_false', decide_eq_true_eq, decide_eq_false_iff_not, beq_iff_eq, bne_iff_ne, beq_eq_false_iff_ne, bne_eq_false_iff_eq, ne_eq, Bool.not_eq_eq_eq_not, Bool.not_true, Bool.not_false, Bool.false_eq_true, Bool.true_eq_false, Decidable.not_not, gt_iff_lt, ge_iff_le, Int.not_lt, Int.not_le] at h) <;> (conv => whnf)) | (refine AAr.i64 (by first | omega | ((try simp only [List.length_map] at *); omega)) ?_; conv => whnf) | (refine AIn.mk' _ rfl (by first | omega | (simp only [List.length_map, List.length_append, List.length_cons, List.length_nil, List.length_take, List.length_drop, List.length_set, List.length_replicate]; omega) | (simp only [List.length_map, List.length_append, List.length_cons, List.length_nil, List.length_take, List.length_drop, List.length_set, List.length_replicate] at *; omega)) ?_; conv => whnf) | (refine ARd.mapAt (by assumption) ?_; conv => whnf) | (refine ARd.set (by (try simp only [List.length_map, List.length_append, List.length_cons, List.length_nil, List.length_take, List.length_drop, List.length_set, List.length_replicate] at *); omega) ?_; conv => whnf) | (refine ARd.map (by first | omega | (simp only [List.length_map] at *; omega)) ?_; conv => whnf) | (refine VReq.mk (by first | decide | omega) ?_; conv => whnf) | (refine AEq.mk (by kernel_rfl) rfl rfl ?_; conv => whnf) | (refine VReq.mk (app_ok (by (try simp only [List.length_map, List.length_append, List.length_cons, List.length_nil, List.length_take, List.length_drop, List.length_set, List.length_replicate] at *); omega) (by kernel_rfl)) ?_; conv => whnf)))
    refine aback ⟨k + 1, l[k], out ++ num (w64 (l[k] - p))⟩ [] [0] rfl (by show l.length - (k + 1) < l.length - k; omega) ⟨hlt, by rw [← ho, List.append_assoc]⟩ trivial ⟨⟨rfl, rfl, rfl⟩, rfl, rfl, trivial⟩
  · have : k = l.length := by simp at hge; omega
    subst this
    simp only [List.drop_length, st, List.append_nil] at ho
    conv => whnf
    rw [← ho]
    exact aret [] (by repeat' (first | rfl | trivial | apply And.intro))
/-- a run of equal numbers from i to k -/
def RunI (l : Li) (i k : Nat) : Prop := i ≤ k ∧ k ≤ l.length ∧ l.drop i = List.replicate (k - i) (l.getD i 0) ++ l.drop k
theorem RunI.next {l : Li} {i k : Nat} (h : RunI l i k) (hk : k < l.length) (e : l[k] = l.getD i 0) : RunI l i (k + 1) := by
  obtain ⟨h1, h2, h3⟩ := h
  refine ⟨by omega, hk, ?_⟩
  rw [h3, drop_cons hk, e, show k + 1 - i = (k - i) + 1 by omega, List.replicate_succ']
  simp
theorem RunI.fin {l : Li} {i k : Nat} (h : RunI l i k) (hi : i < l.length) (e : ∀ hk : k < l.length, l[k] ≠ l.getD i 0) : i < k ∧ b2 (l.drop i) = num (l.getD i 0) ++ (num ((k - i : Nat) : Int) ++ b2 (l.drop k)) := by
  obtain ⟨h1, h2, h3⟩ := h
  have hlt : i < k := by
    rcases Nat.lt_or_ge i k with h | h
    · exact h
    · have : k = i := by omega
      subst this
      exact absurd (by rw [List.getD_eq_getElem?_getD, List.getElem?_eq_getElem hi]; rfl) (e hi)
  refine ⟨hlt, ?_⟩
  obtain ⟨m, hm⟩ : ∃ m, k - i = m + 1 := ⟨k - i - 1, by omega⟩
  rw [h3, hm]
  unfold b2
  rw [rl_rep _ m _ (by
    rcases Nat.lt_or_ge k l.length with h | h
    · rw [drop_cons h]; intro e2; exact e h (by simpa [List.getElem?_eq_getElem h] using e2)
    · rw [List.drop_eq_nil_of_le h]; simp)]
  simp [enP]
set_option maxHeartbeats 4000000 in
set_option maxRecDepth 100000 in
theorem putRunsA (b : By) (l : Li) (hl : AllI l) (hs : b.length + 20 * l.length ≤ 3000000) : AFn Tryz.prog GC 52 [bs b, li l] 0 [] (Is (bs (b ++ b2 l))) := by
  have hbl := b2_len l
  refine afn_of Tryz.func52 rfl mixed (by kernel_rfl) ?_
  conv => whnf
  refine aloop ws52_1 0 [0, 5] (fun x : LX => [(0, bs x.out), (5, iv x.k)]) (fun _ => []) (fun x => x.k ≤ l.length ∧ x.out ++ b2 (l.drop x.k) = b ++ b2 l) (fun x => l.length - x.k) [] [] ⟨0, 0, b⟩ (by kernel_rfl) (fun _ => rfl) rfl ⟨Nat.zero_le _, rfl⟩ trivial ⟨⟨rfl, rfl⟩, rfl, trivial⟩ ?_
  rintro ⟨i, p, out⟩ ⟨hi, ho⟩
  change i ≤ l.length at hi
  change out ++ b2 (l.drop i) = b ++ b2 l at ho
  have hol : out.length ≤ b.length + 20 * l.length := by have := congrArg List.length ho; simp only [List.length_append] at this; omega
  conv => whnf
  (repeat' (first | (refine And.intro ?_ ?_ <;> (conv => whnf)) | (refine vif_split (fun h => ?_) (fun h => ?_) <;> (try simp only [sEqD, cond_true, cond_false, Bool.not_eq_true', Bool.not_eq_false', decide_eq_true_eq, decide_eq_false_iff_not, beq_iff_eq, bne_iff_ne, beq_eq_false_iff_ne, bne_eq_false_iff_eq, ne_eq, Bool.not_eq_eq_eq_not, Bool.not_true, Bool.not_false, Bool.false_eq_true, Bool.true_eq_false, Decidable.not_not, gt_iff_lt, ge_iff_le, Int.not_lt, Int.not_le] at h) <;> (conv => whnf)) | (refine AAr.i64 (by first | omega | ((try simp only [List.length_map] at *); omega)) ?_; conv => whnf) | (refine AIn.mk' _ rfl (by first | omega | (simp only [List.length_map, List.length_append, List.length_cons, List.length_nil, List.length_take, List.length_drop, List.length_set, List.length_replicate]; omega) | (simp only [List.length_map, List.length_append, List.length_cons, List.length_nil, List.length_take, List.length_drop, List.length_set, List.length_replicate] at *; omega)) ?_; conv => whnf) | (refine ARd.mapAt (by assumption) ?_; conv => whnf) | (refine ARd.set (by (try simp only [List.length_map, List.length_append, List.length_cons, List.length_nil, List.length_take, List.length_drop, List.length_set, List.length_replicate] at *); omega) ?_; conv => whnf) | (refine ARd.map (by first | omega | (simp only [List.length_map] at *; omega)) ?_; conv => whnf) | (refine VReq.mk (by first | decide | omega) ?_; conv => whnf) | (refine AEq.mk (by kernel_rfl) rfl rfl ?_; conv => whnf) | (refine VReq.mk (app_ok (by (try simp only [List.length_map, List.length_append, List.length_cons, List.length_nil, List.length_take, List.length_drop, List.length_set, List.length_replicate] at *); omega) (by kernel_rfl)) ?_; conv => whnf)))
  · have hlt : i < l.length := by simp at h; omega
    conv => whnf
    refine aloop ws52_2 0 [6] (fun k : Nat => [(6, iv k)]) (fun _ => []) (fun k => RunI l i k) (fun k => l.length - k) [] [] i (by kernel_rfl) (fun _ => rfl) rfl ⟨Nat.le_refl _, hi, by simp⟩ trivial ⟨rfl, trivial⟩ ?_
    rintro k hr
    have hk := hr.2.1
    conv => whnf
    (refine adraw pln52 [] (by kernel_rfl) ?_; conv => whnf)
    have hgi : l.getD i 0 = l[i] := by rw [List.getD_eq_getElem?_getD, List.getElem?_eq_getElem hlt]; rfl
    have done : (∀ hk : k < l.length, l[k] ≠ l.getD i 0) → i < k ∧ out ++ num l[i] ++ num ((k - i : Nat) : Int) ++ b2 (l.drop k) = b ++ b2 l := fun e => by
      have := hr.fin hlt e
      refine ⟨this.1, ?_⟩
      rw [← ho, this.2, hgi]
      simp only [List.append_assoc]
    (repeat' (first | (refine And.intro ?_ ?_ <;> (conv => whnf)) | (refine vif_split (fun h => ?_) (fun h => ?_) <;> (try simp only [sEqD, cond_true, cond_false, Bool.not_eq_true', Bool.not_eq_false', decide_eq_true_eq, decide_eq_false_iff_not, beq_iff_eq, bne_iff_ne, beq_eq_false_iff_ne, bne_eq_false_iff_eq, ne_eq, Bool.not_eq_eq_eq_not, Bool.not_true, Bool.not_false, Bool.false_eq_true, Bool.true_eq_false, Decidable.not_not, gt_iff_lt, ge_iff_le, Int.not_lt, Int.not_le] at h) <;> (conv => whnf)) | (refine AAr.i64 (by first | omega | ((try simp only [List.length_map] at *); omega)) ?_; conv => whnf) | (refine AIn.mk' _ rfl (by first | omega | (simp only [List.length_map, List.length_append, List.length_cons, List.length_nil, List.length_take, List.length_drop, List.length_set, List.length_replicate]; omega) | (simp only [List.length_map, List.length_append, List.length_cons, List.length_nil, List.length_take, List.length_drop, List.length_set, List.length_replicate] at *; omega)) ?_; conv => whnf) | (refine ARd.mapAt (by assumption) ?_; conv => whnf) | (refine ARd.set (by (try simp only [List.length_map, List.length_append, List.length_cons, List.length_nil, List.length_take, List.length_drop, List.length_set, List.length_replicate] at *); omega) ?_; conv => whnf) | (refine ARd.map (by first | omega | (simp only [List.length_map] at *; omega)) ?_; conv => whnf) | (refine VReq.mk (by first | decide | omega) ?_; conv => whnf) | (refine AEq.mk (by kernel_rfl) rfl rfl ?_; conv => whnf) | (refine VReq.mk (app_ok (by (try simp only [List.length_map, List.length_append, List.length_cons, List.length_nil, List.length_take, List.length_drop, List.length_set, List.length_replicate] at *); omega) (by kernel_rfl)) ?_; conv => whnf)))
    · rename_i h1
      have hkl : k < l.length := by simp at h1; omega
      have e : l[k] = l.getD i 0 := by rw [hgi]; exact h
      exact aback (k + 1) [] [] rfl (by show l.length - (k + 1) < l.length - k; omega) (hr.next hkl e) trivial ⟨rfl, trivial⟩
    all_goals
      have ⟨hik, hd⟩ := done (by first | (intro hkl e; rw [hgi] at e; exact absurd e h) | (intro hkl; simp at h; omega))
      have h10 := (num_len l[i]).2
      have h20 := congrArg List.length hd
      simp only [List.length_append] at h20
      (refine acallF [] (by kernel_rfl) (putA out l[i] (hl _ (List.getElem_mem hlt)) (by omega)) ?_ ?_; (focus (repeat' (first | rfl | trivial | apply And.intro))))
      rintro _ _ _ ⟨rfl, rfl, rfl⟩
      conv => whnf
      (repeat' (first | (refine And.intro ?_ ?_ <;> (conv => whnf)) | (refine vif_split (fun h => ?_) (fun h => ?_) <;> (try simp only [sEqD, cond_true, cond_false, Bool.not_eq_true', Bool.not_eq_false', decide_eq_true_eq, decide_eq_false_iff_not, beq_iff_eq, bne_iff_ne, beq_eq_false_iff_ne, bne_eq_false_iff_eq, ne_eq, Bool.not_eq_eq_eq_not, Bool.not_true, Bool.not_false, Bool.false_eq_true, Bool.true_eq_false, Decidable.not_not, gt_iff_lt, ge_iff_le, Int.not_lt, Int.not_le] at h) <;> (conv => whnf)) | (refine AAr.i64 (by first | omega | ((try simp only [List.length_map] at *); omega)) ?_; conv => whnf) | (refine AIn.mk' _ rfl (by first | omega | (simp only [List.length_map, List.length_append, List.length_cons, List.length_nil, List.length_take, List.length_drop, List.length_set, List.length_replicate]; omega) | (simp only [List.length_map, List.length_append, List.length_cons, List.length_nil, List.length_take, List.length_drop, List.length_set, List.length_replicate] at *; omega)) ?_; conv => whnf) | (refine ARd.mapAt (by assumption) ?_; conv => whnf) | (refine ARd.set (by (try simp only [List.length_map, List.length_append, List.length_cons, List.length_nil, List.length_take, List.length_drop, List.length_set, List.length_replicate] at *); omega) ?_; conv => whnf) | (refine ARd.map (by first | omega | (simp only [List.length_map] at *; omega)) ?_; conv => whnf) | (refine VReq.mk (by first | decide | omega) ?_; conv => whnf) | (refine AEq.mk (by kernel_rfl) rfl rfl ?_; conv => whnf) | (refine VReq.mk (app_ok (by (try simp only [List.length_map, List.length_append, List.length_cons, List.length_nil, List.length_take, List.length_drop, List.length_set, List.length_replicate] at *); omega) (by kernel_rfl)) ?_; conv => whnf)))
      have hp : AFn Tryz.prog GC 17 [bs (out ++ num l[i]), iv ((k : Int) - (i : Int))] 0 [] (Own1 5 1 ((out ++ num l[i] ++ num ((k - i : Nat) : Int)).map enB)) := by
        rw [← show ((k - i : Nat) : Int) = (k : Int) - (i : Int) by omega]
        exact putA (out ++ num l[i]) ((k - i : Nat) : Int) (i64_nat (by omega)) (by rw [List.length_append]; omega)
      (refine acallF [0] (by kernel_rfl) (hp) ?_ ?_; (focus (repeat' (first | rfl | trivial | apply And.intro))))
      rintro _ _ _ ⟨rfl, rfl, rfl⟩
      conv => whnf
      (repeat' (first | (refine And.intro ?_ ?_ <;> (conv => whnf)) | (refine vif_split (fun h => ?_) (fun h => ?_) <;> (try simp only [sEqD, cond_true, cond_false, Bool.not_eq_true', Bool.not_eq_false', decide_eq_true_eq, decide_eq_false_iff_not, beq_iff_eq, bne_iff_ne, beq_eq_false_iff_ne, bne_eq_false_iff_eq, ne_eq, Bool.not_eq_eq_eq_not, Bool.not_true, Bool.not_false, Bool.false_eq_true, Bool.true_eq_false, Decidable.not_not, gt_iff_lt, ge_iff_le, Int.not_lt, Int.not_le] at h) <;> (conv => whnf)) | (refine AAr.i64 (by first | omega | ((try simp only [List.length_map] at *); omega)) ?_; conv => whnf) | (refine AIn.mk' _ rfl (by first | omega | (simp only [List.length_map, List.length_append, List.length_cons, List.length_nil, List.length_take, List.length_drop, List.length_set, List.length_replicate]; omega) | (simp only [List.length_map, List.length_append, List.length_cons, List.length_nil, List.length_take, List.length_drop, List.length_set, List.length_replicate] at *; omega)) ?_; conv => whnf) | (refine ARd.mapAt (by assumption) ?_; conv => whnf) | (refine ARd.set (by (try simp only [List.length_map, List.length_append, List.length_cons, List.length_nil, List.length_take, List.length_drop, List.length_set, List.length_replicate] at *); omega) ?_; conv => whnf) | (refine ARd.map (by first | omega | (simp only [List.length_map] at *; omega)) ?_; conv => whnf) | (refine VReq.mk (by first | decide | omega) ?_; conv => whnf) | (refine AEq.mk (by kernel_rfl) rfl rfl ?_; conv => whnf) | (refine VReq.mk (app_ok (by (try simp only [List.length_map, List.length_append, List.length_cons, List.length_nil, List.length_take, List.length_drop, List.length_set, List.length_replicate] at *); omega) (by kernel_rfl)) ?_; conv => whnf)))
      exact aback ⟨k, 0, out ++ num l[i] ++ num ((k - i : Nat) : Int)⟩ [] [1] rfl (by show l.length - k < l.length - i; omega) ⟨hk, hd⟩ trivial ⟨⟨rfl, rfl, rfl⟩, rfl, trivial⟩
  · have : i = l.length := by simp at h; omega
    subst this
    simp only [List.drop_length, b2, rl, List.flatMap_nil, List.append_nil] at ho
    rw [ho]
    exact aret [] (by repeat' (first | rfl | trivial | apply And.intro))
def fnv (f : FuncId) : AV := .v (.func (.func f) #[] #[])
def cds : List AV := [fnv 50, fnv 51, fnv 52, fnv 53, fnv 54, fnv 55, fnv 56, fnv 57, fnv 58, fnv 59]
set_option maxHeartbeats 4000000 in
set_option maxRecDepth 100000 in
theorem codecsA : AFn Tryz.prog GC 35 [] 0 [] (Is (.agg cds)) := by
  refine afn_of Tryz.func35 rfl mixed (by kernel_rfl) ?_
  conv => whnf
  exact aret [] (by repeat' (first | rfl | trivial | apply And.intro))
end Go.Proofs.YtmhpfadbmpipkaaGreat.Cl
