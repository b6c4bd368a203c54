/- The walks of package wire's number writing and of the reference's: own, groups, PutNumber. Condition: sizes up to 4000000 bytes. -/
import Derived.Test.YtmhpfadbmpipkaaCl6
import Derived.Test.YtmhpfadbmpipkaaAx10
import Derived.Test.YtmhpfadbmpipkaaPlans
import Derived.Test.YtmhpfadbmpipkaaProg
set_option linter.unusedVariables false
set_option linter.unusedSimpArgs false
namespace Go.Proofs.Ytmhpfadbmpipkaa.Cl
open Go Go.RowKit Go.Proofs Go.Proofs.Ytmhpfadbmpipkaa.Vc Go.Proofs.Ytmhpfadbmpipkaa.Ax
attribute [local irreducible] loadVar storeVar Instr.indexAt Instr.index Instr.sliceAt Instr.makeSlice Instr.lookup Instr.mapUpdate Instr.range Instr.next Instr.entry Instr.makeMap Builtin.append_ Builtin.copy_ Builtin.len_ Builtin.min_ Builtin.max_ Builtin.cap_ Builtin.delete_ Builtin.clear_ convert binOp eqGuard Op.unary Calls
theorem mixed : Try.prog.follows .mixedOrders = true := by kernel_rfl
def GC : Glob := ⟨0, fun _ => none⟩
abbrev iv (n : Int) : AV := .v (.int .i64 n)
abbrev bv (b : Bool) : AV := .v (.bool b)
abbrev uv (n : Nat) : AV := .v (.int .u64 (n : Int))
def enI (x : Int) : List FV := [.v (.int .i64 x)]
abbrev bs (b : By) : AV := .lst 1 (b.map enB)
abbrev li (l : Li) : AV := .lst 1 (l.map enI)
theorem AAr.to {k : IntKind} {x y : Int} {K : Int → Prop} (h : k.wrap x = y) (c : K y) : AAr k x K := ⟨by rw [h]; exact c⟩
set_option maxHeartbeats 4000000 in
set_option maxRecDepth 100000 in
theorem ownA (b more : By) (hb : b.length + more.length ≤ 4000000) : AFn Try.prog GC 36 [bs b, bs more] 0 [] (Own1 5 1 ((b ++ more).map enB)) := by
  refine afn_of Try.func36 rfl mixed (by kernel_rfl) ?_
  conv => whnf
  (repeat' (first | (refine And.intro ?_ ?_ <;> (conv => whnf)) | (refine vif_split (fun h => ?_) (fun h => ?_) <;> (try simp only [sEqD, cond_true, cond_false, Bool.not_eq_true', Bool.not_eq_false', decide_eq_true_eq, decide_eq_false_iff_not, beq_iff_eq, bne_iff_ne, beq_eq_false_iff_ne, bne_eq_false_iff_eq, ne_eq, Bool.not_eq_eq_eq_not, Bool.not_true, Bool.not_false, Bool.false_eq_true, Bool.true_eq_false, Decidable.not_not, gt_iff_lt, ge_iff_le, Int.not_lt, Int.not_le] at h) <;> (conv => whnf)) | (refine AAr.i64 (by first | omega | ((try simp only [List.length_map] at *); omega)) ?_; conv => whnf) | (refine AIn.mk' _ rfl (by first | omega | (simp only [List.length_map, List.length_append, List.length_cons, List.length_nil, List.length_take, List.length_drop, List.length_set, List.length_replicate]; omega) | (simp only [List.length_map, List.length_append, List.length_cons, List.length_nil, List.length_take, List.length_drop, List.length_set, List.length_replicate] at *; omega)) ?_; conv => whnf) | (refine ARd.mapAt (by assumption) ?_; conv => whnf) | (refine ARd.set (by (try simp only [List.length_map, List.length_append, List.length_cons, List.length_nil, List.length_take, List.length_drop, List.length_set, List.length_replicate] at *); omega) ?_; conv => whnf) | (refine ARd.map (by first | omega | (simp only [List.length_map] at *; omega)) ?_; conv => whnf) | (refine VReq.mk (by first | decide | omega) ?_; conv => whnf) | (refine AEq.mk (by kernel_rfl) rfl rfl ?_; conv => whnf) | (refine VReq.mk (app_ok (by (try simp only [List.length_map, List.length_append, List.length_cons, List.length_nil, List.length_take, List.length_drop, List.length_set, List.length_replicate] at *); omega) (by kernel_rfl)) ?_; conv => whnf)))
  refine AMk.cap (by_ := 1) 0 (b.length + more.length) rfl (by rw [List.length_map, List.length_map]; omega) (Nat.zero_le _) (by unfold maxLen; omega) ?_
  conv => whnf
  (repeat' (first | (refine And.intro ?_ ?_ <;> (conv => whnf)) | (refine vif_split (fun h => ?_) (fun h => ?_) <;> (try simp only [sEqD, cond_true, cond_false, Bool.not_eq_true', Bool.not_eq_false', decide_eq_true_eq, decide_eq_false_iff_not, beq_iff_eq, bne_iff_ne, beq_eq_false_iff_ne, bne_eq_false_iff_eq, ne_eq, Bool.not_eq_eq_eq_not, Bool.not_true, Bool.not_false, Bool.false_eq_true, Bool.true_eq_false, Decidable.not_not, gt_iff_lt, ge_iff_le, Int.not_lt, Int.not_le] at h) <;> (conv => whnf)) | (refine AAr.i64 (by first | omega | ((try simp only [List.length_map] at *); omega)) ?_; conv => whnf) | (refine AIn.mk' _ rfl (by first | omega | (simp only [List.length_map, List.length_append, List.length_cons, List.length_nil, List.length_take, List.length_drop, List.length_set, List.length_replicate]; omega) | (simp only [List.length_map, List.length_append, List.length_cons, List.length_nil, List.length_take, List.length_drop, List.length_set, List.length_replicate] at *; omega)) ?_; conv => whnf) | (refine ARd.mapAt (by assumption) ?_; conv => whnf) | (refine ARd.set (by (try simp only [List.length_map, List.length_append, List.length_cons, List.length_nil, List.length_take, List.length_drop, List.length_set, List.length_replicate] at *); omega) ?_; conv => whnf) | (refine ARd.map (by first | omega | (simp only [List.length_map] at *; omega)) ?_; conv => whnf) | (refine VReq.mk (by first | decide | omega) ?_; conv => whnf) | (refine AEq.mk (by kernel_rfl) rfl rfl ?_; conv => whnf) | (refine VReq.mk (app_ok (by (try simp only [List.length_map, List.length_append, List.length_cons, List.length_nil, List.length_take, List.length_drop, List.length_set, List.length_replicate] at *); omega) (by kernel_rfl)) ?_; conv => whnf)))
  rw [List.map_append]
  exact aend (.own 0) 1 _ [(0, .lab 2)] [] ⟨rfl, rfl, rfl⟩ rfl (by repeat' (first | rfl | trivial | apply And.intro)) (by repeat' (first | rfl | trivial | apply And.intro))
theorem p2_1 : (2 : Int) ^ min (Int.toNat 1) IntKind.u64.bits = 2 := by decide
theorem p2_7 : (2 : Int) ^ min (Int.toNat 7) IntKind.u64.bits = 128 := by decide
theorem p2_63 : (2 : Int) ^ min (Int.toNat 63) IntKind.u64.bits = 9223372036854775808 := by decide
/-- groups written so far, and what is left -/
def GI (f u : Nat) (out : By) : Prop := u < 2 * 128 ^ f ∧ f ≤ 9 ∧ out.length + f = 9
theorem GI.next {f u : Nat} {out : By} (h : GI f u out) (hu : 128 ≤ u) : ∃ g, f = g + 1 ∧ GI g (u / 128) (out ++ [UInt8.ofNat (128 + u % 128)]) ∧ out ++ grp f u = (out ++ [UInt8.ofNat (128 + u % 128)]) ++ grp g (u / 128) := by
  obtain ⟨h1, h2, h3⟩ := h
  cases f with
  | zero => simp at h1; omega
  | succ g =>
    refine ⟨g, rfl, ⟨?_, by omega, by simp; omega⟩, ?_⟩
    · rw [pow128] at h1; omega
    · rw [show grp (g + 1) u = UInt8.ofNat (128 + u % 128) :: grp g (u / 128) by unfold grp; rw [if_neg (by omega)]; cases g <;> rfl]; simp
theorem grp_last {f u : Nat} (h : u < 128) : grp f u = [UInt8.ofNat u] := by cases f with
  | zero => rfl
  | succ f => unfold grp; rw [if_pos h]
theorem GI.start {n : Int} (hn : I64 n) : GI 9 (zu n) [] ∧ [] ++ grp 9 (zu n) = num n := by
  have hz := zu_lt hn
  have e : (128 : Nat) ^ 9 = 9223372036854775808 := by decide
  exact ⟨⟨by rw [e]; omega, Nat.le_refl _, rfl⟩, rfl⟩
structure GX where
  f : Nat
  u : Nat
  out : By
theorem enB_snoc (out : By) (c : UInt8) : (out ++ [c]).map enB = out.map enB ++ [[FV.v (.int .u8 (c.toNat : Int))]] := by rw [List.map_append]; rfl
set_option maxHeartbeats 4000000 in
set_option maxRecDepth 100000 in
theorem groupsA (n : Int) (hn : I64 n) : AFn Try.prog GC 37 [iv n] 0 [] (Own1 5 1 ((num n).map enB)) := by
  have hz := zu_lt hn
  have hbits : bitsOp .xor .u64 (IntKind.u64.wrap (IntKind.u64.wrap n * 2 ^ min (Int.toNat 1) IntKind.u64.bits)) (IntKind.u64.wrap (n.fdiv (2 ^ min (Int.toNat 63) IntKind.u64.bits))) = (zu n : Int) := by
    rw [p2_1, p2_63]; exact zu_bits n hn
  refine afn_of Try.func37 rfl mixed (by kernel_rfl) ?_
  conv => whnf
  refine AAr.to rfl ?_
  conv => whnf
  (repeat' (first | (refine And.intro ?_ ?_ <;> (conv => whnf)) | (refine vif_split (fun h => ?_) (fun h => ?_) <;> (try simp only [sEqD, cond_true, cond_false, Bool.not_eq_true', Bool.not_eq_false', decide_eq_true_eq, decide_eq_false_iff_not, beq_iff_eq, bne_iff_ne, beq_eq_false_iff_ne, bne_eq_false_iff_eq, ne_eq, Bool.not_eq_eq_eq_not, Bool.not_true, Bool.not_false, Bool.false_eq_true, Bool.true_eq_false, Decidable.not_not, gt_iff_lt, ge_iff_le, Int.not_lt, Int.not_le] at h) <;> (conv => whnf)) | (refine AAr.i64 (by first | omega | ((try simp only [List.length_map] at *); omega)) ?_; conv => whnf) | (refine AIn.mk' _ rfl (by first | omega | (simp only [List.length_map, List.length_append, List.length_cons, List.length_nil, List.length_take, List.length_drop, List.length_set, List.length_replicate]; omega) | (simp only [List.length_map, List.length_append, List.length_cons, List.length_nil, List.length_take, List.length_drop, List.length_set, List.length_replicate] at *; omega)) ?_; conv => whnf) | (refine ARd.mapAt (by assumption) ?_; conv => whnf) | (refine ARd.set (by (try simp only [List.length_map, List.length_append, List.length_cons, List.length_nil, List.length_take, List.length_drop, List.length_set, List.length_replicate] at *); omega) ?_; conv => whnf) | (refine ARd.map (by first | omega | (simp only [List.length_map] at *; omega)) ?_; conv => whnf) | (refine VReq.mk (by first | decide | omega) ?_; conv => whnf) | (refine AEq.mk (by kernel_rfl) rfl rfl ?_; conv => whnf) | (refine VReq.mk (app_ok (by (try simp only [List.length_map, List.length_append, List.length_cons, List.length_nil, List.length_take, List.length_drop, List.length_set, List.length_replicate] at *); omega) (by kernel_rfl)) ?_; conv => whnf)))
  refine AAr.to rfl ?_
  conv => whnf
  (repeat' (first | (refine And.intro ?_ ?_ <;> (conv => whnf)) | (refine vif_split (fun h => ?_) (fun h => ?_) <;> (try simp only [sEqD, cond_true, cond_false, Bool.not_eq_true', Bool.not_eq_false', decide_eq_true_eq, decide_eq_false_iff_not, beq_iff_eq, bne_iff_ne, beq_eq_false_iff_ne, bne_eq_false_iff_eq, ne_eq, Bool.not_eq_eq_eq_not, Bool.not_true, Bool.not_false, Bool.false_eq_true, Bool.true_eq_false, Decidable.not_not, gt_iff_lt, ge_iff_le, Int.not_lt, Int.not_le] at h) <;> (conv => whnf)) | (refine AAr.i64 (by first | omega | ((try simp only [List.length_map] at *); omega)) ?_; conv => whnf) | (refine AIn.mk' _ rfl (by first | omega | (simp only [List.length_map, List.length_append, List.length_cons, List.length_nil, List.length_take, List.length_drop, List.length_set, List.length_replicate]; omega) | (simp only [List.length_map, List.length_append, List.length_cons, List.length_nil, List.length_take, List.length_drop, List.length_set, List.length_replicate] at *; omega)) ?_; conv => whnf) | (refine ARd.mapAt (by assumption) ?_; conv => whnf) | (refine ARd.set (by (try simp only [List.length_map, List.length_append, List.length_cons, List.length_nil, List.length_take, List.length_drop, List.length_set, List.length_replicate] at *); omega) ?_; conv => whnf) | (refine ARd.map (by first | omega | (simp only [List.length_map] at *; omega)) ?_; conv => whnf) | (refine VReq.mk (by first | decide | omega) ?_; conv => whnf) | (refine AEq.mk (by kernel_rfl) rfl rfl ?_; conv => whnf) | (refine VReq.mk (app_ok (by (try simp only [List.length_map, List.length_append, List.length_cons, List.length_nil, List.length_take, List.length_drop, List.length_set, List.length_replicate] at *); omega) (by kernel_rfl)) ?_; conv => whnf)))
  refine AAr.to rfl ?_
  conv => whnf
  refine aloop ws37_1 1 [3, 4] (fun x : GX => [(3, uv x.u), (4, .own 0)]) (fun x => [(0, .rows 5 1 (x.out.map enB))]) (fun x => GI x.f x.u x.out ∧ x.out ++ grp x.f x.u = num n) (fun x => x.f) [(0, .nil)] [] ⟨9, zu n, []⟩ (by kernel_rfl) (fun _ => rfl) rfl (GI.start hn) ⟨rfl, trivial⟩ ⟨congrArg (Value.int .u64) hbits, trivial, trivial⟩ ?_
  rintro ⟨f, u, out⟩ ⟨hg, hout⟩
  have hlen := hg.2.2
  conv => whnf
  refine vif_split (fun h => ?_) (fun h => ?_)
  · have hu : 128 ≤ u := by simp at h; omega
    obtain ⟨g, rfl, hg2, ho2⟩ := hg.next hu
    conv => whnf
    refine AAr.to rfl ?_
    conv => whnf
    (repeat' (first | (refine And.intro ?_ ?_ <;> (conv => whnf)) | (refine vif_split (fun h => ?_) (fun h => ?_) <;> (try simp only [sEqD, cond_true, cond_false, Bool.not_eq_true', Bool.not_eq_false', decide_eq_true_eq, decide_eq_false_iff_not, beq_iff_eq, bne_iff_ne, beq_eq_false_iff_ne, bne_eq_false_iff_eq, ne_eq, Bool.not_eq_eq_eq_not, Bool.not_true, Bool.not_false, Bool.false_eq_true, Bool.true_eq_false, Decidable.not_not, gt_iff_lt, ge_iff_le, Int.not_lt, Int.not_le] at h) <;> (conv => whnf)) | (refine AAr.i64 (by first | omega | ((try simp only [List.length_map] at *); omega)) ?_; conv => whnf) | (refine AIn.mk' _ rfl (by first | omega | (simp only [List.length_map, List.length_append, List.length_cons, List.length_nil, List.length_take, List.length_drop, List.length_set, List.length_replicate]; omega) | (simp only [List.length_map, List.length_append, List.length_cons, List.length_nil, List.length_take, List.length_drop, List.length_set, List.length_replicate] at *; omega)) ?_; conv => whnf) | (refine ARd.mapAt (by assumption) ?_; conv => whnf) | (refine ARd.set (by (try simp only [List.length_map, List.length_append, List.length_cons, List.length_nil, List.length_take, List.length_drop, List.length_set, List.length_replicate] at *); omega) ?_; conv => whnf) | (refine ARd.map (by first | omega | (simp only [List.length_map] at *; omega)) ?_; conv => whnf) | (refine VReq.mk (by first | decide | omega) ?_; conv => whnf) | (refine AEq.mk (by kernel_rfl) rfl rfl ?_; conv => whnf) | (refine VReq.mk (app_ok (by (try simp only [List.length_map, List.length_append, List.length_cons, List.length_nil, List.length_take, List.length_drop, List.length_set, List.length_replicate] at *); omega) (by kernel_rfl)) ?_; conv => whnf)))
    refine aback ⟨g, u / 128, out ++ [UInt8.ofNat (128 + u % 128)]⟩ [(0, .lab 2)] [] rfl (Nat.lt_succ_self g) ⟨hg2, by rw [← ho2]; exact hout⟩ ?_ ?_
    · refine ⟨⟨rfl, rfl, ?_⟩, trivial⟩
      rw [enB_snoc, ← grp_byte]
    · refine ⟨congrArg (Value.int .u64) (by rw [p2_7]; exact shr7 u), ?_⟩
      repeat' (first | rfl | trivial | apply And.intro)
  · have hu : u < 128 := by simp at h; omega
    conv => whnf
    refine AAr.to (last_byte hu) ?_
    conv => whnf
    (repeat' (first | (refine And.intro ?_ ?_ <;> (conv => whnf)) | (refine vif_split (fun h => ?_) (fun h => ?_) <;> (try simp only [sEqD, cond_true, cond_false, Bool.not_eq_true', Bool.not_eq_false', decide_eq_true_eq, decide_eq_false_iff_not, beq_iff_eq, bne_iff_ne, beq_eq_false_iff_ne, bne_eq_false_iff_eq, ne_eq, Bool.not_eq_eq_eq_not, Bool.not_true, Bool.not_false, Bool.false_eq_true, Bool.true_eq_false, Decidable.not_not, gt_iff_lt, ge_iff_le, Int.not_lt, Int.not_le] at h) <;> (conv => whnf)) | (refine AAr.i64 (by first | omega | ((try simp only [List.length_map] at *); omega)) ?_; conv => whnf) | (refine AIn.mk' _ rfl (by first | omega | (simp only [List.length_map, List.length_append, List.length_cons, List.length_nil, List.length_take, List.length_drop, List.length_set, List.length_replicate]; omega) | (simp only [List.length_map, List.length_append, List.length_cons, List.length_nil, List.length_take, List.length_drop, List.length_set, List.length_replicate] at *; omega)) ?_; conv => whnf) | (refine ARd.mapAt (by assumption) ?_; conv => whnf) | (refine ARd.set (by (try simp only [List.length_map, List.length_append, List.length_cons, List.length_nil, List.length_take, List.length_drop, List.length_set, List.length_replicate] at *); omega) ?_; conv => whnf) | (refine ARd.map (by first | omega | (simp only [List.length_map] at *; omega)) ?_; conv => whnf) | (refine VReq.mk (by first | decide | omega) ?_; conv => whnf) | (refine AEq.mk (by kernel_rfl) rfl rfl ?_; conv => whnf) | (refine VReq.mk (app_ok (by (try simp only [List.length_map, List.length_append, List.length_cons, List.length_nil, List.length_take, List.length_drop, List.length_set, List.length_replicate] at *); omega) (by kernel_rfl)) ?_; conv => whnf)))
    refine aend (.own 0) 1 _ [(0, .lab 2)] [] ⟨rfl, rfl, rfl⟩ rfl ⟨⟨rfl, rfl, ?_⟩, trivial⟩ (by repeat' (first | rfl | trivial | apply And.intro))
    rw [← hout, grp_last hu, enB_snoc]
set_option maxHeartbeats 4000000 in
set_option maxRecDepth 100000 in
theorem putA (b : By) (n : Int) (hn : I64 n) (hb : b.length ≤ 3999990) : AFn Try.prog GC 16 [bs b, iv n] 0 [] (Own1 5 1 ((b ++ num n).map enB)) := by
  have hl := (num_len n).2
  refine afn_of Try.func16 rfl mixed (by kernel_rfl) ?_
  conv => whnf
  (refine acallF [] (by kernel_rfl) (groupsA n hn) ?_ ?_; (focus (repeat' (first | rfl | trivial | apply And.intro))))
  rintro _ _ _ ⟨rfl, rfl, rfl⟩
  conv => whnf
  (refine acallF [0] (by kernel_rfl) (ownA b (num n) (by omega)) ?_ ?_; (focus (repeat' (first | rfl | trivial | apply And.intro))))
  rintro _ _ _ ⟨rfl, rfl, rfl⟩
  conv => whnf
  exact aend (.own 0) 1 _ [(0, .lab 1)] [] ⟨rfl, rfl, rfl⟩ rfl (by repeat' (first | rfl | trivial | apply And.intro)) (by repeat' (first | rfl | trivial | apply And.intro))
theorem and_byte {u : Nat} (hu : u < 18446744073709551616) : IntKind.u8.wrap (bitsOp .and .u64 (u : Int) 127) = ((u % 128 : Nat) : Int) := by
  have e : (127 : Int) = ((127 : Nat) : Int) := rfl
  rw [e, bo_and64 u 127 hu (by decide), and127, wr_u8 (by omega)]
theorem or_byte {u : Nat} : bitsOp .or .u8 ((u % 128 : Nat) : Int) 128 = ((UInt8.ofNat (128 + u % 128)).toNat : Int) := by
  have e2 : (128 : Int) = ((128 : Nat) : Int) := rfl
  rw [e2, bo_or8 _ _ (by omega) (by omega), or128 (by omega), toNat_ofNat (by omega)]
  congr 1
  omega
theorem GI.u64 {f u : Nat} {out : By} (h : GI f u out) : u < 18446744073709551616 := by
  have e : (128 : Nat) ^ 9 = 9223372036854775808 := by decide
  have := Nat.pow_le_pow_right (show 0 < 128 by decide) h.2.1
  have := h.1
  omega
/-- the number's bits as the document has them -/
theorem zu_doc (n : Int) (hn : I64 n) : (n < 0 → bitsOp .xor .u64 (bif IntKind.u64.signed then -1 else IntKind.u64.max) (IntKind.u64.wrap (IntKind.u64.wrap n * 2 ^ min (Int.toNat 1) IntKind.u64.bits)) = (zu n : Int)) ∧ (¬ n < 0 → IntKind.u64.wrap (IntKind.u64.wrap n * 2 ^ min (Int.toNat 1) IntKind.u64.bits) = (zu n : Int)) := by
  have e : IntKind.u64.bits = 64 := rfl
  have s : IntKind.u64.signed = false := rfl
  have hm : IntKind.u64.max = ((18446744073709551615 : Nat) : Int) := by decide
  rw [p2_1]
  unfold I64 at hn
  unfold zu
  constructor
  · intro h
    have e1 : IntKind.u64.wrap (IntKind.u64.wrap n * 2) = ((18446744073709551616 - (-2 * n).toNat : Nat) : Int) := by
      simp only [IntKind.wrap, e, s, Bool.false_and, Bool.false_eq_true, if_false]; omega
    rw [if_pos h, e1, s, cond_false, hm, bo_xor64 _ _ (by omega) (by omega), Nat.xor_comm, xor_ones (by omega)]
    omega
  · intro h
    rw [if_neg h]
    simp only [IntKind.wrap, e, s, Bool.false_and, Bool.false_eq_true, if_false]; omega
set_option maxHeartbeats 4000000 in
set_option maxRecDepth 100000 in
theorem put2A (b : By) (n : Int) (hn : I64 n) (hb : b.length ≤ 3999990) : AFn Try.prog GC 38 [bs b, iv n] 0 [] (Own1 5 1 ((b ++ num n).map enB)) := by
  have hd := zu_doc n hn
  refine afn_of Try.func38 rfl mixed (by kernel_rfl) ?_
  conv => whnf
  (repeat' (first | (refine And.intro ?_ ?_ <;> (conv => whnf)) | (refine vif_split (fun h => ?_) (fun h => ?_) <;> (try simp only [sEqD, cond_true, cond_false, Bool.not_eq_true', Bool.not_eq_false', decide_eq_true_eq, decide_eq_false_iff_not, beq_iff_eq, bne_iff_ne, beq_eq_false_iff_ne, bne_eq_false_iff_eq, ne_eq, Bool.not_eq_eq_eq_not, Bool.not_true, Bool.not_false, Bool.false_eq_true, Bool.true_eq_false, Decidable.not_not, gt_iff_lt, ge_iff_le, Int.not_lt, Int.not_le] at h) <;> (conv => whnf)) | (refine AAr.i64 (by first | omega | ((try simp only [List.length_map] at *); omega)) ?_; conv => whnf) | (refine AIn.mk' _ rfl (by first | omega | (simp only [List.length_map, List.length_append, List.length_cons, List.length_nil, List.length_take, List.length_drop, List.length_set, List.length_replicate]; omega) | (simp only [List.length_map, List.length_append, List.length_cons, List.length_nil, List.length_take, List.length_drop, List.length_set, List.length_replicate] at *; omega)) ?_; conv => whnf) | (refine ARd.mapAt (by assumption) ?_; conv => whnf) | (refine ARd.set (by (try simp only [List.length_map, List.length_append, List.length_cons, List.length_nil, List.length_take, List.length_drop, List.length_set, List.length_replicate] at *); omega) ?_; conv => whnf) | (refine ARd.map (by first | omega | (simp only [List.length_map] at *; omega)) ?_; conv => whnf) | (refine VReq.mk (by first | decide | omega) ?_; conv => whnf) | (refine AEq.mk (by kernel_rfl) rfl rfl ?_; conv => whnf) | (refine VReq.mk (app_ok (by (try simp only [List.length_map, List.length_append, List.length_cons, List.length_nil, List.length_take, List.length_drop, List.length_set, List.length_replicate] at *); omega) (by kernel_rfl)) ?_; conv => whnf)))
  refine AAr.to rfl ?_
  conv => whnf
  refine VReq.mk (by decide) ?_
  conv => whnf
  refine AAr.to rfl ?_
  conv => whnf
  refine vif_split (fun h => ?_) (fun h => ?_)
  all_goals
    have hu0 := (by simp at h; first | exact hd.1 (by omega) | exact hd.2 (by omega))
    conv => whnf
    refine aloop ws38_1 2 [0, 5] (fun x : GX => [(0, .own 1), (5, uv x.u)]) (fun x => [(1, .rows 5 1 ((b ++ x.out).map enB))]) (fun x => GI x.f x.u x.out ∧ x.out ++ grp x.f x.u = num n) (fun x => x.f) [(1, .lab 0)] [] ⟨9, zu n, []⟩ (by kernel_rfl) (fun _ => rfl) rfl (GI.start hn) ⟨⟨rfl, rfl, by rw [List.append_nil]⟩, trivial⟩ ⟨rfl, congrArg (Value.int .u64) hu0, trivial⟩ ?_
    rintro ⟨f, u, out⟩ ⟨hg, hout⟩
    have hlen := hg.2.2
    have h64 := hg.u64
    conv => whnf
    refine vif_split (fun h => ?_) (fun h => ?_)
    · have hu : 128 ≤ u := by simp at h; omega
      obtain ⟨g, rfl, hg2, ho2⟩ := hg.next hu
      conv => whnf
      refine AAr.to (and_byte h64) ?_
      conv => whnf
      (repeat' (first | (refine And.intro ?_ ?_ <;> (conv => whnf)) | (refine vif_split (fun h => ?_) (fun h => ?_) <;> (try simp only [sEqD, cond_true, cond_false, Bool.not_eq_true', Bool.not_eq_false', decide_eq_true_eq, decide_eq_false_iff_not, beq_iff_eq, bne_iff_ne, beq_eq_false_iff_ne, bne_eq_false_iff_eq, ne_eq, Bool.not_eq_eq_eq_not, Bool.not_true, Bool.not_false, Bool.false_eq_true, Bool.true_eq_false, Decidable.not_not, gt_iff_lt, ge_iff_le, Int.not_lt, Int.not_le] at h) <;> (conv => whnf)) | (refine AAr.i64 (by first | omega | ((try simp only [List.length_map] at *); omega)) ?_; conv => whnf) | (refine AIn.mk' _ rfl (by first | omega | (simp only [List.length_map, List.length_append, List.length_cons, List.length_nil, List.length_take, List.length_drop, List.length_set, List.length_replicate]; omega) | (simp only [List.length_map, List.length_append, List.length_cons, List.length_nil, List.length_take, List.length_drop, List.length_set, List.length_replicate] at *; omega)) ?_; conv => whnf) | (refine ARd.mapAt (by assumption) ?_; conv => whnf) | (refine ARd.set (by (try simp only [List.length_map, List.length_append, List.length_cons, List.length_nil, List.length_take, List.length_drop, List.length_set, List.length_replicate] at *); omega) ?_; conv => whnf) | (refine ARd.map (by first | omega | (simp only [List.length_map] at *; omega)) ?_; conv => whnf) | (refine VReq.mk (by first | decide | omega) ?_; conv => whnf) | (refine AEq.mk (by kernel_rfl) rfl rfl ?_; conv => whnf) | (refine VReq.mk (app_ok (by (try simp only [List.length_map, List.length_append, List.length_cons, List.length_nil, List.length_take, List.length_drop, List.length_set, List.length_replicate] at *); omega) (by kernel_rfl)) ?_; conv => whnf)))
      refine aback ⟨g, u / 128, out ++ [UInt8.ofNat (128 + u % 128)]⟩ [(1, .lab 3)] [] rfl (Nat.lt_succ_self g) ⟨hg2, by rw [← ho2]; exact hout⟩ ?_ ?_
      · refine ⟨⟨rfl, rfl, ?_⟩, trivial⟩
        rw [← List.append_assoc, enB_snoc, ← or_byte]
      · refine ⟨rfl, congrArg (Value.int .u64) (by rw [p2_7]; exact shr7 u), trivial⟩
    · have hu : u < 128 := by simp at h; omega
      conv => whnf
      refine AAr.to (last_byte hu) ?_
      conv => whnf
      (repeat' (first | (refine And.intro ?_ ?_ <;> (conv => whnf)) | (refine vif_split (fun h => ?_) (fun h => ?_) <;> (try simp only [sEqD, cond_true, cond_false, Bool.not_eq_true', Bool.not_eq_false', decide_eq_true_eq, decide_eq_false_iff_not, beq_iff_eq, bne_iff_ne, beq_eq_false_iff_ne, bne_eq_false_iff_eq, ne_eq, Bool.not_eq_eq_eq_not, Bool.not_true, Bool.not_false, Bool.false_eq_true, Bool.true_eq_false, Decidable.not_not, gt_iff_lt, ge_iff_le, Int.not_lt, Int.not_le] at h) <;> (conv => whnf)) | (refine AAr.i64 (by first | omega | ((try simp only [List.length_map] at *); omega)) ?_; conv => whnf) | (refine AIn.mk' _ rfl (by first | omega | (simp only [List.length_map, List.length_append, List.length_cons, List.length_nil, List.length_take, List.length_drop, List.length_set, List.length_replicate]; omega) | (simp only [List.length_map, List.length_append, List.length_cons, List.length_nil, List.length_take, List.length_drop, List.length_set, List.length_replicate] at *; omega)) ?_; conv => whnf) | (refine ARd.mapAt (by assumption) ?_; conv => whnf) | (refine ARd.set (by (try simp only [List.length_map, List.length_append, List.length_cons, List.length_nil, List.length_take, List.length_drop, List.length_set, List.length_replicate] at *); omega) ?_; conv => whnf) | (refine ARd.map (by first | omega | (simp only [List.length_map] at *; omega)) ?_; conv => whnf) | (refine VReq.mk (by first | decide | omega) ?_; conv => whnf) | (refine AEq.mk (by kernel_rfl) rfl rfl ?_; conv => whnf) | (refine VReq.mk (app_ok (by (try simp only [List.length_map, List.length_append, List.length_cons, List.length_nil, List.length_take, List.length_drop, List.length_set, List.length_replicate] at *); omega) (by kernel_rfl)) ?_; conv => whnf)))
      refine aend (.own 0) 1 _ [(0, .lab 3)] [] ⟨rfl, rfl, rfl⟩ rfl ⟨⟨rfl, rfl, ?_⟩, trivial⟩ (by repeat' (first | rfl | trivial | apply And.intro))
      rw [← hout, grp_last hu, ← List.append_assoc, enB_snoc]
end Go.Proofs.Ytmhpfadbmpipkaa.Cl
