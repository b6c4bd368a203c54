/- The walks of the reference's Word, Reserved and Key. No condition. The walk of strings.Fields at a plain text without two neighbouring spaces, and of text.Key. Conditions: the library's table of spaces holds what it was laid with. The walk of text.Key. Conditions: the library's table of spaces holds what it was laid with. -/
import Derived.Test.YtmnjmdajgilhiaaDoorPlans
import Derived.Test.YtmnjmdajgilhiaaDoorSt
import Derived.Test.YtmnjmdajgilhiaaDoorIdp
import Derived.Test.YtmnjmdajgilhiaaDoorProg
set_option linter.unusedVariables false
set_option linter.unusedSimpArgs false
namespace Go.Proofs.YtmnjmdajgilhiaaDoor.Ky
open Go Go.RowKit Go.Proofs.YtmnjmdajgilhiaaDoor.Vc Go.Proofs.YtmnjmdajgilhiaaDoor.Id
attribute [local irreducible] loadVar storeVar Instr.indexAt Instr.index Instr.sliceAt Instr.makeSlice Instr.lookup Instr.mapUpdate Instr.range Instr.next Instr.entry Instr.makeMap Builtin.append_ Builtin.copy_ Builtin.len_ Builtin.min_ Builtin.max_ Builtin.cap_ Builtin.delete_ Builtin.clear_ convert binOp eqGuard Op.unary Calls

theorem mixed : Tryd.prog.follows .mixedOrders = true := by kernel_rfl
/-- what a key may have at place i -/
def okB (i c : Nat) : Bool := (decide (97 ≤ c) && decide (c ≤ 122)) || (!decide (i = 0) && ((decide (48 ≤ c) && decide (c ≤ 57)) || decide (c = 45) || decide (c = 95)))
theorem okB_iff (i c : Nat) : okB i c = true ↔ (97 ≤ c ∧ c ≤ 122) ∨ (i ≠ 0 ∧ ((48 ≤ c ∧ c ≤ 57) ∨ c = 45 ∨ c = 95)) := by
  simp [okB, or_assoc]
theorem okB_not (i c : Nat) : okB i c = false ↔ ¬ ((97 ≤ c ∧ c ≤ 122) ∨ (i ≠ 0 ∧ ((48 ≤ c ∧ c ≤ 57) ∨ c = 45 ∨ c = 95))) := by
  rw [← okB_iff]; simp
def wordB : Nat → List UInt8 → Bool
  | _, [] => true
  | i, c :: l => okB i c.toNat && wordB (i + 1) l
theorem wordB_step (l : List UInt8) (i : Nat) (h : i < l.length) : wordB i (l.drop i) = (okB i l[i].toNat && wordB (i + 1) (l.drop (i + 1))) := by
  rw [List.drop_eq_getElem_cons h]; rfl

set_option maxRecDepth 100000 in
theorem word_ok (s : ByteArray) (w : World) (hs : s.size ≤ 140737488355328) :
    Ret Tryd.prog 73 #[.string s] w fun v w' => v = .bool (wordB 0 (bys s) && decide (1 ≤ s.size)) ∧ w' = w := by
  refine ret_of_vc Tryd.func73 rfl mixed (by kernel_rfl) ?_
  have hl := bys_len s
  conv => whnf
  refine vloop (X := Nat) ws73_1 (fun i => [(3, .int .i64 i)]) (fun i w' => i ≤ s.size ∧ w' = w ∧ wordB 0 (bys s) = wordB i ((bys s).drop i)) (fun i => s.size - i) 0 (by kernel_rfl)
    ?_ ⟨Nat.zero_le _, rfl, rfl⟩ ?_
  · exact ⟨rfl, trivial⟩
  rintro i w1 j ⟨hi, rfl, hp⟩
  conv => whnf
  refine vif_split (fun hlt => ?_) (fun hge => ?_)
  · have hlt : i < s.size := by have := of_decide_eq_true hlt; omega
    have hst := wordB_step (bys s) i (by omega)
    have hc : (bys s)[i]'(by omega) = s[i] := by simp; rfl
    rw [hc] at hst
    have hcb : s[i].toNat < 256 := s[i].toNat_lt
    obtain ⟨c, hcc⟩ : ∃ c, c = s[i].toNat := ⟨_, rfl⟩
    rw [hst] at hp
    rw [hp]
    have hno := okB_not i c
    have hyes := okB_iff i c
    rw [← hcc] at hcb ⊢ hp
    conv => whnf
    refine vs_ixS i rfl rfl hlt ?_
    rw [← hcc]
    conv => whnf
    clear hst hc hp
    have e0 : okB i c = false → (okB i c && wordB (i + 1) ((bys s).drop (i + 1)) && decide (1 ≤ s.size)) = false := fun h => by rw [h]; rfl
    have e1 : okB i c = true → (okB i c && wordB (i + 1) ((bys s).drop (i + 1))) = wordB (i + 1) ((bys s).drop (i + 1)) := fun h => by rw [h]; rfl
    (repeat' (refine vif_split (fun h => ?_) (fun h => ?_); all_goals (conv => whnf)))
    all_goals first
      | exact VEnd.mk ⟨congrArg Value.bool (e0 (hno.2 (by (try simp only [cond_true, cond_false, Bool.not_eq_true', Bool.not_eq_false', decide_eq_true_eq, decide_eq_false_iff_not, beq_iff_eq, bne_iff_ne, beq_eq_false_iff_ne, bne_eq_false_iff_eq, ne_eq, Bool.not_eq_eq_eq_not, Bool.not_true, Bool.not_false, Bool.false_eq_true, Bool.true_eq_false] at *) <;> omega))).symm, rfl⟩
      | exact VBack.mk ⟨_, (show s.size - (i + 1) < s.size - i by omega), i + 1, rfl, ⟨intEq (incr (by omega)), trivial⟩, hlt, rfl, e1 (hyes.2 (by (try simp only [cond_true, cond_false, Bool.not_eq_true', Bool.not_eq_false', decide_eq_true_eq, decide_eq_false_iff_not, beq_iff_eq, bne_iff_ne, beq_eq_false_iff_ne, bne_eq_false_iff_eq, ne_eq, Bool.not_eq_eq_eq_not, Bool.not_true, Bool.not_false, Bool.false_eq_true, Bool.true_eq_false] at *) <;> omega))⟩
  · have hge : ¬ i < s.size := by have := of_decide_eq_false hge; omega
    obtain rfl : i = s.size := by omega
    rw [List.drop_of_length_le (by omega)] at hp
    have hp2 : wordB 0 (bys s) = true := hp
    rw [hp2]
    conv => whnf
    exact VEnd.mk ⟨by show Value.bool _ = _; simp; omega, rfl⟩

/-- the reserved words -/
def resv : List ByteArray := [⟨#[97, 110, 100]⟩, ⟨#[97, 114, 109, 115]⟩, ⟨#[97, 116, 116, 114, 105, 98, 117, 116, 101]⟩, ⟨#[98, 111, 111, 108]⟩, ⟨#[99, 108, 97, 105, 109, 115]⟩, ⟨#[99, 111, 110, 116, 97, 105, 110, 115]⟩, ⟨#[99, 111, 111, 108]⟩, ⟨#[99, 111, 111, 108, 105, 110, 103]⟩, ⟨#[100, 101, 102, 97, 117, 108, 116]⟩, ⟨#[100, 114, 97, 102, 116]⟩, ⟨#[101, 110, 100, 115]⟩, ⟨#[101, 120, 99, 108, 117, 100, 101]⟩, ⟨#[101, 120, 105, 115, 116, 115]⟩, ⟨#[101, 120, 112, 101, 114, 105, 109, 101, 110, 116]⟩, ⟨#[102, 97, 108, 115, 101]⟩, ⟨#[102, 108, 97, 103]⟩, ⟨#[104, 111, 108, 100, 111, 117, 116]⟩, ⟨#[105, 110]⟩, ⟨#[105, 110, 99, 108, 117, 100, 101]⟩, ⟨#[105, 115]⟩, ⟨#[108, 97, 121, 101, 114]⟩, ⟨#[108, 105, 115, 116]⟩, ⟨#[109, 101, 109, 98, 101, 114]⟩, ⟨#[110, 101, 101, 100, 115]⟩, ⟨#[110, 111, 116]⟩, ⟨#[110, 117, 109, 98, 101, 114]⟩, ⟨#[111, 102, 102]⟩, ⟨#[111, 110]⟩, ⟨#[111, 114]⟩, ⟨#[114, 117, 108, 101]⟩, ⟨#[114, 117, 110, 110, 105, 110, 103]⟩, ⟨#[115, 97, 108, 116]⟩, ⟨#[115, 101, 103, 109, 101, 110, 116]⟩, ⟨#[115, 101, 114, 118, 101]⟩, ⟨#[115, 101, 116, 116, 105, 110, 103, 115]⟩, ⟨#[115, 112, 108, 105, 116]⟩, ⟨#[115, 116, 97, 114, 116, 115]⟩, ⟨#[115, 116, 111, 112, 112, 101, 100]⟩, ⟨#[116, 97, 114, 103, 101, 116]⟩, ⟨#[116, 101, 120, 116]⟩, ⟨#[116, 111]⟩, ⟨#[116, 114, 117, 101]⟩, ⟨#[117, 110, 116, 105, 108]⟩, ⟨#[118, 97, 114, 105, 97, 116, 105, 111, 110, 115]⟩, ⟨#[118, 101, 114, 115, 105, 111, 110]⟩, ⟨#[119, 104, 101, 110]⟩]
def keyB (s : ByteArray) : Bool := decide (1 ≤ s.size) && decide (s.size ≤ 32) && wordB 0 (bys s) && !(resv.any fun r => sEq r s)
theorem any_take (l : List ByteArray) (f : ByteArray → Bool) (i : Nat) (h : i < l.length) : (l.drop i).any f = (f l[i] || (l.drop (i + 1)).any f) := by
  rw [List.drop_eq_getElem_cons h]; rfl
def svals (l : List ByteArray) : List Value := l.map .string
theorem svals_get {l : List ByteArray} {j : Nat} (h : j < l.length) : (svals l)[j]? = some (.string l[j]) := by simp [svals, h]

set_option maxRecDepth 100000 in
theorem reserved_ok (w : World) : Ret Tryd.prog 74 #[] w fun v w' => v = .slice (some ⟨w.heap.size, 0, none⟩) 46 46 ∧ At w' w.heap.size 0 (svals resv) ∧ w.heap.size < w'.heap.size ∧ Below w.heap.size w w' := by
  refine ret_of_vc Tryd.func74 rfl mixed (by kernel_rfl) ?_
  conv => whnf
  refine VEnd.mk ⟨rfl, ?_, by simp, balloc (Below.refl _ _) (Nat.le_refl _) _⟩
  exact (Blk.new w _ _).at

theorem resv_len : resv.length = 46 := rfl
attribute [local irreducible] resv
set_option maxRecDepth 100000 in
theorem key2_ok (s : ByteArray) (w : World) (hs : s.size ≤ 140737488355328) :
    Ret Tryd.prog 62 #[.string s] w fun v w' => v = .bool (keyB s) ∧ Below w.heap.size w w' := by
  refine ret_of_vc Tryd.func62 rfl mixed (by kernel_rfl) ?_
  have hk : keyB s = (decide (1 ≤ s.size) && decide (s.size ≤ 32) && wordB 0 (bys s) && !(resv.any fun r => sEq r s)) := rfl
  obtain ⟨kb, hkb⟩ : ∃ b, b = keyB s := ⟨_, rfl⟩
  rw [← hkb] at hk ⊢
  conv => whnf
  refine vcall (by kernel_rfl) (word_ok s w hs) ?_
  rintro _ w1 ⟨rfl, rfl⟩
  obtain ⟨wb, hwb⟩ : ∃ b, b = wordB 0 (bys s) := ⟨_, rfl⟩
  rw [← hwb] at hk ⊢
  conv => whnf
  refine vif_split (fun h1 => ?_) (fun h1 => ?_)
  · have : kb = false := by rw [hk]; cases wb <;> simp_all
    subst this
    conv => whnf
    exact VEnd.mk ⟨rfl, Below.refl _ _⟩
  have h1 : wb = true ∧ 1 ≤ s.size := by cases wb <;> simp_all
  conv => whnf
  refine vif_split (fun h2 => ?_) (fun h2 => ?_)
  · have h2 : ¬ s.size ≤ 32 := by have : (s.size : Int) > 32 := of_decide_eq_true h2; omega
    have : kb = false := by rw [hk]; simp [h2]
    subst this
    conv => whnf
    exact VEnd.mk ⟨rfl, Below.refl _ _⟩
  have h2 : s.size ≤ 32 := by have : ¬ (s.size : Int) > 32 := of_decide_eq_false h2; omega
  have hk2 : kb = !(resv.any fun r => sEq r s) := by rw [hk, h1.1]; simp [h1.2, h2]
  conv => whnf
  refine vcall (by kernel_rfl) (reserved_ok w1) ?_
  rintro _ w2 ⟨rfl, hA, hlt2, hB⟩
  clear hk
  conv => whnf
  refine vloop (X := Nat) ws62_1 (fun i => [(4, .int .i64 i)]) (fun i w' => i ≤ 46 ∧ w' = w2 ∧ (resv.any fun r => sEq r s) = (resv.drop i).any fun r => sEq r s) (fun i => 46 - i) 0 (by kernel_rfl)
    ?_ ⟨Nat.zero_le _, rfl, rfl⟩ ?_
  · exact ⟨rfl, trivial⟩
  rintro i w3 j ⟨hi, rfl, hp⟩
  conv => whnf
  refine vif_split (fun hlt => ?_) (fun hge => ?_)
  · have hlt : i < 46 := by have := of_decide_eq_true hlt; omega
    have hil : i < resv.length := by rw [resv_len]; exact hlt
    rw [any_take _ _ i hil] at hp
    have hg := svals_get hil
    conv => whnf
    (repeat (first | (refine VReq.mk (by first | decide | omega) ?_; conv => whnf) | (refine VPend.mk rfl ?_; conv => whnf) | (refine VNext.keep rfl ?_; conv => whnf) | (refine vs_slI1 _ rfl rfl rfl (by assumption) ?_; conv => whnf) | (refine vs_slI _ rfl rfl rfl (by assumption) ?_; conv => whnf) | (refine vs_arr1 _ rfl rfl rfl (by assumption) ?_; conv => whnf) | (refine vs_loadF (by with_reducible assumption) (by assumption) rfl rfl ?_; conv => whnf) | (refine vs_loadF0 (by with_reducible assumption) (by assumption) rfl rfl ?_; conv => whnf) | (refine vs_loadI (by with_reducible assumption) (by assumption) rfl ?_; conv => whnf) | (refine vs_loadB rfl (by with_reducible assumption) (by assumption) ?_; conv => whnf)))
    refine vif_split (fun h => ?_) (fun h => ?_)
    · have : kb = false := by rw [hk2, hp, h]; rfl
      subst this
      conv => whnf
      exact VEnd.mk ⟨rfl, hB⟩
    · rw [h, Bool.false_or] at hp
      conv => whnf
      refine VBack.mk ⟨_, ?_, (i + 1), rfl, ?_, ?_⟩
      · show 46 - (i + 1) < 46 - i; omega
      · exact ⟨intEq (incr (by omega)), trivial⟩
      · exact ⟨hlt, rfl, hp⟩
  · have hge : ¬ i < 46 := by have := of_decide_eq_false hge; omega
    obtain rfl : i = 46 := by omega
    rw [List.drop_of_length_le (by rw [resv_len]; exact Nat.le_refl _)] at hp
    have : kb = true := by rw [hk2, hp]; rfl
    subst this
    conv => whnf
    exact VEnd.mk ⟨rfl, hB⟩
end Go.Proofs.YtmnjmdajgilhiaaDoor.Ky

namespace Go.Proofs.YtmnjmdajgilhiaaDoor.Ky
open Go Go.RowKit Go.Proofs.YtmnjmdajgilhiaaDoor.Vc Go.Proofs.YtmnjmdajgilhiaaDoor.Id
attribute [local irreducible] loadVar storeVar Instr.indexAt Instr.index Instr.sliceAt Instr.makeSlice Instr.lookup Instr.mapUpdate Instr.range Instr.next Instr.entry Instr.makeMap Builtin.append_ Builtin.copy_ Builtin.len_ Builtin.min_ Builtin.max_ Builtin.cap_ Builtin.delete_ Builtin.clear_ convert binOp eqGuard Op.unary Calls

/-- the table of spaces -/
def spT (c : Nat) : Int := if (9 ≤ c ∧ c ≤ 13) ∨ c = 32 then 1 else 0
def Asc (w : World) : Prop := 0 < w.heap.size ∧ ∀ c, c < 256 → w.cell? ⟨0, c, none⟩ = some (.int .u8 (spT c))
theorem Asc.below {w w' : World} (h : Asc w) (hB : Below w.heap.size w w') : Asc w' := ⟨Nat.lt_of_lt_of_le h.1 hB.size, fun c hc => by rw [hB.cell (p := ⟨0, c, none⟩) h.1]; exact h.2 c hc⟩
theorem Asc.below' {w w' : World} {B : Nat} (h : Asc w) (hB : Below B w w') (hg : 0 < B) : Asc w' := ⟨Nat.lt_of_lt_of_le h.1 hB.size, fun c hc => by rw [hB.cell (p := ⟨0, c, none⟩) hg]; exact h.2 c hc⟩
theorem vs_xorU {P : Program} {w : World} {K : Value → World → Prop} {k : IntKind} {n : Int} (c : K (.int k (bitsOp .xor k (if k.signed then -1 else k.max) n)) w) : VSem P (Op.unary .xor (.int k n)) w K := by
  refine vsem ?_ c
  simp [Op.unary, Op.intBits, bitsOp]
theorem vs_sliceSlo {P : Program} {w : World} {K : Value → World → Prop} {t : TypeId} {s : ByteArray} {kl : IntKind} {lo : Int} (a : Nat) (ha : lo = a) (hu : P.underlying t = some .string) (h : a ≤ s.size)
    (c : K (.string (s.extract a s.size)) w) : VSem P (Instr.sliceAt t (.string s) (some (.int kl lo)) none none) w K := by
  refine vsem ?_ c
  subst ha
  unfold Instr.sliceAt
  rw [Sem.run_bind, run_under hu]
  simp only [Result.andThen_ok]
  unfold Instr.slice
  rw [Sem.run_bind, run_under hu]
  have h1 : (0 : Int) ≤ a ∧ (a : Int) ≤ s.size := ⟨by omega, by omega⟩
  simp [Instr.sliceBounds, Instr.sliceBound, asIntOf, h1, h]
theorem vs_arrG {P : Program} {w : World} {K : Value → World → Prop} {t e : TypeId} {n b : Nat} {k : IntKind} {ix : Int} (m : Nat) (hm : ix = m) (hu : P.underlying t = some (.array n e)) (hs : szB P e = some 1) (h : m < n)
    (hk : K (.pointer (some ⟨b, m, none⟩)) w) : VSem P (Instr.indexAt t (.pointer (some ⟨b, 0, none⟩)) (.int k ix)) w K :=
  vs_arr1 m hu hs hm h (by rw [Nat.zero_add]; exact hk)

/-- the count's state behind i bytes -/
def c1 (l : List UInt8) : Nat → Int × Int × Int
  | 0 => (0, 1, 0)
  | i + 1 => (IntKind.i64.wrap ((c1 l i).1 + bitsOp .and .i64 (c1 l i).2.1 (bitsOp .xor .i64 (-1) (IntKind.i64.wrap (spT (l.getD i 0).toNat)))), IntKind.i64.wrap (spT (l.getD i 0).toNat), bitsOp .or .u8 (c1 l i).2.2 ((l.getD i 0).toNat : Nat))
theorem c1_succ (l : List UInt8) (i : Nat) : c1 l (i + 1) = (IntKind.i64.wrap ((c1 l i).1 + bitsOp .and .i64 (c1 l i).2.1 (bitsOp .xor .i64 (-1) (IntKind.i64.wrap (spT (l.getD i 0).toNat)))), IntKind.i64.wrap (spT (l.getD i 0).toNat), bitsOp .or .u8 (c1 l i).2.2 ((l.getD i 0).toNat : Nat)) := rfl
/-- the words before place i, and where the present one begins -/
def wl (s : ByteArray) : Nat → List ByteArray × Nat
  | 0 => ([], 0)
  | i + 1 => if spT ((bys s).getD i 0).toNat = 0 then wl s i else ((wl s i).1 ++ [s.extract (wl s i).2 i], i + 1)
theorem wl_succ (s : ByteArray) (i : Nat) : wl s (i + 1) = if spT ((bys s).getD i 0).toNat = 0 then wl s i else ((wl s i).1 ++ [s.extract (wl s i).2 i], i + 1) := rfl
theorem wl_le (s : ByteArray) (i : Nat) : (wl s i).2 ≤ i := by
  induction i with
  | zero => exact Nat.le_refl _
  | succ i ih => rw [wl_succ]; split; exact Nat.le_succ_of_le ih; exact Nat.le_refl _
theorem wl_mono (s : ByteArray) (i : Nat) : ∀ d, (wl s i).1.length ≤ (wl s (i + d)).1.length := by
  intro d
  induction d with
  | zero => exact Nat.le_refl _
  | succ d ih => rw [← Nat.add_assoc, wl_succ]; split; exact ih; simp only [List.length_append, List.length_cons, List.length_nil]; omega
/-- no two neighbouring spaces, none at the ends, and all bytes plain -/
structure Neat (s : ByteArray) : Prop where
  size : s.size ≤ 1000000
  first : 0 < s.size → spT ((bys s).getD 0 0).toNat = 0
  next : ∀ i, i < s.size → spT ((bys s).getD i 0).toNat ≠ 0 → i + 1 < s.size ∧ spT ((bys s).getD (i + 1) 0).toNat = 0
  plain : ¬ (c1 (bys s) s.size).2.2 ≥ 128
  count : (c1 (bys s) s.size).1 = ((wl s s.size).1.length + 1 : Nat)
  some : 0 < s.size
  ends : (wl s s.size).2 < s.size
theorem spT_01 (c : Nat) : spT c = 0 ∨ spT c = 1 := by unfold spT; split; exact .inr rfl; exact .inl rfl
attribute [local irreducible] c1 wl spT

set_option maxHeartbeats 1000000 in
set_option maxRecDepth 100000 in
theorem fields_ok (s : ByteArray) (w : World) (hs : Neat s) (hA : Asc w) :
    Ret Tryd.prog 66 #[.string s] w fun v w' => ∃ b, v = .slice (some ⟨b, 0, none⟩) ((wl s s.size).1.length + 1) ((wl s s.size).1.length + 1) ∧ At w' b 0 (svals ((wl s s.size).1 ++ [s.extract (wl s s.size).2 s.size])) ∧ b < w'.heap.size ∧ Below w.heap.size w w' := by
  refine ret_of_vc Tryd.func66 rfl mixed (by kernel_rfl) ?_
  have hl := bys_len s
  have hsz := hs.size
  have hby : ∀ i (h : i < s.size), (bys s).getD i 0 = s[i] := fun i h => by
    rw [List.getD_eq_getElem?_getD, List.getElem?_eq_getElem (by rw [hl]; exact h)]; simp; rfl
  conv => whnf
  refine vloop (X := Nat) ws66_1 (fun i => [(6, .int .i64 i), (3, .int .i64 (c1 (bys s) i).1), (4, .int .i64 (c1 (bys s) i).2.1), (5, .int .u8 (c1 (bys s) i).2.2)]) (fun i w' => i ≤ s.size ∧ w' = w) (fun i => s.size - i) 0 (by kernel_rfl)
    ?_ ⟨Nat.zero_le _, rfl⟩ ?_
  · exact ⟨rfl, by unfold c1; rfl, by unfold c1; rfl, by unfold c1; rfl, trivial⟩
  rintro i w1 j ⟨hi, rfl⟩
  conv => whnf
  refine vif_split (fun hlt => ?_) (fun hge => ?_)
  · have hlt : i < s.size := by have := of_decide_eq_true hlt; omega
    have hcb : s[i].toNat < 256 := s[i].toNat_lt
    have hcell := hA.2 s[i].toNat hcb
    have hsc := c1_succ (bys s) i
    rw [hby i hlt] at hsc
    conv => whnf
    refine vs_ixS i rfl rfl hlt ?_
    conv => whnf
    refine vs_arrG s[i].toNat rfl rfl rfl hcb ?_
    conv => whnf
    refine vs_load1 rfl hcell ?_
    conv => whnf
    refine vs_xorU ?_
    conv => whnf
    refine VBack.mk ⟨_, ?_, (i + 1), rfl, ?_, ?_⟩
    · show s.size - (i + 1) < s.size - i; omega
    · exact ⟨intEq (incr (by omega)), intEq (by rw [hsc]; rfl), intEq (by rw [hsc]), intEq (by rw [hsc]), trivial⟩
    · exact ⟨hlt, rfl⟩
  have hge : ¬ i < s.size := by have := of_decide_eq_false hge; omega
  obtain rfl : i = s.size := by omega
  have hpl := hs.plain
  have hcn := hs.count
  conv => whnf
  refine vif_false (by simpa using hpl) ?_
  rw [hcn]
  have hW : (wl s s.size).1.length ≤ s.size := by
    have : ∀ i, (wl s i).1.length ≤ i := fun i => by
      induction i with
      | zero => unfold wl; exact Nat.le_refl _
      | succ i ih => rw [wl_succ]; split; exact Nat.le_succ_of_le ih; simp only [List.length_append, List.length_cons, List.length_nil]; omega
    exact this _
  obtain ⟨N, hN⟩ : ∃ N, N = (wl s s.size).1.length + 1 := ⟨_, rfl⟩
  rw [← hN]
  conv => whnf
  refine vs_make (n := N) (by_ := 16) (sz := 1) (zs := [.string ⟨#[]⟩]) rfl rfl rfl rfl rfl rfl rfl rfl (by omega) (by unfold maxLen; omega) ?_
  intro w2 hw2 hb2
  rw [rep_one] at hb2
  have hB2 : Below w1.heap.size w1 w2 := by rw [hw2]; exact balloc (Below.refl _ _) (Nat.le_refl _) _
  clear hw2
  conv => whnf
  have hAs : ∀ w', Below w1.heap.size w1 w' → ∀ c, c < 256 → w'.cell? ⟨0, c, none⟩ = some (.int .u8 (spT c)) := fun w' hB c hc => (hA.below hB).2 c hc
  have h0s := hs.some
  have h0 := hs.first h0s
  rw [hby 0 h0s] at h0
  refine vloop (X := Unit) ws66_2 (fun _ => [(12, .int .i64 ((0 : Nat) : Int))]) (fun _ w' => w' = w2) (fun _ => 0) () (by kernel_rfl) ?_ rfl ?_
  · exact ⟨rfl, trivial⟩
  rintro _ w3 j3 rfl
  conv => whnf
  refine vif_true (by simpa using h0s) ?_
  conv => whnf
  refine vs_ixS 0 rfl rfl h0s ?_
  conv => whnf
  refine vs_arrG s[0].toNat rfl rfl rfl s[0].toNat_lt ?_
  conv => whnf
  refine vs_load1 rfl (hAs _ hB2 _ s[0].toNat_lt) ?_
  rw [h0]
  conv => whnf
  refine vloop (X := Nat × List Value) ws66_3 (fun x => [(12, .int .i64 x.1), (10, .int .i64 ((wl s x.1).1.length : Nat)), (11, .int .i64 ((wl s x.1).2 : Nat))]) (fun x w' => x.1 ≤ s.size ∧ Below w1.heap.size w1 w' ∧ Blk w' w1.heap.size x.2 9 ∧ x.2.length = N ∧ ∃ t, x.2 = svals (wl s x.1).1 ++ t) (fun x => s.size - x.1) (0, List.replicate N (.string ⟨#[]⟩)) (by kernel_rfl)
    ?_ ⟨Nat.zero_le _, hB2, hb2, by simp, _, by unfold wl; rfl⟩ ?_
  · exact ⟨rfl, by unfold wl; rfl, by unfold wl; rfl, trivial⟩
  clear hb2 hB2
  rintro ⟨i, cs⟩ w4 j4 ⟨hi, hB4, hb4, hcl, t, hct⟩
  simp only at hi hb4 hcl hct ⊢
  have hws := wl_succ s i
  have hle := wl_le s i
  conv => whnf
  refine vif_split (fun hlt => ?_) (fun hge => ?_)
  · have hlt : i < s.size := by have := of_decide_eq_true hlt; omega
    rw [hby i hlt] at hws
    have hcb : s[i].toNat < 256 := s[i].toNat_lt
    conv => whnf
    refine vs_ixS i rfl rfl hlt ?_
    conv => whnf
    refine vs_arrG s[i].toNat rfl rfl rfl hcb ?_
    conv => whnf
    refine vs_load1 rfl (hAs _ hB4 _ hcb) ?_
    conv => whnf
    rcases spT_01 s[i].toNat with h1 | h1
    · rw [h1]
      rw [if_pos h1] at hws
      conv => whnf
      refine VBack.mk ⟨_, ?_, (i + 1, cs), rfl, ?_, ?_⟩
      · show s.size - (i + 1) < s.size - i; omega
      · exact ⟨intEq (incr (by omega)), by show _ = Value.int .i64 ((wl s (i + 1)).1.length : Nat); rw [hws]; rfl, by show _ = Value.int .i64 ((wl s (i + 1)).2 : Nat); rw [hws]; rfl, trivial⟩
      · exact ⟨hlt, hB4, hb4, hcl, t, by rw [hws]; exact hct⟩
    · rw [h1]
      rw [if_neg (by rw [h1]; decide)] at hws
      obtain ⟨hn1, hn2⟩ := hs.next i hlt (by rw [hby i hlt, h1]; decide)
      rw [hby (i + 1) hn1] at hn2
      have hm := wl_mono s (i + 1) (s.size - (i + 1))
      rw [show i + 1 + (s.size - (i + 1)) = s.size by omega, hws] at hm
      simp only [List.length_append, List.length_cons, List.length_nil] at hm
      obtain ⟨m, hmm⟩ : ∃ m, m = (wl s i).1.length := ⟨_, rfl⟩
      rw [← hmm] at hm ⊢
      have hmN : m < N := by omega
      conv => whnf
      refine vs_sliceS (wl s i).2 i rfl rfl rfl hle (by omega) ?_
      conv => whnf
      refine vs_slI1 m rfl rfl rfl hmN ?_
      conv => whnf
      refine vs_storeP hb4 rfl rfl (by rw [hcl]; omega) ?_
      intro w5 hO5 hb5
      rw [Nat.zero_add] at hb5
      have hB5 := hB4.trans (hO5.below (Nat.le_refl _))
      have hset : ∃ t', cs.set m (.string (s.extract (wl s i).2 i)) = svals (wl s (i + 1)).1 ++ t' := by
        rw [hct, hws]
        have hml : (svals (wl s i).1).length = m := by rw [hmm]; simp [svals]
        rw [List.set_append_right _ _ (by omega), hml, Nat.sub_self]
        cases t with
        | nil => rw [hct, List.append_nil, hml] at hcl; omega
        | cons v t => exact ⟨t, by simp [svals]⟩
      clear hb4 hO5
      conv => whnf
      have e1 : IntKind.i64.wrap ((i : Int) + 1) = ((i + 1 : Nat) : Int) := incr (by omega)
      have e2 : IntKind.i64.wrap ((m : Int) + 1) = ((m + 1 : Nat) : Int) := incr (by omega)
      refine vloop (X := Unit) ws66_4 (fun _ => [(12, .int .i64 ((i + 1 : Nat) : Int))]) (fun _ w' => w' = w5) (fun _ => 0) () (by kernel_rfl) ?_ rfl ?_
      · exact ⟨intEq e1, trivial⟩
      rintro _ w6 j6 rfl
      conv => whnf
      refine vif_true (by simp only [decide_eq_true_eq]; omega) ?_
      conv => whnf
      refine vs_ixS (i + 1) rfl rfl hn1 ?_
      conv => whnf
      refine vs_arrG s[i + 1].toNat rfl rfl rfl s[i + 1].toNat_lt ?_
      conv => whnf
      refine vs_load1 rfl (hAs _ hB5 _ s[i + 1].toNat_lt) ?_
      rw [hn2]
      conv => whnf
      obtain ⟨t', ht'⟩ := hset
      refine VBack.mk ⟨_, ?_, (i + 1, cs.set m (.string (s.extract (wl s i).2 i))), rfl, ?_, ?_⟩
      · show s.size - (i + 1) < s.size - i; omega
      · refine ⟨rfl, ?_, ?_, trivial⟩
        · show Value.int .i64 (IntKind.i64.wrap ((m : Int) + 1)) = Value.int .i64 ((wl s (i + 1)).1.length : Nat)
          rw [e2, hws, List.length_append, ← hmm]; rfl
        · show _ = Value.int .i64 ((wl s (i + 1)).2 : Nat)
          rw [hws]; rfl
      · exact ⟨hlt, hB5, hb5, by show (cs.set m _).length = N; rw [List.length_set]; exact hcl, t', ht'⟩
  have hge : ¬ i < s.size := by have := of_decide_eq_false hge; omega
  obtain rfl : i = s.size := by omega
  have hend := hs.ends
  obtain ⟨m, hmm⟩ : ∃ m, m = (wl s s.size).1.length := ⟨_, rfl⟩
  rw [← hmm]
  have hmN : m < N := by omega
  conv => whnf
  refine vif_true (by simp only [decide_eq_true_eq]; omega) ?_
  conv => whnf
  refine vs_sliceSlo (wl s s.size).2 rfl rfl hle ?_
  conv => whnf
  refine vs_slI1 m rfl rfl rfl hmN ?_
  conv => whnf
  refine vs_storeP hb4 rfl rfl (by rw [hcl]; omega) ?_
  intro w5 hO5 hb5
  rw [Nat.zero_add] at hb5
  have hfin : cs.set m (.string (s.extract (wl s s.size).2 s.size)) = svals ((wl s s.size).1 ++ [s.extract (wl s s.size).2 s.size]) := by
    have hml : (svals (wl s s.size).1).length = m := by rw [hmm]; simp [svals]
    rw [hct] at hcl ⊢
    rw [List.set_append_right _ _ (by omega), hml, Nat.sub_self]
    rw [List.length_append, hml] at hcl
    match t, hcl with
    | [v], _ => simp [svals]
    | [], h => simp at h; omega
    | _ :: _ :: _, h => simp at h; omega
  rw [hfin] at hb5
  conv => whnf
  exact VEnd.mk ⟨w1.heap.size, by rw [hN]; rfl, hb5.at, hb5.lt, hB4.trans (hO5.below (Nat.le_refl _))⟩
end Go.Proofs.YtmnjmdajgilhiaaDoor.Ky

namespace Go.Proofs.YtmnjmdajgilhiaaDoor.Ky
open Go Go.RowKit Go.Proofs.YtmnjmdajgilhiaaDoor.Vc Go.Proofs.YtmnjmdajgilhiaaDoor.Id
attribute [local irreducible] loadVar storeVar Instr.indexAt Instr.index Instr.sliceAt Instr.makeSlice Instr.lookup Instr.mapUpdate Instr.range Instr.next Instr.entry Instr.makeMap Builtin.append_ Builtin.copy_ Builtin.len_ Builtin.min_ Builtin.max_ Builtin.cap_ Builtin.delete_ Builtin.clear_ convert binOp eqGuard Op.unary Calls

/-- a check of the program's own text of reserved words -/
def okW (s : ByteArray) : Bool :=
  decide (s.size ≤ 1000000) && decide (0 < s.size) && decide (spT ((bys s).getD 0 0).toNat = 0) &&
  ((List.range s.size).all fun i => decide (spT ((bys s).getD i 0).toNat = 0) || (decide (i + 1 < s.size) && decide (spT ((bys s).getD (i + 1) 0).toNat = 0))) &&
  decide (¬ (c1 (bys s) s.size).2.2 ≥ 128) && decide ((c1 (bys s) s.size).1 = ((wl s s.size).1.length + 1 : Nat)) && decide ((wl s s.size).2 < s.size) &&
  (((wl s s.size).1 ++ [s.extract (wl s s.size).2 s.size]).map bys == resv.map bys)
theorem bys_inj {a b : ByteArray} (h : bys a = bys b) : a = b := by
  obtain ⟨⟨x⟩⟩ := a
  obtain ⟨⟨y⟩⟩ := b
  have : x = y := h
  rw [this]
theorem map_bys_inj : ∀ (l m : List ByteArray), l.map bys = m.map bys → l = m := by
  intro l
  induction l with
  | nil => intro m h; cases m with
    | nil => rfl
    | cons _ _ => simp at h
  | cons a l ih => intro m h; cases m with
    | nil => simp at h
    | cons b m =>
      rw [List.map_cons, List.map_cons] at h
      injection h with h1 h2
      rw [bys_inj h1, ih m h2]
theorem okW_neat {s : ByteArray} (h : okW s = true) : Neat s ∧ (wl s s.size).1 ++ [s.extract (wl s s.size).2 s.size] = resv := by
  unfold okW at h
  simp only [Bool.and_eq_true, decide_eq_true_eq] at h
  obtain ⟨⟨⟨⟨⟨⟨⟨h1, h2⟩, h3⟩, h4⟩, h5⟩, h6⟩, h7⟩, h8⟩ := h
  refine ⟨⟨h1, fun _ => h3, fun i hi hne => ?_, h5, h6, h2, h7⟩, map_bys_inj _ _ (by simpa using h8)⟩
  have := List.all_eq_true.1 h4 i (by simpa using hi)
  simp only [Bool.or_eq_true, Bool.and_eq_true, decide_eq_true_eq] at this
  rcases this with h | h
  · exact absurd h hne
  · exact h
theorem fields_resv (s : ByteArray) (w : World) (hs : okW s = true) (hA : Asc w) :
    Ret Tryd.prog 66 #[.string s] w fun v w' => ∃ b, v = .slice (some ⟨b, 0, none⟩) 46 46 ∧ At w' b 0 (svals resv) ∧ b < w'.heap.size ∧ Below w.heap.size w w' := by
  obtain ⟨hn, hr⟩ := okW_neat hs
  refine (fields_ok s w hn hA).mono ?_
  rintro _ w' ⟨b, rfl, hat, hb⟩
  have hl : (wl s s.size).1.length + 1 = 46 := by
    have := congrArg List.length hr
    rw [resv_len] at this
    simpa using this
  rw [hr] at hat
  exact ⟨b, by rw [hl], hat, hb⟩
attribute [local irreducible] resv okW

set_option maxHeartbeats 1000000 in
set_option maxRecDepth 100000 in
theorem key1_ok (s : ByteArray) (w : World) (hA : Asc w) (hs : s.size ≤ 140737488355328) :
    Ret Tryd.prog 52 #[.string s] w fun v w' => v = .bool (keyB s) ∧ Below w.heap.size w w' := by
  refine ret_of_vc Tryd.func52 rfl mixed (by kernel_rfl) ?_
  have hk : keyB s = (decide (1 ≤ s.size) && decide (s.size ≤ 32) && wordB 0 (bys s) && !(resv.any fun r => sEq r s)) := rfl
  obtain ⟨kb, hkb⟩ : ∃ b, b = keyB s := ⟨_, rfl⟩
  rw [← hkb] at hk ⊢
  have hl := bys_len s
  conv => whnf
  refine vif_split (fun h1 => ?_) (fun h1 => ?_)
  · have h1 : ¬ 1 ≤ s.size := by have : (s.size : Int) < 1 := of_decide_eq_true h1; omega
    have : kb = false := by rw [hk]; simp [h1]
    subst this
    conv => whnf
    exact VEnd.mk ⟨rfl, Below.refl _ _⟩
  have h1 : 1 ≤ s.size := by have : ¬ (s.size : Int) < 1 := of_decide_eq_false h1; omega
  conv => whnf
  refine vif_split (fun h2 => ?_) (fun h2 => ?_)
  · have h2 : ¬ s.size ≤ 32 := by have : (s.size : Int) > 32 := of_decide_eq_true h2; omega
    have : kb = false := by rw [hk]; simp [h2]
    subst this
    conv => whnf
    exact VEnd.mk ⟨rfl, Below.refl _ _⟩
  have h2 : s.size ≤ 32 := by have : ¬ (s.size : Int) > 32 := of_decide_eq_false h2; omega
  have hk2 : kb = (wordB 0 (bys s) && !(resv.any fun r => sEq r s)) := by rw [hk]; simp [h1, h2]
  clear hk
  conv => whnf
  refine vs_rangeS rfl ?_
  intro w1 hB1 hI1
  conv => whnf
  refine vloop (X := Nat) ws52_1 (fun _ => []) (fun i w' => i ≤ s.size ∧ Below w.heap.size w w' ∧ Itr w' w.heap.size s i ∧ wordB 0 (bys s) = wordB i ((bys s).drop i)) (fun i => s.size - i) 0 (by kernel_rfl)
    ?_ ⟨Nat.zero_le _, hB1, hI1, rfl⟩ ?_
  · exact trivial
  rintro i w2 j ⟨hi, hB2, hI2, hp⟩
  clear hI1 hB1
  conv => whnf
  by_cases hlt : i < s.size
  · have hst := wordB_step (bys s) i (by omega)
    have hc : (bys s)[i]'(by omega) = s[i] := by simp; rfl
    rw [hc] at hst
    have hcb : s[i].toNat < 256 := s[i].toNat_lt
    rw [hst] at hp
    refine vs_next hI2 hlt (fun hpl w3 hO3 hI3 => ?_) (fun hnp w3 c q hO3 _ hc2 => ?_)
    · obtain ⟨c, hcc⟩ : ∃ c, c = s[i].toNat := ⟨_, rfl⟩
      have hno := okB_not i c
      have hyes := okB_iff i c
      rw [← hcc] at hp hpl ⊢
      have hB3 := hB2.trans (hO3.below (Nat.le_refl _))
      have e0 : okB i c = false → kb = false := fun h => by rw [hk2, hp, h]; rfl
      have e1 : okB i c = true → wordB 0 (bys s) = wordB (i + 1) ((bys s).drop (i + 1)) := fun h => by rw [hp, h]; rfl
      clear hst hc hcb hI2 hO3 hp
      conv => whnf
      (repeat' (refine vif_split (fun h => ?_) (fun h => ?_); all_goals (conv => whnf)))
      all_goals first
        | exact VEnd.mk ⟨congrArg Value.bool (e0 (hno.2 (by (try simp only [cond_true, cond_false, Bool.not_eq_true', Bool.not_eq_false', decide_eq_true_eq, decide_eq_false_iff_not, beq_iff_eq, bne_iff_ne, beq_eq_false_iff_ne, bne_eq_false_iff_eq, ne_eq, Bool.not_eq_eq_eq_not, Bool.not_true, Bool.not_false, Bool.false_eq_true, Bool.true_eq_false] at *) <;> omega))).symm, hB3⟩
        | exact VBack.mk ⟨_, (show s.size - (i + 1) < s.size - i by omega), i + 1, rfl, trivial, hlt, hB3, hI3, e1 (hyes.2 (by (try simp only [cond_true, cond_false, Bool.not_eq_true', Bool.not_eq_false', decide_eq_true_eq, decide_eq_false_iff_not, beq_iff_eq, bne_iff_ne, beq_eq_false_iff_ne, bne_eq_false_iff_eq, ne_eq, Bool.not_eq_eq_eq_not, Bool.not_true, Bool.not_false, Bool.false_eq_true, Bool.true_eq_false] at *) <;> omega))⟩
    · have hB3 := hB2.trans (hO3.below (Nat.le_refl _))
      have e0 : kb = false := by
        have : okB i s[i].toNat = false := (okB_not i _).2 (by omega)
        rw [hk2, hp, this]; rfl
      clear hst hc hcb hI2 hO3 hp
      subst e0
      conv => whnf
      (repeat' (refine vif_split (fun h => ?_) (fun h => ?_); all_goals (conv => whnf)))
      all_goals first
        | exact VEnd.mk ⟨rfl, hB3⟩
        | (exfalso; clear hk2; exact (by (try simp only [cond_true, cond_false, Bool.not_eq_true', Bool.not_eq_false', decide_eq_true_eq, decide_eq_false_iff_not, beq_iff_eq, bne_iff_ne, beq_eq_false_iff_ne, bne_eq_false_iff_eq, ne_eq, Bool.not_eq_eq_eq_not, Bool.not_true, Bool.not_false, Bool.false_eq_true, Bool.true_eq_false] at *) <;> omega))
  · obtain rfl : i = s.size := by omega
    rw [List.drop_of_length_le (by omega)] at hp
    have hp2 : wordB 0 (bys s) = true := hp
    have hk3 : kb = !(resv.any fun r => sEq r s) := by rw [hk2, hp2]; rfl
    refine vs_nextEnd hI2 (Nat.le_refl _) ?_
    conv => whnf
    refine vcall (by kernel_rfl) (fields_resv _ w2 (by kernel_rfl) (hA.below hB2)) ?_
    rintro _ w3 ⟨b, rfl, hA3, hb3, hB3⟩
    have hB3' := hB2.trans (hB3.mono hB2.size)
    clear hB3 hI2 hk2
    conv => whnf
    refine vloop (X := Nat) ws52_2 (fun i => [(52, .int .i64 i)]) (fun i w' => i ≤ 46 ∧ w' = w3 ∧ (resv.any fun r => sEq r s) = (resv.drop i).any fun r => sEq r s) (fun i => 46 - i) 0 (by kernel_rfl)
      ?_ ⟨Nat.zero_le _, rfl, rfl⟩ ?_
    · exact ⟨rfl, trivial⟩
    rintro i w4 j ⟨hi, rfl, hp⟩
    conv => whnf
    refine vif_split (fun hlt => ?_) (fun hge => ?_)
    · have hlt : i < 46 := by have := of_decide_eq_true hlt; omega
      have hil : i < resv.length := by rw [resv_len]; exact hlt
      rw [any_take _ _ i hil] at hp
      have hg := svals_get hil
      conv => whnf
      (repeat (first | (refine VReq.mk (by first | decide | omega) ?_; conv => whnf) | (refine VPend.mk rfl ?_; conv => whnf) | (refine VNext.keep rfl ?_; conv => whnf) | (refine vs_slI1 _ rfl rfl rfl (by assumption) ?_; conv => whnf) | (refine vs_slI _ rfl rfl rfl (by assumption) ?_; conv => whnf) | (refine vs_arr1 _ rfl rfl rfl (by assumption) ?_; conv => whnf) | (refine vs_loadF (by with_reducible assumption) (by assumption) rfl rfl ?_; conv => whnf) | (refine vs_loadF0 (by with_reducible assumption) (by assumption) rfl rfl ?_; conv => whnf) | (refine vs_loadI (by with_reducible assumption) (by assumption) rfl ?_; conv => whnf) | (refine vs_loadB rfl (by with_reducible assumption) (by assumption) ?_; conv => whnf)))
      refine vif_split (fun h => ?_) (fun h => ?_)
      · have : kb = false := by rw [hk3, hp, h]; rfl
        subst this
        conv => whnf
        exact VEnd.mk ⟨rfl, hB3'⟩
      · rw [h, Bool.false_or] at hp
        conv => whnf
        refine VBack.mk ⟨_, ?_, (i + 1), rfl, ?_, ?_⟩
        · show 46 - (i + 1) < 46 - i; omega
        · exact ⟨intEq (incr (by omega)), trivial⟩
        · exact ⟨hlt, rfl, hp⟩
    · have hge : ¬ i < 46 := by have := of_decide_eq_false hge; omega
      obtain rfl : i = 46 := by omega
      rw [List.drop_of_length_le (by rw [resv_len]; exact Nat.le_refl _)] at hp
      have : kb = true := by rw [hk3, hp]; rfl
      subst this
      conv => whnf
      exact VEnd.mk ⟨rfl, hB3'⟩
end Go.Proofs.YtmnjmdajgilhiaaDoor.Ky
