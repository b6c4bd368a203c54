/- Joined parts of the proof. The walks of the reference's Word, Reserved and Key -/
import Derived.Test.YtmhpfadbmpipkaaGreatDoorPk8
import Derived.Test.YtmhpfadbmpipkaaGreatDoorPk2
import Derived.Test.YtmhpfadbmpipkaaGreatDoorProg
import Derived.Test.YtmhpfadbmpipkaaGreatDoorPk7
import Derived.Test.YtmhpfadbmpipkaaGreatDoorPk1
set_option linter.unusedVariables false
set_option linter.unusedSimpArgs false
set_option maxRecDepth 100000
set_option maxHeartbeats 16000000
namespace Go.Proofs.YtmhpfadbmpipkaaGreatDoor.Ky
open Go Go.RowKit Go.Proofs.YtmhpfadbmpipkaaGreatDoor.Vc Go.Proofs.YtmhpfadbmpipkaaGreatDoor.Id
attribute [local irreducible] loadVar storeVar Instr.indexAt Instr.index Instr.sliceAt Instr.makeSlice Instr.lookup Instr.mapUpdate Instr.range Instr.next Instr.entry Instr.makeMap Builtin.append_ Builtin.copy_ Builtin.len_ Builtin.min_ Builtin.max_ Builtin.cap_ Builtin.delete_ Builtin.clear_ convert binOp eqGuard Op.unary Calls
section
theorem mixed : Tryz.prog.follows .mixedOrders = true := by kernel_rfl
def okB (i c : Nat) : Bool := (decide (97 ≤ c) && decide (c ≤ 122)) || (!decide (i = 0) && ((decide (48 ≤ c) && decide (c ≤ 57)) || decide (c = 45) || decide (c = 95)))
theorem okB_iff (i c : Nat) : okB i c = true ↔ (97 ≤ c ∧ c ≤ 122) ∨ (i ≠ 0 ∧ ((48 ≤ c ∧ c ≤ 57) ∨ c = 45 ∨ c = 95)) := by
 simp [okB, or_assoc]
theorem okB_not (i c : Nat) : okB i c = false ↔ ¬ ((97 ≤ c ∧ c ≤ 122) ∨ (i ≠ 0 ∧ ((48 ≤ c ∧ c ≤ 57) ∨ c = 45 ∨ c = 95))) := by
 rw [← okB_iff]; simp
def wordB : Nat → List UInt8 → Bool
 | _, [] => true
 | i, c :: l => okB i c.toNat && wordB (i + 1) l
theorem wordB_step (l : List UInt8) (i : Nat) (h : i < l.length) : wordB i (l.drop i) = (okB i l[i].toNat && wordB (i + 1) (l.drop (i + 1))) := by
 rw [List.drop_eq_getElem_cons h]; rfl
theorem word_ok (s : ByteArray) (w : World) (hs : s.size ≤ 140737488355328) :
  Ret Tryz.prog 88 #[.string s] w fun v w' => v = .bool (wordB 0 (bys s) && decide (1 ≤ s.size)) ∧ w' = w := by
 refine ret_of_vc Tryz.func88 rfl mixed (by kernel_rfl) ?_
 have hl := bys_len s
 conv => whnf
 refine vloop (X := Nat) ws88_1 (fun i => [(3, .int .i64 i)]) (fun i w' => i ≤ s.size ∧ w' = w ∧ wordB 0 (bys s) = wordB i ((bys s).drop i)) (fun i => s.size - i) 0 (by kernel_rfl)
  ?_ ⟨Nat.zero_le _, rfl, rfl⟩ ?_
 ·exact ⟨rfl, trivial⟩
 rintro i w1 j ⟨hi, rfl, hp⟩
 conv => whnf
 refine vif_split (fun hlt => ?_) (fun hge => ?_)
 ·have hlt : i < s.size := by have := of_decide_eq_true hlt; omega
  have hst := wordB_step (bys s) i (by omega)
  have hc : (bys s)[i]'(by omega) = s[i] := by simp; rfl
  rw [hc] at hst
  have hcb : s[i].toNat < 256 := s[i].toNat_lt
  obtain ⟨c, hcc⟩ : ∃ c, c = s[i].toNat := ⟨_, rfl⟩
  rw [hst] at hp
  rw [hp]
  have hno := okB_not i c
  have hyes := okB_iff i c
  rw [← hcc] at hcb ⊢ hp
  conv => whnf
  refine vs_ixS i rfl rfl hlt ?_
  rw [← hcc]
  conv => whnf
  clear hst hc hp
  have e0 : okB i c = false → (okB i c && wordB (i + 1) ((bys s).drop (i + 1)) && decide (1 ≤ s.size)) = false := fun h => by rw [h]; rfl
  have e1 : okB i c = true → (okB i c && wordB (i + 1) ((bys s).drop (i + 1))) = wordB (i + 1) ((bys s).drop (i + 1)) := fun h => by rw [h]; rfl
  (repeat' (apply vif_split <;> intro h; all_goals (conv => whnf)))
  all_goals first
   | exact VEnd.mk ⟨congrArg Value.bool (e0 (hno.2 (by (try simp only [cond_true, cond_false, Bool.not_eq_true', Bool.not_eq_false', decide_eq_true_eq, decide_eq_false_iff_not, beq_iff_eq, bne_iff_ne, beq_eq_false_iff_ne, bne_eq_false_iff_eq, ne_eq, Bool.not_eq_eq_eq_not, Bool.not_true, Bool.not_false, Bool.false_eq_true, Bool.true_eq_false] at *) <;> omega))).symm, rfl⟩
   | exact VBack.mk ⟨_, (show s.size - (i + 1) < s.size - i by omega), i + 1, rfl, ⟨intEq (incr (by omega)), trivial⟩, hlt, rfl, e1 (hyes.2 (by (try simp only [cond_true, cond_false, Bool.not_eq_true', Bool.not_eq_false', decide_eq_true_eq, decide_eq_false_iff_not, beq_iff_eq, bne_iff_ne, beq_eq_false_iff_ne, bne_eq_false_iff_eq, ne_eq, Bool.not_eq_eq_eq_not, Bool.not_true, Bool.not_false, Bool.false_eq_true, Bool.true_eq_false] at *) <;> omega))⟩
 ·have hge : ¬ i < s.size := by have := of_decide_eq_false hge; omega
  obtain rfl : i = s.size := by omega
  rw [List.drop_of_length_le (by omega)] at hp
  have hp2 : wordB 0 (bys s) = true := hp
  rw [hp2]
  conv => whnf
  exact VEnd.mk ⟨by show Value.bool _ = _; simp; omega, rfl⟩
def resv : List ByteArray := [⟨#[97, 110, 100]⟩, ⟨#[97, 114, 109, 115]⟩, ⟨#[97, 116, 116, 114, 105, 98, 117, 116, 101]⟩, ⟨#[98, 111, 111, 108]⟩, ⟨#[99, 108, 97, 105, 109, 115]⟩, ⟨#[99, 111, 110, 116, 97, 105, 110, 115]⟩, ⟨#[99, 111, 111, 108]⟩, ⟨#[99, 111, 111, 108, 105, 110, 103]⟩, ⟨#[100, 101, 102, 97, 117, 108, 116]⟩, ⟨#[100, 114, 97, 102, 116]⟩, ⟨#[101, 110, 100, 115]⟩, ⟨#[101, 120, 99, 108, 117, 100, 101]⟩, ⟨#[101, 120, 105, 115, 116, 115]⟩, ⟨#[101, 120, 112, 101, 114, 105, 109, 101, 110, 116]⟩, ⟨#[102, 97, 108, 115, 101]⟩, ⟨#[102, 108, 97, 103]⟩, ⟨#[104, 111, 108, 100, 111, 117, 116]⟩, ⟨#[105, 110]⟩, ⟨#[105, 110, 99, 108, 117, 100, 101]⟩, ⟨#[105, 115]⟩, ⟨#[108, 97, 121, 101, 114]⟩, ⟨#[108, 105, 115, 116]⟩, ⟨#[109, 101, 109, 98, 101, 114]⟩, ⟨#[110, 101, 101, 100, 115]⟩, ⟨#[110, 111, 116]⟩, ⟨#[110, 117, 109, 98, 101, 114]⟩, ⟨#[111, 102, 102]⟩, ⟨#[111, 110]⟩, ⟨#[111, 114]⟩, ⟨#[114, 117, 108, 101]⟩, ⟨#[114, 117, 110, 110, 105, 110, 103]⟩, ⟨#[115, 97, 108, 116]⟩, ⟨#[115, 101, 103, 109, 101, 110, 116]⟩, ⟨#[115, 101, 114, 118, 101]⟩, ⟨#[115, 101, 116, 116, 105, 110, 103, 115]⟩, ⟨#[115, 112, 108, 105, 116]⟩, ⟨#[115, 116, 97, 114, 116, 115]⟩, ⟨#[115, 116, 111, 112, 112, 101, 100]⟩, ⟨#[116, 97, 114, 103, 101, 116]⟩, ⟨#[116, 101, 120, 116]⟩, ⟨#[116, 111]⟩, ⟨#[116, 114, 117, 101]⟩, ⟨#[117, 110, 116, 105, 108]⟩, ⟨#[118, 97, 114, 105, 97, 116, 105, 111, 110, 115]⟩, ⟨#[118, 101, 114, 115, 105, 111, 110]⟩, ⟨#[119, 104, 101, 110]⟩]
def keyB (s : ByteArray) : Bool := decide (1 ≤ s.size) && decide (s.size ≤ 32) && wordB 0 (bys s) && !(resv.any fun r => sEq r s)
theorem any_take (l : List ByteArray) (f : ByteArray → Bool) (i : Nat) (h : i < l.length) : (l.drop i).any f = (f l[i] || (l.drop (i + 1)).any f) := by
 rw [List.drop_eq_getElem_cons h]; rfl
def svals (l : List ByteArray) : List Value := l.map .string
theorem svals_get {l : List ByteArray} {j : Nat} (h : j < l.length) : (svals l)[j]? = some (.string l[j]) := by simp [svals, h]
theorem reserved_ok (w : World) : Ret Tryz.prog 89 #[] w fun v w' => v = .slice (some ⟨w.heap.size, 0, none⟩) 46 46 ∧ At w' w.heap.size 0 (svals resv) ∧ w.heap.size < w'.heap.size ∧ Below w.heap.size w w' := by
 refine ret_of_vc Tryz.func89 rfl mixed (by kernel_rfl) ?_
 conv => whnf
 refine VEnd.mk ⟨rfl, ?_, by simp, balloc (Below.refl _ _) (Nat.le_refl _) _⟩
 exact (Blk.new w _ _).at
theorem resv_len : resv.length = 46 := rfl
attribute [local irreducible] resv
theorem key2_ok (s : ByteArray) (w : World) (hs : s.size ≤ 140737488355328) :
  Ret Tryz.prog 51 #[.string s] w fun v w' => v = .bool (keyB s) ∧ Below w.heap.size w w' := by
 refine ret_of_vc Tryz.func51 rfl mixed (by kernel_rfl) ?_
 have hk : keyB s = (decide (1 ≤ s.size) && decide (s.size ≤ 32) && wordB 0 (bys s) && !(resv.any fun r => sEq r s)) := rfl
 obtain ⟨kb, hkb⟩ : ∃ b, b = keyB s := ⟨_, rfl⟩
 rw [← hkb] at hk ⊢
 conv => whnf
 refine vcall (by kernel_rfl) (word_ok s w hs) ?_
 rintro _ w1 ⟨rfl, rfl⟩
 obtain ⟨wb, hwb⟩ : ∃ b, b = wordB 0 (bys s) := ⟨_, rfl⟩
 rw [← hwb] at hk ⊢
 conv => whnf
 refine vif_split (fun h1 => ?_) (fun h1 => ?_)
 ·have : kb = false := by rw [hk]; cases wb <;> simp_all
  subst this
  conv => whnf
  exact VEnd.mk ⟨rfl, Below.refl _ _⟩
 have h1 : wb = true ∧ 1 ≤ s.size := by cases wb <;> simp_all
 conv => whnf
 refine vif_split (fun h2 => ?_) (fun h2 => ?_)
 ·have h2 : ¬ s.size ≤ 32 := by have : (s.size : Int) > 32 := of_decide_eq_true h2; omega
  have : kb = false := by rw [hk]; simp [h2]
  subst this
  conv => whnf
  exact VEnd.mk ⟨rfl, Below.refl _ _⟩
 have h2 : s.size ≤ 32 := by have : ¬ (s.size : Int) > 32 := of_decide_eq_false h2; omega
 have hk2 : kb = !(resv.any fun r => sEq r s) := by rw [hk, h1.1]; simp [h1.2, h2]
 conv => whnf
 refine vcall (by kernel_rfl) (reserved_ok w1) ?_
 rintro _ w2 ⟨rfl, hA, hlt2, hB⟩
 clear hk
 conv => whnf
 refine vloop (X := Nat) ws51_1 (fun i => [(4, .int .i64 i)]) (fun i w' => i ≤ 46 ∧ w' = w2 ∧ (resv.any fun r => sEq r s) = (resv.drop i).any fun r => sEq r s) (fun i => 46 - i) 0 (by kernel_rfl)
  ?_ ⟨Nat.zero_le _, rfl, rfl⟩ ?_
 ·exact ⟨rfl, trivial⟩
 rintro i w3 j ⟨hi, rfl, hp⟩
 conv => whnf
 refine vif_split (fun hlt => ?_) (fun hge => ?_)
 ·have hlt : i < 46 := by have := of_decide_eq_true hlt; omega
  have hil : i < resv.length := by rw [resv_len]; exact hlt
  rw [any_take _ _ i hil] at hp
  have hg := svals_get hil
  conv => whnf
  (repeat (first | (refine VReq.mk (by first | decide | omega) ?_; conv => whnf) | (refine VPend.mk rfl ?_; conv => whnf) | (refine VNext.keep rfl ?_; conv => whnf) | (refine vs_slI1 _ rfl rfl rfl (by assumption) ?_; conv => whnf) | (refine vs_slI _ rfl rfl rfl (by assumption) ?_; conv => whnf) | (refine vs_arr1 _ rfl rfl rfl (by assumption) ?_; conv => whnf) | (refine vs_loadF (by with_reducible assumption) (by assumption) rfl rfl ?_; conv => whnf) | (refine vs_loadF0 (by with_reducible assumption) (by assumption) rfl rfl ?_; conv => whnf) | (refine vs_loadI (by with_reducible assumption) (by assumption) rfl ?_; conv => whnf) | (refine vs_loadB rfl (by with_reducible assumption) (by assumption) ?_; conv => whnf)))
  apply vif_split <;> intro h
  ·have : kb = false := by rw [hk2, hp, h]; rfl
   subst this
   conv => whnf
   exact VEnd.mk ⟨rfl, hB⟩
  ·rw [h, Bool.false_or] at hp
   conv => whnf
   refine VBack.mk ⟨_, ?_, (i + 1), rfl, ?_, ?_⟩
   ·show 46 - (i + 1) < 46 - i; omega
   ·exact ⟨intEq (incr (by omega)), trivial⟩
   ·exact ⟨hlt, rfl, hp⟩
 ·have hge : ¬ i < 46 := by have := of_decide_eq_false hge; omega
  obtain rfl : i = 46 := by omega
  rw [List.drop_of_length_le (by rw [resv_len]; exact Nat.le_refl _)] at hp
  have : kb = true := by rw [hk2, hp]; rfl
  subst this
  conv => whnf
  exact VEnd.mk ⟨rfl, hB⟩
end
section
def spT (c : Nat) : Int := if (9 ≤ c ∧ c ≤ 13) ∨ c = 32 then 1 else 0
def Asc (w : World) : Prop := 0 < w.heap.size ∧ ∀ c, c < 256 → w.cell? ⟨0, c, none⟩ = some (.int .u8 (spT c))
theorem Asc.below {w w' : World} (h : Asc w) (hB : Below w.heap.size w w') : Asc w' := ⟨Nat.lt_of_lt_of_le h.1 hB.size, fun c hc => by rw [hB.cell (p := ⟨0, c, none⟩) h.1]; exact h.2 c hc⟩
theorem vs_xorU {P : Program} {w : World} {K : Value → World → Prop} {k : IntKind} {n : Int} (c : K (.int k (bitsOp .xor k (if k.signed then -1 else k.max) n)) w) : VSem P (Op.unary .xor (.int k n)) w K := by
 refine vsem ?_ c
 simp [Op.unary, Op.intBits, bitsOp]
theorem vs_sliceSlo {P : Program} {w : World} {K : Value → World → Prop} {t : TypeId} {s : ByteArray} {kl : IntKind} {lo : Int} (a : Nat) (ha : lo = a) (hu : P.underlying t = some .string) (h : a ≤ s.size)
  (c : K (.string (s.extract a s.size)) w) : VSem P (Instr.sliceAt t (.string s) (some (.int kl lo)) none none) w K := by
 refine vsem ?_ c
 subst ha
 unfold Instr.sliceAt
 rw [Sem.run_bind, run_under hu]
 simp only [Result.andThen_ok]
 unfold Instr.slice
 rw [Sem.run_bind, run_under hu]
 have h1 : (0 : Int) ≤ a ∧ (a : Int) ≤ s.size := ⟨by omega, by omega⟩
 simp [Instr.sliceBounds, Instr.sliceBound, asIntOf, h1, h]
theorem vs_arrG {P : Program} {w : World} {K : Value → World → Prop} {t e : TypeId} {n b : Nat} {k : IntKind} {ix : Int} (m : Nat) (hm : ix = m) (hu : P.underlying t = some (.array n e)) (hs : szB P e = some 1) (h : m < n)
  (hk : K (.pointer (some ⟨b, m, none⟩)) w) : VSem P (Instr.indexAt t (.pointer (some ⟨b, 0, none⟩)) (.int k ix)) w K :=
 vs_arr1 m hu hs hm h (by rw [Nat.zero_add]; exact hk)
def c1 (l : List UInt8) : Nat → Int × Int × Int
 | 0 => (0, 1, 0)
 | i + 1 => (IntKind.i64.wrap ((c1 l i).1 + bitsOp .and .i64 (c1 l i).2.1 (bitsOp .xor .i64 (-1) (IntKind.i64.wrap (spT (l.getD i 0).toNat)))), IntKind.i64.wrap (spT (l.getD i 0).toNat), bitsOp .or .u8 (c1 l i).2.2 ((l.getD i 0).toNat : Nat))
theorem c1_succ (l : List UInt8) (i : Nat) : c1 l (i + 1) = (IntKind.i64.wrap ((c1 l i).1 + bitsOp .and .i64 (c1 l i).2.1 (bitsOp .xor .i64 (-1) (IntKind.i64.wrap (spT (l.getD i 0).toNat)))), IntKind.i64.wrap (spT (l.getD i 0).toNat), bitsOp .or .u8 (c1 l i).2.2 ((l.getD i 0).toNat : Nat)) := rfl
def wl (s : ByteArray) : Nat → List ByteArray × Nat
 | 0 => ([], 0)
 | i + 1 => if spT ((bys s).getD i 0).toNat = 0 then wl s i else ((wl s i).1 ++ [s.extract (wl s i).2 i], i + 1)
theorem wl_succ (s : ByteArray) (i : Nat) : wl s (i + 1) = if spT ((bys s).getD i 0).toNat = 0 then wl s i else ((wl s i).1 ++ [s.extract (wl s i).2 i], i + 1) := rfl
theorem wl_le (s : ByteArray) (i : Nat) : (wl s i).2 ≤ i := by
 induction i with
 | zero => exact Nat.le_refl _
 | succ i ih => rw [wl_succ]; split; exact Nat.le_succ_of_le ih; exact Nat.le_refl _
theorem wl_mono (s : ByteArray) (i : Nat) : ∀ d, (wl s i).1.length ≤ (wl s (i + d)).1.length := by
 intro d
 induction d with
 | zero => exact Nat.le_refl _
 | succ d ih => rw [← Nat.add_assoc, wl_succ]; split; exact ih; simp only [List.length_append, List.length_cons, List.length_nil]; omega
structure Neat (s : ByteArray) : Prop where
 size : s.size ≤ 1000000
 first : 0 < s.size → spT ((bys s).getD 0 0).toNat = 0
 next : ∀ i, i < s.size → spT ((bys s).getD i 0).toNat ≠ 0 → i + 1 < s.size ∧ spT ((bys s).getD (i + 1) 0).toNat = 0
 plain : ¬ (c1 (bys s) s.size).2.2 ≥ 128
 count : (c1 (bys s) s.size).1 = ((wl s s.size).1.length + 1 : Nat)
 some : 0 < s.size
 ends : (wl s s.size).2 < s.size
theorem spT_01 (c : Nat) : spT c = 0 ∨ spT c = 1 := by unfold spT; split; exact .inr rfl; exact .inl rfl
attribute [local irreducible] c1 wl spT
theorem fields_ok (s : ByteArray) (w : World) (hs : Neat s) (hA : Asc w) :
  Ret Tryz.prog 72 #[.string s] w fun v w' => ∃ b, v = .slice (some ⟨b, 0, none⟩) ((wl s s.size).1.length + 1) ((wl s s.size).1.length + 1) ∧ At w' b 0 (svals ((wl s s.size).1 ++ [s.extract (wl s s.size).2 s.size])) ∧ b < w'.heap.size ∧ Below w.heap.size w w' := by
 refine ret_of_vc Tryz.func72 rfl mixed (by kernel_rfl) ?_
 have hl := bys_len s
 have hsz := hs.size
 have hby : ∀ i (h : i < s.size), (bys s).getD i 0 = s[i] := fun i h => by
  rw [List.getD_eq_getElem?_getD, List.getElem?_eq_getElem (by rw [hl]; exact h)]; simp; rfl
 conv => whnf
 refine vloop (X := Nat) ws72_1 (fun i => [(6, .int .i64 i), (3, .int .i64 (c1 (bys s) i).1), (4, .int .i64 (c1 (bys s) i).2.1), (5, .int .u8 (c1 (bys s) i).2.2)]) (fun i w' => i ≤ s.size ∧ w' = w) (fun i => s.size - i) 0 (by kernel_rfl)
  ?_ ⟨Nat.zero_le _, rfl⟩ ?_
 ·exact ⟨rfl, by unfold c1; rfl, by unfold c1; rfl, by unfold c1; rfl, trivial⟩
 rintro i w1 j ⟨hi, rfl⟩
 conv => whnf
 refine vif_split (fun hlt => ?_) (fun hge => ?_)
 ·have hlt : i < s.size := by have := of_decide_eq_true hlt; omega
  have hcb : s[i].toNat < 256 := s[i].toNat_lt
  have hcell := hA.2 s[i].toNat hcb
  have hsc := c1_succ (bys s) i
  rw [hby i hlt] at hsc
  conv => whnf
  refine vs_ixS i rfl rfl hlt ?_
  conv => whnf
  refine vs_arrG s[i].toNat rfl rfl rfl hcb ?_
  conv => whnf
  refine vs_load1 rfl hcell ?_
  conv => whnf
  refine vs_xorU ?_
  conv => whnf
  refine VBack.mk ⟨_, ?_, (i + 1), rfl, ?_, ?_⟩
  ·show s.size - (i + 1) < s.size - i; omega
  ·exact ⟨intEq (incr (by omega)), intEq (by rw [hsc]; rfl), intEq (by rw [hsc]), intEq (by rw [hsc]), trivial⟩
  ·exact ⟨hlt, rfl⟩
 have hge : ¬ i < s.size := by have := of_decide_eq_false hge; omega
 obtain rfl : i = s.size := by omega
 have hpl := hs.plain
 have hcn := hs.count
 conv => whnf
 refine vif_false (by simpa using hpl) ?_
 rw [hcn]
 have hW : (wl s s.size).1.length ≤ s.size := by
  have : ∀ i, (wl s i).1.length ≤ i := fun i => by
   induction i with
   | zero => unfold wl; exact Nat.le_refl _
   | succ i ih => rw [wl_succ]; split; exact Nat.le_succ_of_le ih; simp only [List.length_append, List.length_cons, List.length_nil]; omega
  exact this _
 obtain ⟨N, hN⟩ : ∃ N, N = (wl s s.size).1.length + 1 := ⟨_, rfl⟩
 rw [← hN]
 conv => whnf
 refine vs_make (n := N) (by_ := 16) (sz := 1) (zs := [.string ⟨#[]⟩]) rfl rfl rfl rfl rfl rfl rfl rfl (by omega) (by unfold maxLen; omega) ?_
 intro w2 hw2 hb2
 rw [rep_one] at hb2
 have hB2 : Below w1.heap.size w1 w2 := by rw [hw2]; exact balloc (Below.refl _ _) (Nat.le_refl _) _
 clear hw2
 conv => whnf
 have hAs : ∀ w', Below w1.heap.size w1 w' → ∀ c, c < 256 → w'.cell? ⟨0, c, none⟩ = some (.int .u8 (spT c)) := fun w' hB c hc => (hA.below hB).2 c hc
 have h0s := hs.some
 have h0 := hs.first h0s
 rw [hby 0 h0s] at h0
 refine vloop (X := Unit) ws72_2 (fun _ => [(12, .int .i64 ((0 : Nat) : Int))]) (fun _ w' => w' = w2) (fun _ => 0) () (by kernel_rfl) ?_ rfl ?_
 ·exact ⟨rfl, trivial⟩
 rintro _ w3 j3 rfl
 conv => whnf
 refine vif_true (by simpa using h0s) ?_
 conv => whnf
 refine vs_ixS 0 rfl rfl h0s ?_
 conv => whnf
 refine vs_arrG s[0].toNat rfl rfl rfl s[0].toNat_lt ?_
 conv => whnf
 refine vs_load1 rfl (hAs _ hB2 _ s[0].toNat_lt) ?_
 rw [h0]
 conv => whnf
 refine vloop (X := Nat × List Value) ws72_3 (fun x => [(12, .int .i64 x.1), (10, .int .i64 ((wl s x.1).1.length : Nat)), (11, .int .i64 ((wl s x.1).2 : Nat))]) (fun x w' => x.1 ≤ s.size ∧ Below w1.heap.size w1 w' ∧ Blk w' w1.heap.size x.2 9 ∧ x.2.length = N ∧ ∃ t, x.2 = svals (wl s x.1).1 ++ t) (fun x => s.size - x.1) (0, List.replicate N (.string ⟨#[]⟩)) (by kernel_rfl)
  ?_ ⟨Nat.zero_le _, hB2, hb2, by simp, _, by unfold wl; rfl⟩ ?_
 ·exact ⟨rfl, by unfold wl; rfl, by unfold wl; rfl, trivial⟩
 clear hb2 hB2
 rintro ⟨i, cs⟩ w4 j4 ⟨hi, hB4, hb4, hcl, t, hct⟩
 simp only at hi hb4 hcl hct ⊢
 have hws := wl_succ s i
 have hle := wl_le s i
 conv => whnf
 refine vif_split (fun hlt => ?_) (fun hge => ?_)
 ·have hlt : i < s.size := by have := of_decide_eq_true hlt; omega
  rw [hby i hlt] at hws
  have hcb : s[i].toNat < 256 := s[i].toNat_lt
  conv => whnf
  refine vs_ixS i rfl rfl hlt ?_
  conv => whnf
  refine vs_arrG s[i].toNat rfl rfl rfl hcb ?_
  conv => whnf
  refine vs_load1 rfl (hAs _ hB4 _ hcb) ?_
  conv => whnf
  rcases spT_01 s[i].toNat with h1 | h1
  ·rw [h1]
   rw [if_pos h1] at hws
   conv => whnf
   refine VBack.mk ⟨_, ?_, (i + 1, cs), rfl, ?_, ?_⟩
   ·show s.size - (i + 1) < s.size - i; omega
   ·exact ⟨intEq (incr (by omega)), by show _ = Value.int .i64 ((wl s (i + 1)).1.length : Nat); rw [hws]; rfl, by show _ = Value.int .i64 ((wl s (i + 1)).2 : Nat); rw [hws]; rfl, trivial⟩
   ·exact ⟨hlt, hB4, hb4, hcl, t, by rw [hws]; exact hct⟩
  ·rw [h1]
   rw [if_neg (by rw [h1]; decide)] at hws
   obtain ⟨hn1, hn2⟩ := hs.next i hlt (by rw [hby i hlt, h1]; decide)
   rw [hby (i + 1) hn1] at hn2
   have hm := wl_mono s (i + 1) (s.size - (i + 1))
   rw [show i + 1 + (s.size - (i + 1)) = s.size by omega, hws] at hm
   simp only [List.length_append, List.length_cons, List.length_nil] at hm
   obtain ⟨m, hmm⟩ : ∃ m, m = (wl s i).1.length := ⟨_, rfl⟩
   rw [← hmm] at hm ⊢
   have hmN : m < N := by omega
   conv => whnf
   refine vs_sliceS (wl s i).2 i rfl rfl rfl hle (by omega) ?_
   conv => whnf
   refine vs_slI1 m rfl rfl rfl hmN ?_
   conv => whnf
   refine vs_storeP hb4 rfl rfl (by rw [hcl]; omega) ?_
   intro w5 hO5 hb5
   rw [Nat.zero_add] at hb5
   have hB5 := hB4.trans (hO5.below (Nat.le_refl _))
   have hset : ∃ t', cs.set m (.string (s.extract (wl s i).2 i)) = svals (wl s (i + 1)).1 ++ t' := by
    rw [hct, hws]
    have hml : (svals (wl s i).1).length = m := by rw [hmm]; simp [svals]
    rw [List.set_append_right _ _ (by omega), hml, Nat.sub_self]
    cases t with
    | nil => rw [hct, List.append_nil, hml] at hcl; omega
    | cons v t => exact ⟨t, by simp [svals]⟩
   clear hb4 hO5
   conv => whnf
   have e1 : IntKind.i64.wrap ((i : Int) + 1) = ((i + 1 : Nat) : Int) := incr (by omega)
   have e2 : IntKind.i64.wrap ((m : Int) + 1) = ((m + 1 : Nat) : Int) := incr (by omega)
   refine vloop (X := Unit) ws72_4 (fun _ => [(12, .int .i64 ((i + 1 : Nat) : Int))]) (fun _ w' => w' = w5) (fun _ => 0) () (by kernel_rfl) ?_ rfl ?_
   ·exact ⟨intEq e1, trivial⟩
   rintro _ w6 j6 rfl
   conv => whnf
   refine vif_true (by simp only [decide_eq_true_eq]; omega) ?_
   conv => whnf
   refine vs_ixS (i + 1) rfl rfl hn1 ?_
   conv => whnf
   refine vs_arrG s[i + 1].toNat rfl rfl rfl s[i + 1].toNat_lt ?_
   conv => whnf
   refine vs_load1 rfl (hAs _ hB5 _ s[i + 1].toNat_lt) ?_
   rw [hn2]
   conv => whnf
   obtain ⟨t', ht'⟩ := hset
   refine VBack.mk ⟨_, ?_, (i + 1, cs.set m (.string (s.extract (wl s i).2 i))), rfl, ?_, ?_⟩
   ·show s.size - (i + 1) < s.size - i; omega
   ·refine ⟨rfl, ?_, ?_, trivial⟩
    ·show Value.int .i64 (IntKind.i64.wrap ((m : Int) + 1)) = Value.int .i64 ((wl s (i + 1)).1.length : Nat)
     rw [e2, hws, List.length_append, ← hmm]; rfl
    ·show _ = Value.int .i64 ((wl s (i + 1)).2 : Nat)
     rw [hws]; rfl
   ·exact ⟨hlt, hB5, hb5, by show (cs.set m _).length = N; rw [List.length_set]; exact hcl, t', ht'⟩
 have hge : ¬ i < s.size := by have := of_decide_eq_false hge; omega
 obtain rfl : i = s.size := by omega
 have hend := hs.ends
 obtain ⟨m, hmm⟩ : ∃ m, m = (wl s s.size).1.length := ⟨_, rfl⟩
 rw [← hmm]
 have hmN : m < N := by omega
 conv => whnf
 refine vif_true (by simp only [decide_eq_true_eq]; omega) ?_
 conv => whnf
 refine vs_sliceSlo (wl s s.size).2 rfl rfl hle ?_
 conv => whnf
 refine vs_slI1 m rfl rfl rfl hmN ?_
 conv => whnf
 refine vs_storeP hb4 rfl rfl (by rw [hcl]; omega) ?_
 intro w5 hO5 hb5
 rw [Nat.zero_add] at hb5
 have hfin : cs.set m (.string (s.extract (wl s s.size).2 s.size)) = svals ((wl s s.size).1 ++ [s.extract (wl s s.size).2 s.size]) := by
  have hml : (svals (wl s s.size).1).length = m := by rw [hmm]; simp [svals]
  rw [hct] at hcl ⊢
  rw [List.set_append_right _ _ (by omega), hml, Nat.sub_self]
  rw [List.length_append, hml] at hcl
  match t, hcl with
  | [v], _ => simp [svals]
  | [], h => simp at h; omega
  | _ :: _ :: _, h => simp at h; omega
 rw [hfin] at hb5
 conv => whnf
 exact VEnd.mk ⟨w1.heap.size, by rw [hN]; rfl, hb5.at, hb5.lt, hB4.trans (hO5.below (Nat.le_refl _))⟩
end
section
def okW (s : ByteArray) : Bool :=
 decide (s.size ≤ 1000000) && decide (0 < s.size) && decide (spT ((bys s).getD 0 0).toNat = 0) &&
 ((List.range s.size).all fun i => decide (spT ((bys s).getD i 0).toNat = 0) || (decide (i + 1 < s.size) && decide (spT ((bys s).getD (i + 1) 0).toNat = 0))) &&
 decide (¬ (c1 (bys s) s.size).2.2 ≥ 128) && decide ((c1 (bys s) s.size).1 = ((wl s s.size).1.length + 1 : Nat)) && decide ((wl s s.size).2 < s.size) &&
 (((wl s s.size).1 ++ [s.extract (wl s s.size).2 s.size]).map bys == resv.map bys)
theorem bys_inj {a b : ByteArray} (h : bys a = bys b) : a = b := by
 obtain ⟨⟨x⟩⟩ := a
 obtain ⟨⟨y⟩⟩ := b
 have : x = y := h
 rw [this]
theorem map_bys_inj : ∀ (l m : List ByteArray), l.map bys = m.map bys → l = m := by
 intro l
 induction l with
 | nil => intro m h; cases m with
  | nil => rfl
  | cons _ _ => simp at h
 | cons a l ih => intro m h; cases m with
  | nil => simp at h
  | cons b m =>
   rw [List.map_cons, List.map_cons] at h
   injection h with h1 h2
   rw [bys_inj h1, ih m h2]
theorem okW_neat {s : ByteArray} (h : okW s = true) : Neat s ∧ (wl s s.size).1 ++ [s.extract (wl s s.size).2 s.size] = resv := by
 unfold okW at h
 simp only [Bool.and_eq_true, decide_eq_true_eq] at h
 obtain ⟨⟨⟨⟨⟨⟨⟨h1, h2⟩, h3⟩, h4⟩, h5⟩, h6⟩, h7⟩, h8⟩ := h
 refine ⟨⟨h1, fun _ => h3, fun i hi hne => ?_, h5, h6, h2, h7⟩, map_bys_inj _ _ (by simpa using h8)⟩
 have := List.all_eq_true.1 h4 i (by simpa using hi)
 simp only [Bool.or_eq_true, Bool.and_eq_true, decide_eq_true_eq] at this
 rcases this with h | h
 ·exact absurd h hne
 ·exact h
theorem fields_resv (s : ByteArray) (w : World) (hs : okW s = true) (hA : Asc w) :
  Ret Tryz.prog 72 #[.string s] w fun v w' => ∃ b, v = .slice (some ⟨b, 0, none⟩) 46 46 ∧ At w' b 0 (svals resv) ∧ b < w'.heap.size ∧ Below w.heap.size w w' := by
 obtain ⟨hn, hr⟩ := okW_neat hs
 refine (fields_ok s w hn hA).mono ?_
 rintro _ w' ⟨b, rfl, hat, hb⟩
 have hl : (wl s s.size).1.length + 1 = 46 := by
  have := congrArg List.length hr
  rw [resv_len] at this
  simpa using this
 rw [hr] at hat
 exact ⟨b, by rw [hl], hat, hb⟩
attribute [local irreducible] resv okW
theorem key1_ok (s : ByteArray) (w : World) (hA : Asc w) (hs : s.size ≤ 140737488355328) :
  Ret Tryz.prog 44 #[.string s] w fun v w' => v = .bool (keyB s) ∧ Below w.heap.size w w' := by
 refine ret_of_vc Tryz.func44 rfl mixed (by kernel_rfl) ?_
 have hk : keyB s = (decide (1 ≤ s.size) && decide (s.size ≤ 32) && wordB 0 (bys s) && !(resv.any fun r => sEq r s)) := rfl
 obtain ⟨kb, hkb⟩ : ∃ b, b = keyB s := ⟨_, rfl⟩
 rw [← hkb] at hk ⊢
 have hl := bys_len s
 conv => whnf
 refine vif_split (fun h1 => ?_) (fun h1 => ?_)
 ·have h1 : ¬ 1 ≤ s.size := by have : (s.size : Int) < 1 := of_decide_eq_true h1; omega
  have : kb = false := by rw [hk]; simp [h1]
  subst this
  conv => whnf
  exact VEnd.mk ⟨rfl, Below.refl _ _⟩
 have h1 : 1 ≤ s.size := by have : ¬ (s.size : Int) < 1 := of_decide_eq_false h1; omega
 conv => whnf
 refine vif_split (fun h2 => ?_) (fun h2 => ?_)
 ·have h2 : ¬ s.size ≤ 32 := by have : (s.size : Int) > 32 := of_decide_eq_true h2; omega
  have : kb = false := by rw [hk]; simp [h2]
  subst this
  conv => whnf
  exact VEnd.mk ⟨rfl, Below.refl _ _⟩
 have h2 : s.size ≤ 32 := by have : ¬ (s.size : Int) > 32 := of_decide_eq_false h2; omega
 have hk2 : kb = (wordB 0 (bys s) && !(resv.any fun r => sEq r s)) := by rw [hk]; simp [h1, h2]
 clear hk
 conv => whnf
 refine vs_rangeS rfl ?_
 intro w1 hB1 hI1
 conv => whnf
 refine vloop (X := Nat) ws44_1 (fun _ => []) (fun i w' => i ≤ s.size ∧ Below w.heap.size w w' ∧ Itr w' w.heap.size s i ∧ wordB 0 (bys s) = wordB i ((bys s).drop i)) (fun i => s.size - i) 0 (by kernel_rfl)
  ?_ ⟨Nat.zero_le _, hB1, hI1, rfl⟩ ?_
 ·exact trivial
 rintro i w2 j ⟨hi, hB2, hI2, hp⟩
 clear hI1 hB1
 conv => whnf
 by_cases hlt : i < s.size
 ·have hst := wordB_step (bys s) i (by omega)
  have hc : (bys s)[i]'(by omega) = s[i] := by simp; rfl
  rw [hc] at hst
  have hcb : s[i].toNat < 256 := s[i].toNat_lt
  rw [hst] at hp
  refine vs_next hI2 hlt (fun hpl w3 hO3 hI3 => ?_) (fun hnp w3 c q hO3 _ hc2 => ?_)
  ·obtain ⟨c, hcc⟩ : ∃ c, c = s[i].toNat := ⟨_, rfl⟩
   have hno := okB_not i c
   have hyes := okB_iff i c
   rw [← hcc] at hp hpl ⊢
   have hB3 := hB2.trans (hO3.below (Nat.le_refl _))
   have e0 : okB i c = false → kb = false := fun h => by rw [hk2, hp, h]; rfl
   have e1 : okB i c = true → wordB 0 (bys s) = wordB (i + 1) ((bys s).drop (i + 1)) := fun h => by rw [hp, h]; rfl
   clear hst hc hcb hI2 hO3 hp
   conv => whnf
   (repeat' (apply vif_split <;> intro h; all_goals (conv => whnf)))
   all_goals first
    | exact VEnd.mk ⟨congrArg Value.bool (e0 (hno.2 (by (try simp only [cond_true, cond_false, Bool.not_eq_true', Bool.not_eq_false', decide_eq_true_eq, decide_eq_false_iff_not, beq_iff_eq, bne_iff_ne, beq_eq_false_iff_ne, bne_eq_false_iff_eq, ne_eq, Bool.not_eq_eq_eq_not, Bool.not_true, Bool.not_false, Bool.false_eq_true, Bool.true_eq_false] at *) <;> omega))).symm, hB3⟩
    | exact VBack.mk ⟨_, (show s.size - (i + 1) < s.size - i by omega), i + 1, rfl, trivial, hlt, hB3, hI3, e1 (hyes.2 (by (try simp only [cond_true, cond_false, Bool.not_eq_true', Bool.not_eq_false', decide_eq_true_eq, decide_eq_false_iff_not, beq_iff_eq, bne_iff_ne, beq_eq_false_iff_ne, bne_eq_false_iff_eq, ne_eq, Bool.not_eq_eq_eq_not, Bool.not_true, Bool.not_false, Bool.false_eq_true, Bool.true_eq_false] at *) <;> omega))⟩
  ·have hB3 := hB2.trans (hO3.below (Nat.le_refl _))
   have e0 : kb = false := by
    have : okB i s[i].toNat = false := (okB_not i _).2 (by omega)
    rw [hk2, hp, this]; rfl
   clear hst hc hcb hI2 hO3 hp
   subst e0
   conv => whnf
   (repeat' (apply vif_split <;> intro h; all_goals (conv => whnf)))
   all_goals first
    | exact VEnd.mk ⟨rfl, hB3⟩
    | (exfalso; clear hk2; exact (by (try simp only [cond_true, cond_false, Bool.not_eq_true', Bool.not_eq_false', decide_eq_true_eq, decide_eq_false_iff_not, beq_iff_eq, bne_iff_ne, beq_eq_false_iff_ne, bne_eq_false_iff_eq, ne_eq, Bool.not_eq_eq_eq_not, Bool.not_true, Bool.not_false, Bool.false_eq_true, Bool.true_eq_false] at *) <;> omega))
 ·obtain rfl : i = s.size := by omega
  rw [List.drop_of_length_le (by omega)] at hp
  have hp2 : wordB 0 (bys s) = true := hp
  have hk3 : kb = !(resv.any fun r => sEq r s) := by rw [hk2, hp2]; rfl
  refine vs_nextEnd hI2 (Nat.le_refl _) ?_
  conv => whnf
  refine vcall (by kernel_rfl) (fields_resv _ w2 (by kernel_rfl) (hA.below hB2)) ?_
  rintro _ w3 ⟨b, rfl, hA3, hb3, hB3⟩
  have hB3' := hB2.trans (hB3.mono hB2.size)
  clear hB3 hI2 hk2
  conv => whnf
  refine vloop (X := Nat) ws44_2 (fun i => [(52, .int .i64 i)]) (fun i w' => i ≤ 46 ∧ w' = w3 ∧ (resv.any fun r => sEq r s) = (resv.drop i).any fun r => sEq r s) (fun i => 46 - i) 0 (by kernel_rfl)
   ?_ ⟨Nat.zero_le _, rfl, rfl⟩ ?_
  ·exact ⟨rfl, trivial⟩
  rintro i w4 j ⟨hi, rfl, hp⟩
  conv => whnf
  refine vif_split (fun hlt => ?_) (fun hge => ?_)
  ·have hlt : i < 46 := by have := of_decide_eq_true hlt; omega
   have hil : i < resv.length := by rw [resv_len]; exact hlt
   rw [any_take _ _ i hil] at hp
   have hg := svals_get hil
   conv => whnf
   (repeat (first | (refine VReq.mk (by first | decide | omega) ?_; conv => whnf) | (refine VPend.mk rfl ?_; conv => whnf) | (refine VNext.keep rfl ?_; conv => whnf) | (refine vs_slI1 _ rfl rfl rfl (by assumption) ?_; conv => whnf) | (refine vs_slI _ rfl rfl rfl (by assumption) ?_; conv => whnf) | (refine vs_arr1 _ rfl rfl rfl (by assumption) ?_; conv => whnf) | (refine vs_loadF (by with_reducible assumption) (by assumption) rfl rfl ?_; conv => whnf) | (refine vs_loadF0 (by with_reducible assumption) (by assumption) rfl rfl ?_; conv => whnf) | (refine vs_loadI (by with_reducible assumption) (by assumption) rfl ?_; conv => whnf) | (refine vs_loadB rfl (by with_reducible assumption) (by assumption) ?_; conv => whnf)))
   apply vif_split <;> intro h
   ·have : kb = false := by rw [hk3, hp, h]; rfl
    subst this
    conv => whnf
    exact VEnd.mk ⟨rfl, hB3'⟩
   ·rw [h, Bool.false_or] at hp
    conv => whnf
    refine VBack.mk ⟨_, ?_, (i + 1), rfl, ?_, ?_⟩
    ·show 46 - (i + 1) < 46 - i; omega
    ·exact ⟨intEq (incr (by omega)), trivial⟩
    ·exact ⟨hlt, rfl, hp⟩
  ·have hge : ¬ i < 46 := by have := of_decide_eq_false hge; omega
   obtain rfl : i = 46 := by omega
   rw [List.drop_of_length_le (by rw [resv_len]; exact Nat.le_refl _)] at hp
   have : kb = true := by rw [hk3, hp]; rfl
   subst this
   conv => whnf
   exact VEnd.mk ⟨rfl, hB3'⟩
end
end Go.Proofs.YtmhpfadbmpipkaaGreatDoor.Ky
namespace Go.Proofs.YtmhpfadbmpipkaaGreatDoor.Cl
open Go Go.RowKit Go.Proofs Go.Proofs.YtmhpfadbmpipkaaGreatDoor.Vc Go.Proofs.YtmhpfadbmpipkaaGreatDoor.Ax Go.Proofs.YtmhpfadbmpipkaaGreatDoor.Ky Go.Proofs.YtmhpfadbmpipkaaGreatDoor.Id
def spL : List Value := (List.range 256).map fun c => .int .u8 (spT c)
def GS : Glob := ⟨0 + 1, fun g => if g = 0 then some spL else none⟩
theorem asc_of {w : World} (h : GS.holds w) : Asc w := by
 refine ⟨Nat.lt_of_lt_of_le (Nat.lt_succ_self _) h.1, fun c hc => ?_⟩
 have := (h.2 0 spL (by simp [GS])).2 c (.int .u8 (spT c)) (by unfold spL; rw [List.getElem?_map, List.getElem?_range hc]; rfl)
 exact this
theorem keyG1 (s : ByteArray) (h : s.size ≤ 140737488355328) : AFn Tryz.prog GS 44 [.v (.string s)] 0 [] (Is (.v (.bool (keyB s)))) := afn_of_ret (l := [.string s]) fun w hG => key1_ok s w (asc_of hG) h
theorem keyG2 (s : ByteArray) (h : s.size ≤ 140737488355328) : AFn Tryz.prog GS 51 [.v (.string s)] 0 [] (Is (.v (.bool (keyB s)))) := afn_of_ret (l := [.string s]) fun w hG => key2_ok s w h
theorem key_short {s : ByteArray} (h : keyB s = true) : s.size ≤ 32 := by
 unfold keyB at h
 simp only [Bool.and_eq_true, decide_eq_true_eq] at h
 omega
abbrev By := List UInt8
def I64 (n : Int) : Prop := -9223372036854775808 ≤ n ∧ n ≤ 9223372036854775807
def zu (n : Int) : Nat := if n < 0 then (-2 * n - 1).toNat else (2 * n).toNat
def zz (u : Nat) : Int := if u % 2 = 1 then -((u / 2 : Nat) : Int) - 1 else ((u / 2 : Nat) : Int)
theorem zz_zu (n : Int) : zz (zu n) = n := by
  unfold zz zu
  by_cases h : n < 0
  · rw [if_pos h]; split <;> omega
  · rw [if_neg h]; split <;> omega
theorem zu_zz (u : Nat) : zu (zz u) = u := by
  unfold zz zu
  split <;> split <;> omega
theorem zu_lt {n : Int} (h : I64 n) : zu n < 18446744073709551616 := by
  unfold zu I64 at *
  split <;> omega
theorem zz_i64 {u : Nat} (h : u < 18446744073709551616) : I64 (zz u) := by
  unfold zz I64
  split <;> omega
def grp : Nat → Nat → By
  | 0, u => [UInt8.ofNat u]
  | f + 1, u => if u < 128 then [UInt8.ofNat u] else UInt8.ofNat (128 + u % 128) :: grp f (u / 128)
def num (n : Int) : By := grp 9 (zu n)
inductive RN where
  | bad (e : Int)
  | ok (n : Int) (k : Nat)
def rdN : By → Nat → Nat → RN
  | [], _, _ => .bad 16
  | c :: r, i, u => if i = 9 ∧ 1 < c.toNat then .bad 3 else if 128 ≤ c.toNat then rdN r (i + 1) (u + c.toNat % 128 * 128 ^ i) else if c.toNat = 0 ∧ 0 < i then .bad 1 else .ok (zz (u + c.toNat % 128 * 128 ^ i)) (i + 1)
theorem grp_ne (f u : Nat) : grp f u ≠ [] := by
  cases f with
  | zero => simp [grp]
  | succ f => unfold grp; split <;> simp
theorem grp_pos (f u : Nat) : 0 < (grp f u).length := by
  have := grp_ne f u
  cases h : grp f u with
  | nil => exact absurd h this
  | cons a r => simp
theorem grp_len (f u : Nat) : (grp f u).length ≤ f + 1 := by
  induction f generalizing u with
  | zero => simp [grp]
  | succ f ih => unfold grp; split
                 · simp
                 · have := ih (u / 128); simp; omega
theorem toNat_ofNat {u : Nat} (h : u < 256) : (UInt8.ofNat u).toNat = u := by
  simp [UInt8.toNat_ofNat', Nat.mod_eq_of_lt h]
theorem pow128 (i : Nat) : 128 ^ (i + 1) = 128 * 128 ^ i := by rw [Nat.pow_succ, Nat.mul_comm]
theorem rd_grp (r : By) : ∀ (f u i acc : Nat), i + f = 9 → u < 2 * 128 ^ f → (i = 0 ∨ u ≠ 0) → rdN (grp f u ++ r) i acc = .ok (zz (acc + u * 128 ^ i)) (i + (grp f u).length) := by
  intro f
  induction f with
  | zero =>
    intro u i acc hi hu h0
    have hu2 : u < 2 := by simpa using hu
    simp only [grp, List.cons_append, List.nil_append, rdN]
    rw [toNat_ofNat (by omega)]
    rw [if_neg (by omega), if_neg (by omega), if_neg (by omega), Nat.mod_eq_of_lt (by omega : u < 128)]
    simp
  | succ f ih =>
    intro u i acc hi hu h0
    unfold grp
    by_cases h : u < 128
    · rw [if_pos h]
      simp only [List.cons_append, List.nil_append, rdN]
      rw [toNat_ofNat (by omega)]
      rw [if_neg (by omega), if_neg (by omega), if_neg (by omega), Nat.mod_eq_of_lt h]
      simp
    · rw [if_neg h]
      have hm : u % 128 < 128 := Nat.mod_lt _ (by decide)
      simp only [List.cons_append, rdN]
      rw [toNat_ofNat (by omega)]
      rw [if_neg (by omega), if_pos (by omega)]
      rw [pow128] at hu
      rw [ih (u / 128) (i + 1) _ (by omega) (by omega) (by omega)]
      have e1 : (128 + u % 128) % 128 = u % 128 := by omega
      have e2 : u % 128 * 128 ^ i + u / 128 * 128 ^ (i + 1) = u * 128 ^ i := by
        rw [pow128, ← Nat.mul_assoc, ← Nat.add_mul]
        have : u % 128 + u / 128 * 128 = u := by omega
        rw [this]
      rw [e1, Nat.add_assoc, e2]
      simp only [List.length_cons]
      congr 1
      omega
theorem rd_num (n : Int) (hn : I64 n) (r : By) : rdN (num n ++ r) 0 0 = .ok n (num n).length := by
  unfold num
  rw [rd_grp r 9 (zu n) 0 0 rfl (by have := zu_lt hn; omega) (.inl rfl)]
  simp [zz_zu]
theorem rd_back : ∀ (b : By) (i acc : Nat) (n : Int) (k : Nat), i ≤ 9 → rdN b i acc = .ok n k → ∃ u, u < 2 * 128 ^ (9 - i) ∧ b.take (k - i) = grp (9 - i) u ∧ n = zz (acc + u * 128 ^ i) ∧ i < k ∧ k - i ≤ b.length ∧ (i = 0 ∨ u ≠ 0) := by
  intro b
  induction b with
  | nil => intro i acc n k _ h; cases h
  | cons c r ih =>
    intro i acc n k hi h
    simp only [rdN] at h
    have hc : c.toNat < 256 := c.toNat_lt
    have ec : UInt8.ofNat c.toNat = c := by simp
    split at h
    · cases h
    rename_i h9
    split at h
    · rename_i h128
      have hi9 : i ≠ 9 := fun e => h9 ⟨e, by omega⟩
      obtain ⟨u, h1, h2, h3, h4, h5, h6⟩ := ih (i + 1) _ n k (by omega) h
      obtain ⟨f, hf⟩ : ∃ f, 9 - i = f + 1 := ⟨8 - i, by omega⟩
      have hf' : 9 - (i + 1) = f := by omega
      rw [hf'] at h1 h2
      have hu : u ≠ 0 := h6.resolve_left (by omega)
      refine ⟨c.toNat - 128 + 128 * u, ?_, ?_, ?_, by omega, by simp only [List.length_cons]; omega, .inr (by omega)⟩
      · rw [hf, pow128]; omega
      · rw [hf]
        have ek : k - i = (k - (i + 1)) + 1 := by omega
        rw [ek, List.take_succ_cons, h2]
        unfold grp
        rw [if_neg (by omega)]
        have e1 : 128 + (c.toNat - 128 + 128 * u) % 128 = c.toNat := by omega
        have e2 : (c.toNat - 128 + 128 * u) / 128 = u := by omega
        rw [e1, e2, ec]
        cases f <;> rfl
      · rw [h3]
        have e1 : c.toNat % 128 = c.toNat - 128 := by omega
        rw [e1, pow128, Nat.add_mul, Nat.add_assoc]
        congr 2
        rw [← Nat.mul_assoc, Nat.mul_comm u 128]
    · rename_i h128
      split at h
      · cases h
      · rename_i h0
        injection h with e1 e2
        subst e2
        have hc1 : c.toNat < 128 := by omega
        refine ⟨c.toNat, ?_, ?_, ?_, by omega, by simp, by omega⟩
        · rcases Nat.lt_or_ge i 9 with hl | hl
          · obtain ⟨f, hf⟩ : ∃ f, 9 - i = f + 1 := ⟨8 - i, by omega⟩
            rw [hf, pow128]
            have : 0 < 128 ^ f := Nat.pow_pos (by decide)
            omega
          · have : i = 9 := by omega
            subst this
            have : ¬ 1 < c.toNat := fun h => h9 ⟨rfl, h⟩
            simp; omega
        · have e3 : i + 1 - i = 1 := by omega
          rw [e3]
          simp only [List.take_succ_cons, List.take_zero]
          cases hf : 9 - i with
          | zero => simp [grp]
          | succ f => unfold grp; rw [if_pos hc1, ec]
        · rw [← e1, Nat.mod_eq_of_lt hc1]
theorem rd_num_of {b : By} {n : Int} {k : Nat} (h : rdN b 0 0 = .ok n k) : b = num n ++ b.drop k ∧ k = (num n).length ∧ I64 n ∧ 0 < k ∧ k ≤ b.length := by
  obtain ⟨u, h1, h2, h3, h4, h5, _⟩ := rd_back b 0 0 n k (by omega) h
  have e : n = zz u := by simpa using h3
  have hg : num n = grp 9 u := by unfold num; rw [e, zu_zz]
  simp only [Nat.sub_zero] at h2 h5
  refine ⟨by rw [hg, ← h2, List.take_append_drop], ?_, ?_, h4, h5⟩
  · rw [hg, ← h2, List.length_take]; omega
  · rw [e]; exact zz_i64 (by simp only [Nat.sub_zero] at h1; omega)
theorem num_len (n : Int) : 0 < (num n).length ∧ (num n).length ≤ 10 := ⟨grp_pos _ _, grp_len _ _⟩
def rnT (b : By) (e : Int) : Int × Nat × Int :=
  if e = 0 then (match rdN b 0 0 with
    | .bad e' => (0, 0, e')
    | .ok n k => (n, k, 0)) else (0, 0, e)
theorem rdN_bad : ∀ {b : By} {i u : Nat} {e : Int}, rdN b i u = .bad e → e = 16 ∨ e = 3 ∨ e = 1 := by
  intro b
  induction b with
  | nil => intro i u e h; injection h with h; exact .inl h.symm
  | cons c r ih =>
    intro i u e h
    simp only [rdN] at h
    split at h
    · injection h with h; exact .inr (.inl h.symm)
    · split at h
      · exact ih h
      · split at h
        · injection h with h; exact .inr (.inr h.symm)
        · cases h
theorem rnT_num {n : Int} (hn : I64 n) (r : By) : rnT (num n ++ r) 0 = (n, (num n).length, 0) := by
  unfold rnT
  rw [if_pos rfl, rd_num n hn r]
theorem rnT_ok (b : By) (e : Int) : I64 (rnT b e).1 ∧ (rnT b e).2.1 ≤ b.length ∧ ((rnT b e).2.2 = 0 → e = 0 ∧ b = num (rnT b e).1 ++ b.drop (rnT b e).2.1 ∧ (rnT b e).2.1 = (num (rnT b e).1).length) ∧ ((rnT b e).2.2 ≠ 0 → (rnT b e).1 = 0 ∧ (rnT b e).2.1 = 0) := by
  have z : I64 0 := by unfold I64; omega
  unfold rnT
  by_cases h : e = 0
  · rw [if_pos h]
    cases hr : rdN b 0 0 with
    | bad e' => exact ⟨z, Nat.zero_le _, fun h => by have := rdN_bad hr; simp only at h; omega, fun _ => ⟨rfl, rfl⟩⟩
    | ok n k =>
      have := rd_num_of hr
      exact ⟨this.2.2.1, this.2.2.2.2, fun _ => ⟨h, this.1, this.2.1⟩, fun h => absurd rfl h⟩
  · rw [if_neg h]
    exact ⟨z, Nat.zero_le _, fun h' => absurd h' h, fun _ => ⟨rfl, rfl⟩⟩
def cnT (b : By) (e most em : Int) : Int × Nat × Int :=
  let t := rnT b e
  let e1 := if t.2.2 = 0 then (if t.1 < 0 then 3 else if most < t.1 then em else 0) else t.2.2
  (if e1 = 0 then t.1 else 0, t.2.1, e1)
theorem wr_u64 {n : Nat} (h : n < 18446744073709551616) : IntKind.u64.wrap (n : Int) = n := by
  have e : IntKind.u64.bits = 64 := rfl
  have s : IntKind.u64.signed = false := rfl
  simp only [IntKind.wrap, e, s, Bool.false_and, Bool.false_eq_true, if_false]
  omega
theorem wr_u8 {n : Nat} (h : n < 256) : IntKind.u8.wrap (n : Int) = n := by
  have e : IntKind.u8.bits = 8 := rfl
  have s : IntKind.u8.signed = false := rfl
  simp only [IntKind.wrap, e, s, Bool.false_and, Bool.false_eq_true, if_false]
  omega
theorem ofInt_nat (k n : Nat) : BitVec.ofInt k (n : Int) = BitVec.ofNat k n := by
  apply BitVec.eq_of_toNat_eq
  simp
theorem bo_or64 (a b : Nat) (ha : a < 18446744073709551616) (hb : b < 18446744073709551616) : bitsOp .or .u64 a b = ((a ||| b : Nat) : Int) := by
  have e : IntKind.u64.bits = 64 := rfl
  have h := Nat.or_lt_two_pow (n := 64) ha hb
  simp only [bitsOp, e, ofInt_nat, BitVec.toNat_or, BitVec.toNat_ofNat]
  rw [Nat.mod_eq_of_lt ha, Nat.mod_eq_of_lt hb, wr_u64 h]
theorem bo_and64 (a b : Nat) (ha : a < 18446744073709551616) (hb : b < 18446744073709551616) : bitsOp .and .u64 a b = ((a &&& b : Nat) : Int) := by
  have e : IntKind.u64.bits = 64 := rfl
  have h := Nat.and_lt_two_pow (n := 64) a hb
  simp only [bitsOp, e, ofInt_nat, BitVec.toNat_and, BitVec.toNat_ofNat]
  rw [Nat.mod_eq_of_lt ha, Nat.mod_eq_of_lt hb, wr_u64 h]
theorem bo_xor64 (a b : Nat) (ha : a < 18446744073709551616) (hb : b < 18446744073709551616) : bitsOp .xor .u64 a b = ((a ^^^ b : Nat) : Int) := by
  have e : IntKind.u64.bits = 64 := rfl
  have h := Nat.xor_lt_two_pow (n := 64) ha hb
  simp only [bitsOp, e, ofInt_nat, BitVec.toNat_xor, BitVec.toNat_ofNat]
  rw [Nat.mod_eq_of_lt ha, Nat.mod_eq_of_lt hb, wr_u64 h]
theorem bo_or8 (a b : Nat) (ha : a < 256) (hb : b < 256) : bitsOp .or .u8 a b = ((a ||| b : Nat) : Int) := by
  have e : IntKind.u8.bits = 8 := rfl
  have h := Nat.or_lt_two_pow (n := 8) ha hb
  simp only [bitsOp, e, ofInt_nat, BitVec.toNat_or, BitVec.toNat_ofNat]
  rw [Nat.mod_eq_of_lt ha, Nat.mod_eq_of_lt hb, wr_u8 h]
theorem bo_and8 (a b : Nat) (ha : a < 256) (hb : b < 256) : bitsOp .and .u8 a b = ((a &&& b : Nat) : Int) := by
  have e : IntKind.u8.bits = 8 := rfl
  have h := Nat.and_lt_two_pow (n := 8) a hb
  simp only [bitsOp, e, ofInt_nat, BitVec.toNat_and, BitVec.toNat_ofNat]
  rw [Nat.mod_eq_of_lt ha, Nat.mod_eq_of_lt hb, wr_u8 h]
theorem and127 (a : Nat) : a &&& 127 = a % 128 := Nat.and_two_pow_sub_one_eq_mod a 7
theorem and1 (a : Nat) : a &&& 1 = a % 2 := Nat.and_two_pow_sub_one_eq_mod a 1
theorem or_add {a : Nat} (k c : Nat) (ha : a < 2 ^ k) : a ||| c * 2 ^ k = a + c * 2 ^ k := by
  rw [Nat.or_comm, Nat.mul_comm, ← Nat.two_pow_add_eq_or_of_lt ha, Nat.add_comm]
theorem or128 {a : Nat} (h : a < 256) : a ||| 128 = 128 + a % 128 := by
  have e : a ||| 128 = (a % 128) ||| 1 * 2 ^ 7 ||| (a / 128) * 2 ^ 7 := by
    have h1 : a = a % 128 ||| (a / 128) * 2 ^ 7 := by rw [or_add 7 _ (by omega)]; omega
    have h2 : a ||| 128 = (a % 128 ||| (a / 128) * 2 ^ 7) ||| 128 := by rw [← h1]
    rw [h2, Nat.or_assoc, Nat.or_assoc, Nat.or_comm (a / 128 * 2 ^ 7)]
  rw [e, or_add 7 1 (by omega)]
  have : a / 128 = 0 ∨ a / 128 = 1 := by omega
  rcases this with h0 | h0
  · rw [h0]; simp; omega
  · rw [h0]
    have e2 : a % 128 + 1 * 2 ^ 7 = a % 128 ||| 1 * 2 ^ 7 := (or_add 7 1 (by omega)).symm
    rw [e2, Nat.or_assoc, Nat.or_self, ← e2]; omega
theorem xor_ones {a : Nat} (h : a < 18446744073709551616) : a ^^^ 18446744073709551615 = 18446744073709551615 - a := by
  have h1 : (BitVec.ofNat 64 a ^^^ BitVec.allOnes 64).toNat = (~~~ (BitVec.ofNat 64 a)).toNat := by rw [BitVec.xor_allOnes]
  simp only [BitVec.toNat_xor, BitVec.toNat_not, BitVec.toNat_ofNat, BitVec.toNat_allOnes] at h1
  have e : (2 : Nat) ^ 64 = 18446744073709551616 := by decide
  rw [e, Nat.mod_eq_of_lt h] at h1
  omega
def pat (n : Int) : Nat := (n % 18446744073709551616).toNat
theorem wr_i64_pat (n : Int) (h : -9223372036854775808 ≤ n ∧ n ≤ 9223372036854775807) : IntKind.i64.wrap ((pat n : Nat) : Int) = n := by
  have e : IntKind.i64.bits = 64 := rfl
  have s : IntKind.i64.signed = true := rfl
  unfold pat
  simp only [IntKind.wrap, e, s, Bool.true_and, decide_eq_true_eq]
  split <;> omega
theorem ofInt_pat (n : Int) : BitVec.ofInt 64 n = BitVec.ofNat 64 (pat n) := by
  apply BitVec.eq_of_toNat_eq
  simp only [BitVec.toNat_ofInt, BitVec.toNat_ofNat, pat]
  omega
theorem bo_xi0 (a : Int) (h : -9223372036854775808 ≤ a ∧ a ≤ 9223372036854775807) : bitsOp .xor .i64 a 0 = a := by
  show IntKind.i64.wrap ((BitVec.ofInt 64 a ^^^ BitVec.ofInt 64 0).toNat : Int) = a
  have : BitVec.ofInt 64 a ^^^ BitVec.ofInt 64 0 = BitVec.ofInt 64 a := by simp
  rw [this, ofInt_pat, BitVec.toNat_ofNat, Nat.mod_eq_of_lt (by unfold pat; omega), wr_i64_pat a h]
theorem bo_xi1 (a : Int) (h : -9223372036854775808 ≤ a ∧ a ≤ 9223372036854775807) : bitsOp .xor .i64 a (-1) = -a - 1 := by
  show IntKind.i64.wrap ((BitVec.ofInt 64 a ^^^ BitVec.ofInt 64 (-1)).toNat : Int) = -a - 1
  have h1 : BitVec.ofInt 64 (-1) = BitVec.allOnes 64 := by decide
  rw [h1, BitVec.xor_allOnes, BitVec.toNat_not, ofInt_pat, BitVec.toNat_ofNat]
  have e2 : 2 ^ 64 - 1 - pat a % 2 ^ 64 = pat (-a - 1) := by unfold pat; omega
  rw [e2, wr_i64_pat _ (by omega)]
theorem pw128 (i : Nat) : 2 ^ (7 * i) = 128 ^ i := by rw [Nat.pow_mul]
theorem shl_at {x i : Nat} (hi : i ≤ 9) (hx : x < 128) (h9 : i = 9 → x ≤ 1) : IntKind.u64.wrap ((x : Int) * 2 ^ min (7 * (i : Int)).toNat IntKind.u64.bits) = ((x * 128 ^ i : Nat) : Int) ∧ x * 128 ^ i < 18446744073709551616 := by
  have e : IntKind.u64.bits = 64 := rfl
  have e2 : (7 * (i : Int)).toNat = 7 * i := by omega
  have e3 : min (7 * i) 64 = 7 * i := by omega
  have hb : x * 128 ^ i < 18446744073709551616 := by
    rcases Nat.lt_or_ge i 9 with h | h
    · have : 128 ^ i ≤ 128 ^ 8 := Nat.pow_le_pow_right (by decide) (by omega)
      calc x * 128 ^ i < 128 * 128 ^ i := Nat.mul_lt_mul_of_pos_right hx (Nat.pow_pos (by decide))
        _ ≤ 128 * 128 ^ 8 := Nat.mul_le_mul_left _ this
        _ ≤ 18446744073709551616 := by decide
    · have : i = 9 := by omega
      subst this
      have := h9 rfl
      calc x * 128 ^ 9 ≤ 1 * 128 ^ 9 := Nat.mul_le_mul_right _ this
        _ < 18446744073709551616 := by decide
  refine ⟨?_, hb⟩
  rw [e, e2, e3]
  have e4 : (x : Int) * 2 ^ (7 * i) = ((x * 128 ^ i : Nat) : Int) := by rw [← pw128]; simp
  rw [e4, wr_u64 hb]
theorem or_at {u x i : Nat} (hu : u < 128 ^ i) (hi : i ≤ 9) (hx : x * 128 ^ i < 18446744073709551616) : bitsOp .or .u64 (u : Int) ((x * 128 ^ i : Nat) : Int) = ((u + x * 128 ^ i : Nat) : Int) := by
  have h1 : 128 ^ i ≤ 128 ^ 9 := Nat.pow_le_pow_right (by decide) hi
  have h2 : (128 : Nat) ^ 9 < 18446744073709551616 := by decide
  rw [bo_or64 u _ (by omega) hx]
  rw [← pw128] at hu ⊢
  rw [or_add _ _ hu]
theorem zz_bits {u : Nat} (h : u < 18446744073709551616) : bitsOp .xor .i64 ((u / 2 : Nat) : Int) (0 - ((u % 2 : Nat) : Int)) = zz u := by
  unfold zz
  have hr : -9223372036854775808 ≤ ((u / 2 : Nat) : Int) ∧ ((u / 2 : Nat) : Int) ≤ 9223372036854775807 := by omega
  by_cases h1 : u % 2 = 1
  · rw [if_pos h1, h1]; exact bo_xi1 _ hr
  · have h0 : u % 2 = 0 := by omega
    rw [if_neg h1, h0]; exact bo_xi0 _ hr
theorem zu_bits (n : Int) (h : I64 n) : bitsOp .xor .u64 (IntKind.u64.wrap (IntKind.u64.wrap n * 2)) (IntKind.u64.wrap (n.fdiv 9223372036854775808)) = (zu n : Int) := by
  have e : IntKind.u64.bits = 64 := rfl
  have s : IntKind.u64.signed = false := rfl
  unfold I64 at h
  unfold zu
  by_cases hn : n < 0
  · rw [if_pos hn]
    have e1 : IntKind.u64.wrap (IntKind.u64.wrap n * 2) = ((18446744073709551616 - (-2 * n).toNat : Nat) : Int) := by
      simp only [IntKind.wrap, e, s, Bool.false_and, Bool.false_eq_true, if_false]; omega
    have e2 : n.fdiv 9223372036854775808 = -1 := by rw [Int.fdiv_eq_ediv]; simp; omega
    have e3 : IntKind.u64.wrap (-1) = ((18446744073709551615 : Nat) : Int) := by decide
    rw [e1, e2, e3, bo_xor64 _ _ (by omega) (by omega), xor_ones (by omega)]
    omega
  · rw [if_neg hn]
    have e1 : IntKind.u64.wrap (IntKind.u64.wrap n * 2) = (((2 * n).toNat : Nat) : Int) := by
      simp only [IntKind.wrap, e, s, Bool.false_and, Bool.false_eq_true, if_false]; omega
    have e2 : n.fdiv 9223372036854775808 = 0 := by rw [Int.fdiv_eq_ediv]; simp; omega
    have e3 : IntKind.u64.wrap 0 = ((0 : Nat) : Int) := by decide
    rw [e1, e2, e3, bo_xor64 _ _ (by omega) (by omega), Nat.xor_zero]
theorem grp_byte {u : Nat} : bitsOp .or .u8 (IntKind.u8.wrap (u : Int)) 128 = ((UInt8.ofNat (128 + u % 128)).toNat : Int) := by
  have e : IntKind.u8.wrap (u : Int) = ((u % 256 : Nat) : Int) := by
    have e : IntKind.u8.bits = 8 := rfl
    have s : IntKind.u8.signed = false := rfl
    simp only [IntKind.wrap, e, s, Bool.false_and, Bool.false_eq_true, if_false]
    omega
  have e2 : (128 : Int) = ((128 : Nat) : Int) := rfl
  rw [e, e2, bo_or8 _ _ (by omega) (by omega), or128 (by omega), toNat_ofNat (by omega)]
  congr 1
  omega
theorem last_byte {u : Nat} (h : u < 128) : IntKind.u8.wrap (u : Int) = ((UInt8.ofNat u).toNat : Int) := by
  rw [wr_u8 (by omega), toNat_ofNat (by omega)]
theorem shr7 (u : Nat) : Int.fdiv (u : Int) 128 = ((u / 128 : Nat) : Int) := by rw [Int.fdiv_eq_ediv_of_nonneg _ (by decide)]; rfl
theorem shr1 (u : Nat) : Int.fdiv (u : Int) 2 = ((u / 2 : Nat) : Int) := by rw [Int.fdiv_eq_ediv_of_nonneg _ (by decide)]; rfl
abbrev Li := List Int
def AllI (l : Li) : Prop := ∀ x ∈ l, I64 x
def w64 (n : Int) : Int := Go.IntKind.i64.wrap n
def b1 (l : Li) : By := l.flatMap num
def rl : Li → List (Int × Nat)
  | [] => []
  | x :: r => match rl r with
    | [] => [(x, 1)]
    | p :: t => if x = p.1 then (x, p.2 + 1) :: t else (x, 1) :: p :: t
def enP (p : Int × Nat) : By := num p.1 ++ num p.2
def b2 (l : Li) : By := (rl l).flatMap enP
def st : Int → Li → By
  | _, [] => []
  | p, x :: r => num (w64 (x - p)) ++ st x r
def b3 (l : Li) : By := st 0 l
def ins (d : Li) (x : Int) : Li :=
  match d with
  | [] => [x]
  | y :: r => if y < x then y :: ins r x else if y = x then y :: r else x :: y :: r
def ds (l : Li) : Li := l.foldl ins []
def idx : Li → Int → Nat
  | [], _ => 0
  | y :: r, x => if y = x then 0 else idx r x + 1
def b4 (l : Li) : By := num (ds l).length ++ b1 (ds l) ++ l.flatMap fun x => num (idx (ds l) x)
def wid : Nat → Nat → Nat
  | 0, _ => 0
  | f + 1, u => if u = 0 then 0 else wid f (u / 2) + 1
def dif (lo x : Int) : Nat := (x - lo).toNat
def bitA (lo : Int) (w : Nat) (l : Li) (p : Nat) : Bool := (dif lo (l.getD (p / w) 0)).testBit (p % w)
def byA (bit : Nat → Bool) (p j : Nat) : Nat → Nat
  | 0 => 0
  | t + 1 => byA bit p j t + (if 8 * j + t < p ∧ bit (8 * j + t) = true then 2 ^ t else 0)
def pk (bit : Nat → Bool) (n p : Nat) : By := (List.range n).map fun j => UInt8.ofNat (byA bit p j 8)
def lo (l : Li) : Int := (ds l).headD 0
def hi (l : Li) : Int := (ds l).getLastD 0
def wd (l : Li) : Nat := wid 64 (dif (lo l) (hi l))
def sz5 (n w : Nat) : Nat := (n * w + 7) / 8
def b5 (l : Li) : By := num (lo l) ++ num (wd l) ++ pk (bitA (lo l) (wd l) l) (sz5 l.length (wd l)) (l.length * wd l)
def bd : Nat → Li → By
  | 1, l => b1 l
  | 2, l => b2 l
  | 3, l => b3 l
  | 4, l => b4 l
  | _, l => b5 l
def en (k : Nat) (l : Li) : By := num k ++ num l.length ++ bd k l
def sh (a b : By) : By := if b.length < a.length then b else a
def best (l : Li) : Nat → By
  | 0 => en 1 l
  | k + 1 => sh (best l k) (en (k + 2) l)
def ints (l : Li) : By := if l = [] then num 1 ++ num 0 else best l 4
example : ints [7, 7, 7, 7] = [4, 8, 14, 8] := by decide
example : ints [] = [2, 0] := by decide
theorem rl_ne {x : Int} {r : Li} : ∃ k t, rl (x :: r) = (x, k + 1) :: t := by
  simp only [rl]
  split
  · exact ⟨0, [], rfl⟩
  · rename_i p t _
    split
    · exact ⟨p.2, t, rfl⟩
    · exact ⟨0, p :: t, rfl⟩
theorem rl_rep (x : Int) (m : Nat) (r : Li) (h : r.head? ≠ some x) : rl (List.replicate (m + 1) x ++ r) = (x, m + 1) :: rl r := by
  induction m with
  | zero =>
    simp only [List.replicate, List.cons_append, List.nil_append, rl]
    cases r with
    | nil => rfl
    | cons y r =>
      obtain ⟨k, t, e⟩ := rl_ne (x := y) (r := r)
      rw [e]
      have hne : x ≠ y := fun e => h (by rw [e]; rfl)
      simp only [hne, if_false]
  | succ m ih =>
    rw [List.replicate_succ, List.cons_append]
    simp only [rl]
    rw [ih]
    simp
def SS (d : Li) : Prop := d.Pairwise (· < ·)
theorem ins_mem (d : Li) (x y : Int) : y ∈ ins d x ↔ y ∈ d ∨ y = x := by
  induction d with
  | nil => simp [ins]
  | cons z r ih =>
    unfold ins
    split
    · simp only [List.mem_cons, ih, or_assoc]
    · split
      · rename_i e; subst e; simp only [List.mem_cons]; constructor
        · intro h; exact .inl h
        · rintro (h | rfl)
          · exact h
          · exact .inl rfl
      · simp only [List.mem_cons]; constructor
        · rintro (h | h | h)
          · exact .inr h
          · exact .inl (.inl h)
          · exact .inl (.inr h)
        · rintro ((h | h) | h)
          · exact .inr (.inl h)
          · exact .inr (.inr h)
          · exact .inl h
theorem ins_ss {d : Li} {x : Int} (h : SS d) : SS (ins d x) := by
  induction d with
  | nil => simp [ins, SS]
  | cons z r ih =>
    have h1 := List.pairwise_cons.1 h
    unfold ins
    split
    · rename_i hz
      refine List.pairwise_cons.2 ⟨fun a ha => ?_, ih h1.2⟩
      rcases (ins_mem r x a).1 ha with h2 | h2
      · exact h1.1 a h2
      · omega
    · split
      · exact h
      · refine List.pairwise_cons.2 ⟨fun a ha => ?_, h⟩
        rcases List.mem_cons.1 ha with h2 | h2
        · omega
        · have := h1.1 a h2; omega
theorem ds_snoc (l : Li) (x : Int) : ds (l ++ [x]) = ins (ds l) x := by simp [ds]
theorem ds_fold (l : Li) : ∀ d, SS d → SS (l.foldl ins d) ∧ ∀ y, y ∈ l.foldl ins d ↔ y ∈ d ∨ y ∈ l := by
  induction l with
  | nil => intro d h; simp [h]
  | cons x r ih =>
    intro d h
    have := ih (ins d x) (ins_ss h)
    refine ⟨this.1, fun y => ?_⟩
    rw [List.foldl_cons, this.2 y, ins_mem, List.mem_cons, or_assoc]
theorem ds_ss (l : Li) : SS (ds l) := (ds_fold l [] List.Pairwise.nil).1
theorem ds_mem (l : Li) (y : Int) : y ∈ ds l ↔ y ∈ l := by rw [ds, (ds_fold l [] List.Pairwise.nil).2 y]; simp
theorem ss_uniq {a : Li} : ∀ {b : Li}, SS a → SS b → (∀ y, y ∈ a ↔ y ∈ b) → a = b := by
  induction a with
  | nil => intro b _ _ h; cases b with
    | nil => rfl
    | cons y r => exact absurd ((h y).2 List.mem_cons_self) (by simp)
  | cons x r ih =>
    intro b ha hb h
    have h1 := List.pairwise_cons.1 ha
    cases b with
    | nil => exact absurd ((h x).1 List.mem_cons_self) (by simp)
    | cons y s =>
      have h2 := List.pairwise_cons.1 hb
      have e : x = y := by
        have m1 := (h x).1 List.mem_cons_self
        have m2 := (h y).2 List.mem_cons_self
        rcases List.mem_cons.1 m1 with e | e
        · exact e
        · rcases List.mem_cons.1 m2 with e2 | e2
          · exact e2.symm
          · have := h1.1 y e2; have := h2.1 x e; omega
      subst e
      congr 1
      refine ih h1.2 h2.2 fun z => ⟨fun hz => ?_, fun hz => ?_⟩
      · rcases List.mem_cons.1 ((h z).1 (List.mem_cons_of_mem _ hz)) with e | e
        · have := h1.1 z hz; omega
        · exact e
      · rcases List.mem_cons.1 ((h z).2 (List.mem_cons_of_mem _ hz)) with e | e
        · have := h2.1 z hz; omega
        · exact e
theorem ds_of {l d : Li} (h1 : SS d) (h2 : ∀ y, y ∈ d ↔ y ∈ l) : d = ds l := ss_uniq h1 (ds_ss l) fun y => by rw [h2, ds_mem]
theorem ins_len (d : Li) (x : Int) : (ins d x).length ≤ d.length + 1 := by
  induction d with
  | nil => simp [ins]
  | cons y r ih => unfold ins; split
                   · simp only [List.length_cons]; omega
                   · split <;> simp
theorem ds_len (l : Li) : (ds l).length ≤ l.length := by
  have : ∀ (l d : Li), (l.foldl ins d).length ≤ d.length + l.length := by
    intro l
    induction l with
    | nil => intro d; simp
    | cons x r ih => intro d; have h1 := ih (ins d x); have h2 := ins_len d x; simp only [List.foldl_cons, List.length_cons]; omega
  have := this l []
  simpa [ds] using this
theorem idx_lt {d : Li} {x : Int} (h : x ∈ d) : idx d x < d.length ∧ d[idx d x]? = some x := by
  induction d with
  | nil => cases h
  | cons y r ih =>
    unfold idx
    by_cases e : y = x
    · rw [if_pos e]; simp [e]
    · rw [if_neg e]
      have := ih (by rcases List.mem_cons.1 h with h | h; exact absurd h.symm e; exact h)
      simp only [List.length_cons, List.getElem?_cons_succ]
      exact ⟨by omega, this.2⟩
theorem ds_ne {l : Li} (h : l ≠ []) : ds l ≠ [] := by
  cases l with
  | nil => exact absurd rfl h
  | cons x r => intro e; have := (ds_mem (x :: r) x).2 List.mem_cons_self; rw [e] at this; cases this
theorem lo_le {l : Li} {x : Int} (h : x ∈ l) : lo l ≤ x ∧ lo l ∈ l := by
  have hm := (ds_mem l x).2 h
  have hs := ds_ss l
  have hb := fun y => (ds_mem l y)
  unfold lo
  cases hd : ds l with
  | nil => rw [hd] at hm; cases hm
  | cons y r =>
    rw [hd] at hm hs
    have h1 := List.pairwise_cons.1 hs
    refine ⟨?_, (hb y).1 (by rw [hd]; exact List.mem_cons_self)⟩
    show y ≤ x
    rcases List.mem_cons.1 hm with e | e
    · omega
    · have := h1.1 x e; omega
theorem last_ge {d : Li} (hs : SS d) {x : Int} (h : x ∈ d) : x ≤ d.getLastD 0 ∧ d.getLastD 0 ∈ d := by
  induction d generalizing x with
  | nil => cases h
  | cons y r ih =>
    have h1 := List.pairwise_cons.1 hs
    cases r with
    | nil => simp at h ⊢; omega
    | cons z s =>
      have e : (y :: z :: s).getLastD 0 = (z :: s).getLastD 0 := by simp [List.getLastD]
      rw [e]
      have hz := ih h1.2 (x := z) List.mem_cons_self
      rcases List.mem_cons.1 h with h2 | h2
      · have := h1.1 z List.mem_cons_self
        exact ⟨by omega, List.mem_cons_of_mem _ hz.2⟩
      · have := ih h1.2 h2
        exact ⟨this.1, List.mem_cons_of_mem _ this.2⟩
theorem hi_ge {l : Li} {x : Int} (h : x ∈ l) : x ≤ hi l ∧ hi l ∈ l := by
  have := last_ge (ds_ss l) ((ds_mem l x).2 h)
  exact ⟨this.1, (ds_mem l _).1 this.2⟩
theorem wid_spec : ∀ (f u : Nat), u < 2 ^ f → u < 2 ^ wid f u ∧ wid f u ≤ f := by
  intro f
  induction f with
  | zero => intro u h; simp [wid] at h ⊢; omega
  | succ f ih =>
    intro u h
    unfold wid
    split
    · simp [*]
    · have := ih (u / 2) (by rw [Nat.pow_succ] at h; omega)
      refine ⟨?_, by omega⟩
      rw [Nat.pow_succ]
      omega
theorem wid_min : ∀ (f u k : Nat), u < 2 ^ k → wid f u ≤ k := by
  intro f
  induction f with
  | zero => intro u k _; simp [wid]
  | succ f ih =>
    intro u k h
    unfold wid
    split
    · omega
    · cases k with
      | zero => simp at h; omega
      | succ k => have := ih (u / 2) k (by rw [Nat.pow_succ] at h; omega); omega
theorem byA_lt (bit : Nat → Bool) (p j : Nat) : ∀ t, byA bit p j t < 2 ^ t := by
  intro t
  induction t with
  | zero => simp [byA]
  | succ t ih => unfold byA; rw [Nat.pow_succ]; split <;> omega
theorem byA_bit (bit : Nat → Bool) (p j : Nat) : ∀ t s, s < t → (byA bit p j t).testBit s = (decide (8 * j + s < p) && bit (8 * j + s)) := by
  intro t
  induction t with
  | zero => intro s h; omega
  | succ t ih =>
    intro s hs
    unfold byA
    have hl := byA_lt bit p j t
    have key : ∀ c : Nat, c ≤ 1 → (byA bit p j t + c * 2 ^ t).testBit s = if s < t then (byA bit p j t).testBit s else decide (c = 1) := by
      intro c hc
      rw [Nat.add_comm, Nat.mul_comm, Nat.testBit_two_pow_mul_add c hl]
      split
      · rfl
      · have : s - t = 0 := by omega
        rw [this]
        have : c = 0 ∨ c = 1 := by omega
        rcases this with rfl | rfl <;> rfl
    by_cases hb : 8 * j + t < p ∧ bit (8 * j + t) = true
    · rw [if_pos hb]
      have := key 1 (Nat.le_refl _)
      rw [Nat.one_mul] at this
      rw [this]
      split
      · exact ih s (by assumption)
      · have e : s = t := by omega
        subst e
        simp [hb.1, hb.2]
    · rw [if_neg hb]
      have := key 0 (Nat.zero_le _)
      rw [Nat.zero_mul] at this
      rw [this]
      split
      · exact ih s (by assumption)
      · have e : s = t := by omega
        subst e
        by_cases h1 : 8 * j + s < p
        · have : bit (8 * j + s) = false := by
            cases hbb : bit (8 * j + s) with
            | false => rfl
            | true => exact absurd ⟨h1, hbb⟩ hb
          simp [this]
        · simp [h1]
theorem byA_step (bit : Nat → Bool) (p j : Nat) : ∀ t, byA bit (p + 1) j t = byA bit p j t + (if 8 * j ≤ p ∧ p < 8 * j + t ∧ bit p = true then 2 ^ (p - 8 * j) else 0) := by
  intro t
  induction t with
  | zero => simp only [byA]; rw [if_neg (by omega)]
  | succ t ih =>
    unfold byA
    rw [ih]
    by_cases hp : p = 8 * j + t
    · subst hp
      have e : 8 * j + t - 8 * j = t := by omega
      rw [e, if_neg (show ¬(8 * j ≤ 8 * j + t ∧ 8 * j + t < 8 * j + t ∧ bit (8 * j + t) = true) by omega), if_neg (show ¬(8 * j + t < 8 * j + t ∧ bit (8 * j + t) = true) by omega)]
      by_cases hb : bit (8 * j + t) = true
      · rw [if_pos ⟨by omega, hb⟩, if_pos ⟨by omega, by omega, hb⟩]
      · rw [if_neg (by simp [hb]), if_neg (by simp [hb])]
    · have e1 : (8 * j + t < p + 1 ∧ bit (8 * j + t) = true) ↔ (8 * j + t < p ∧ bit (8 * j + t) = true) := by
        constructor <;> rintro ⟨a, b⟩ <;> exact ⟨by omega, b⟩
      have e2 : (8 * j ≤ p ∧ p < 8 * j + (t + 1) ∧ bit p = true) ↔ (8 * j ≤ p ∧ p < 8 * j + t ∧ bit p = true) := by
        constructor <;> rintro ⟨a, b, c⟩ <;> exact ⟨by omega, by omega, c⟩
      simp only [e1, e2]
      omega
theorem byA_zero (bit : Nat → Bool) (j : Nat) : ∀ t, byA bit 0 j t = 0 := by
  intro t
  induction t with
  | zero => rfl
  | succ t ih => unfold byA; rw [ih, if_neg (by omega)]
theorem pk_len (bit : Nat → Bool) (n p : Nat) : (pk bit n p).length = n := by simp [pk]
theorem pk_zero (bit : Nat → Bool) (n : Nat) : pk bit n 0 = List.replicate n 0 := by
  apply List.ext_getElem
  · simp [pk]
  · intro i h1 h2; simp [pk, byA_zero]
theorem pk_step (bit : Nat → Bool) (n p : Nat) : pk bit n (p + 1) = (pk bit n p).set (p / 8) (UInt8.ofNat (byA bit p (p / 8) 8 + (if bit p = true then 2 ^ (p % 8) else 0))) := by
  apply List.ext_getElem
  · simp [pk]
  · intro i h1 h2
    rw [List.getElem_set]
    simp only [pk, List.getElem_map, List.getElem_range]
    rw [byA_step]
    by_cases e : p / 8 = i
    · rw [if_pos e]
      subst e
      have e1 : p - 8 * (p / 8) = p % 8 := by omega
      rw [e1]
      by_cases hb : bit p = true
      · rw [if_pos ⟨by omega, by omega, hb⟩, if_pos hb]
      · rw [if_neg (by simp [hb]), if_neg hb]
    · rw [if_neg e, if_neg (by omega)]; rfl
theorem zu_nat (n : Nat) : zu (n : Int) = 2 * n := by unfold zu; rw [if_neg (by omega)]; omega
theorem i64_nat {n : Nat} (h : n ≤ 9223372036854775807) : I64 (n : Int) := by unfold I64; omega
theorem num_one {n : Int} (h : zu n < 128) : (num n).length = 1 := by unfold num grp; rw [if_pos h]; rfl
theorem num_two {n : Int} (h : zu n < 16384) : (num n).length ≤ 2 := by
  unfold num grp
  split
  · simp
  · unfold grp; rw [if_pos (by omega)]; simp
theorem fm_len {α : Type} (f : α → By) (c : Nat) : ∀ l : List α, (∀ x ∈ l, (f x).length ≤ c) → (l.flatMap f).length ≤ c * l.length := by
  intro l
  induction l with
  | nil => intro _; simp
  | cons x r ih =>
    intro h
    have h1 := h x List.mem_cons_self
    have h2 := ih fun y hy => h y (List.mem_cons_of_mem _ hy)
    rw [List.flatMap_cons, List.length_append, List.length_cons, Nat.mul_succ]
    omega
theorem b1_len (l : Li) : (b1 l).length ≤ 10 * l.length := fm_len num 10 l fun x _ => (num_len x).2
theorem rl_len (l : Li) : (rl l).length ≤ l.length := by
  induction l with
  | nil => simp [rl]
  | cons x r ih =>
    simp only [rl]
    split
    · simp
    · rename_i p t e
      rw [e] at ih
      simp only [List.length_cons] at ih
      split <;> simp only [List.length_cons] <;> omega
theorem enP_len (p : Int × Nat) : (enP p).length ≤ 20 := by
  have h1 := num_len p.1; have h2 := num_len p.2
  unfold enP; rw [List.length_append]; omega
theorem b2_len (l : Li) : (b2 l).length ≤ 20 * l.length := by
  have h1 := fm_len enP 20 (rl l) fun x _ => enP_len x
  have h2 := rl_len l
  unfold b2; omega
theorem st_len (l : Li) : ∀ p, (st p l).length ≤ 10 * l.length := by
  induction l with
  | nil => intro p; simp [st]
  | cons x r ih => intro p; have h1 := ih x; have h2 := num_len (w64 (x - p)); simp only [st, List.length_append, List.length_cons]; omega
theorem b4_len (l : Li) : (b4 l).length ≤ 10 + 20 * l.length := by
  have h1 := num_len (ds l).length
  have h2 := b1_len (ds l)
  have h3 := ds_len l
  have h4 := fm_len (fun x => num (idx (ds l) x)) 10 l fun x _ => (num_len _).2
  unfold b4
  simp only [List.length_append]
  omega
theorem wd_le (l : Li) (h : AllI l) : wd l ≤ 64 := by
  unfold wd
  cases l with
  | nil => decide
  | cons x r =>
    have h1 := lo_le (l := x :: r) (x := x) List.mem_cons_self
    have h2 := hi_ge (l := x :: r) (x := x) List.mem_cons_self
    have h3 := h _ h1.2
    have h4 := h _ h2.2
    unfold I64 at h3 h4
    exact (wid_spec 64 _ (by unfold dif; omega)).2
theorem sz5_le (n w : Nat) (h : w ≤ 64) : sz5 n w ≤ 8 * n + 1 := by
  unfold sz5
  have := Nat.mul_le_mul_left n h
  omega
theorem b5_len (l : Li) (h : AllI l) : (b5 l).length ≤ 21 + 8 * l.length := by
  have h1 := num_len (lo l)
  have h2 := num_len (wd l)
  have h3 := sz5_le l.length (wd l) (wd_le l h)
  unfold b5
  simp only [List.length_append, pk_len]
  omega
theorem bd_len (k : Nat) (l : Li) (h : AllI l) : (bd k l).length ≤ 21 + 20 * l.length := by
  have h1 := b1_len l; have h2 := b2_len l; have h3 := st_len l 0; have h4 := b4_len l; have h5 := b5_len l h
  unfold bd
  split
  · omega
  · omega
  · unfold b3; omega
  · omega
  · omega
theorem en_len (k : Nat) (l : Li) (h : AllI l) : (en k l).length ≤ 41 + 20 * l.length := by
  have h1 := bd_len k l h; have h2 := num_len k; have h3 := num_len l.length
  unfold en; simp only [List.length_append]; omega
theorem en_pos (k : Nat) (l : Li) : 0 < (en k l).length := by
  have h2 := num_len k
  unfold en; simp only [List.length_append]; omega
theorem sh_le (a b : By) : (sh a b).length ≤ a.length ∧ (sh a b).length ≤ b.length := by unfold sh; split <;> omega
theorem sh_or (a b : By) : sh a b = a ∨ sh a b = b := by unfold sh; split; exact .inr rfl; exact .inl rfl
theorem best_le (l : Li) : ∀ k j, j ≤ k → (best l k).length ≤ (en (j + 1) l).length := by
  intro k
  induction k with
  | zero => intro j h; have : j = 0 := by omega
            subst this; exact Nat.le_refl _
  | succ k ih =>
    intro j h
    have h1 := sh_le (best l k) (en (k + 2) l)
    show (sh _ _).length ≤ _
    by_cases e : j = k + 1
    · subst e; exact h1.2
    · exact Nat.le_trans h1.1 (ih j (by omega))
theorem best_in (l : Li) : ∀ k, ∃ j, j ≤ k ∧ best l k = en (j + 1) l := by
  intro k
  induction k with
  | zero => exact ⟨0, Nat.le_refl _, rfl⟩
  | succ k ih =>
    obtain ⟨j, h1, h2⟩ := ih
    rcases sh_or (best l k) (en (k + 2) l) with e | e
    · exact ⟨j, by omega, by rw [← h2]; exact e⟩
    · exact ⟨k + 1, Nat.le_refl _, e⟩
theorem ints_le {l : Li} (h : l ≠ []) {k : Nat} (h1 : 1 ≤ k) (h2 : k ≤ 5) : (ints l).length ≤ (en k l).length := by
  unfold ints
  rw [if_neg h]
  obtain ⟨j, rfl⟩ : ∃ j, k = j + 1 := ⟨k - 1, by omega⟩
  exact best_le l 4 j (by omega)
theorem ints_in {l : Li} (h : l ≠ []) : ∃ k : Nat, 1 ≤ k ∧ k ≤ 5 ∧ ints l = en k l := by
  unfold ints
  rw [if_neg h]
  obtain ⟨j, h1, h2⟩ := best_in l 4
  exact ⟨j + 1, by omega, by omega, h2⟩
theorem ints_len (l : Li) (h : l.length ≤ 512) : (ints l).length ≤ 10 * l.length + 4 := by
  by_cases e : l = []
  · subst e; decide
  · refine Nat.le_trans (ints_le e (k := 1) (by omega) (by omega)) ?_
    have h1 := b1_len l
    have h2 : (num (1 : Nat)).length = 1 := num_one (by rw [zu_nat]; omega)
    have h3 : (num l.length).length ≤ 2 := num_two (by rw [zu_nat]; omega)
    show (num (1 : Nat) ++ num l.length ++ b1 l).length ≤ _
    simp only [List.length_append]
    omega
theorem ints_short (l : Li) (h : l.length ≤ 512) : (ints l).length ≤ 5124 := by have := ints_len l h; omega
theorem w64_of (n : Int) : w64 n = (n + 9223372036854775808) % 18446744073709551616 - 9223372036854775808 := by
  have e : Go.IntKind.i64.bits = 64 := rfl
  have s : Go.IntKind.i64.signed = true := rfl
  simp only [w64, Go.IntKind.wrap, e, s, Bool.true_and, decide_eq_true_eq]
  split <;> omega
theorem w64_i (n : Int) : I64 (w64 n) := by rw [w64_of]; unfold I64; omega
theorem w64_id {n : Int} (h : I64 n) : w64 n = n := by rw [w64_of]; unfold I64 at h; omega
def Pr (b : By) (n : Nat) (body : Li → By) (Q : Li → By → Prop) : Prop := ∀ l0 r, AllI l0 → l0.length = n → b = body l0 ++ r → Q l0 r
theorem Pr.mono {b : By} {n : Nat} {body : Li → By} {Q Q' : Li → By → Prop} (h : Pr b n body Q) (k : ∀ l0 r, AllI l0 → l0.length = n → Q l0 r → Q' l0 r) : Pr b n body Q' :=
  fun l0 r h1 h2 h3 => k l0 r h1 h2 (h l0 r h1 h2 h3)
theorem Pr.start (b : By) (n : Nat) (body : Li → By) : Pr b n body fun l0 r => b = body l0 ++ r := fun _ _ _ _ h => h
def DecR (body : Li → By) (b : By) (n : Nat) (l : Li) (ok : Bool) : Prop := AllI l ∧ l.length ≤ n ∧ Pr b n body fun l0 _ => ok = true ∧ l = l0
theorem rd1 {y : Int} {z b : By} {e : Int} (hy : I64 y) (he : e = 0) (h : b = num y ++ z) : (rnT b e).1 = y ∧ (rnT b e).2.2 = 0 ∧ b.drop (rnT b e).2.1 = z := by
  subst he; subst h
  rw [rnT_num hy]
  exact ⟨rfl, rfl, List.drop_left⟩
theorem AllI.at {l : Li} {i : Nat} {x : Int} (h : AllI l) (e : l[i]? = some x) : I64 x := h x (List.mem_of_getElem? e)
theorem AllI.snoc {l : Li} {x : Int} (h : AllI l) (hx : I64 x) : AllI (l ++ [x]) := fun y hy => by
  rcases List.mem_append.1 hy with e | e
  · exact h y e
  · rw [List.mem_singleton.1 e]; exact hx
theorem AllI.app {l m : Li} (h : AllI l) (hm : AllI m) : AllI (l ++ m) := fun y hy => (List.mem_append.1 hy).elim (h y) (hm y)
theorem AllI.nil : AllI [] := fun _ h => absurd h (by simp)
theorem AllI.rep {x : Int} (hx : I64 x) (k : Nat) : AllI (List.replicate k x) := fun y hy => by rw [List.eq_of_mem_replicate hy]; exact hx
def Q1 (b' : By) (out : Li) (e : Int) (l0 : Li) (r : By) : Prop := e = 0 ∧ ∃ rest, l0 = out ++ rest ∧ b' = b1 rest ++ r
theorem Q1.start {b : By} {l0 : Li} {r : By} (h : b = b1 l0 ++ r) : Q1 b [] 0 l0 r := ⟨rfl, l0, rfl, h⟩
theorem Q1.step {b' : By} {out : Li} {e : Int} {l0 : Li} {r : By} (ha : AllI l0) (hlt : out.length < l0.length) (h : Q1 b' out e l0 r) :
    Q1 (b'.drop (rnT b' e).2.1) (out ++ [(rnT b' e).1]) (rnT b' e).2.2 l0 r := by
  obtain ⟨he, rest, h1, h2⟩ := h
  cases rest with
  | nil => rw [h1] at hlt; simp at hlt
  | cons y rest =>
    have hy : I64 y := ha y (by rw [h1]; simp)
    have := rd1 (b := b') (z := b1 rest ++ r) hy he (by rw [h2]; simp [b1])
    rw [this.1, this.2.1, this.2.2]
    exact ⟨rfl, rest, by rw [h1]; simp, rfl⟩
theorem Q1.fin {b' : By} {out : Li} {e : Int} {l0 : Li} {r : By} (hlen : e = 0 → out.length = l0.length) (h : Q1 b' out e l0 r) : e = 0 ∧ out = l0 ∧ b' = r := by
  obtain ⟨he, rest, h1, h2⟩ := h
  have := hlen he
  have hr : rest = [] := by
    rw [h1, List.length_append] at this
    exact List.eq_nil_of_length_eq_zero (by omega)
  subst hr
  exact ⟨he, by rw [h1]; simp, by rw [h2]; simp [b1]⟩
def dl : Int → Li → Li
  | _, [] => []
  | p, x :: r => w64 (x - p) :: dl x r
theorem st_dl (l : Li) : ∀ p, st p l = b1 (dl p l) := by
  induction l with
  | nil => intro p; rfl
  | cons x r ih => intro p; simp only [st, dl, b1, List.flatMap_cons]; rw [ih x]; rfl
theorem dl_len (l : Li) : ∀ p, (dl p l).length = l.length := by
  induction l with
  | nil => intro p; rfl
  | cons x r ih => intro p; simp [dl, ih]
theorem dl_all (l : Li) : ∀ p, AllI (dl p l) := by
  induction l with
  | nil => intro p; exact AllI.nil
  | cons x r ih => intro p y hy; rcases List.mem_cons.1 hy with e | e
                   · rw [e]; exact w64_i _
                   · exact ih x y e
def sm : Int → Li → Li
  | _, [] => []
  | p, y :: r => w64 (p + y) :: sm (w64 (p + y)) r
theorem w64_back {p x : Int} (h : I64 x) : w64 (p + w64 (x - p)) = x := by simp only [w64_of]; unfold I64 at h; omega
theorem sm_dl (l : Li) : ∀ p, AllI l → sm p (dl p l) = l := by
  induction l with
  | nil => intro p _; rfl
  | cons x r ih =>
    intro p h
    have hx : I64 x := h x List.mem_cons_self
    simp only [dl, sm, w64_back hx]
    rw [ih x fun y hy => h y (List.mem_cons_of_mem _ hy)]
theorem sm_len (d : Li) : ∀ p, (sm p d).length = d.length := by
  induction d with
  | nil => intro p; rfl
  | cons x r ih => intro p; simp [sm, ih]
theorem sm_all (d : Li) : ∀ p, AllI (sm p d) := by
  induction d with
  | nil => intro p; exact AllI.nil
  | cons x r ih => intro p y hy; rcases List.mem_cons.1 hy with e | e
                   · rw [e]; exact w64_i _
                   · exact ih _ y e
theorem sm_at (d : Li) : ∀ (p : Int) (i : Nat), i + 1 < d.length → (sm p d)[i + 1]? = some (w64 ((sm p d).getD i 0 + d.getD (i + 1) 0)) := by
  induction d with
  | nil => intro p i h; simp at h
  | cons x r ih =>
    intro p i h
    cases i with
    | zero =>
      cases r with
      | nil => simp at h
      | cons y r => simp [sm]
    | succ i =>
      have := ih (w64 (p + x)) i (by simp at h ⊢; omega)
      simp only [sm, List.getElem?_cons_succ]
      rw [this]
      simp
theorem rl_split (l : Li) (h : l ≠ []) : ∃ y m t, l = List.replicate (m + 1) y ++ t ∧ rl l = (y, m + 1) :: rl t := by
  induction l with
  | nil => exact absurd rfl h
  | cons x r ih =>
    by_cases hr : r = []
    · subst hr; exact ⟨x, 0, [], rfl, rfl⟩
    · obtain ⟨y, m, t, h1, h2⟩ := ih hr
      by_cases e : x = y
      · subst e
        refine ⟨x, m + 1, t, ?_, ?_⟩
        · rw [h1, List.replicate_succ (n := m + 1)]; rfl
        · simp only [rl, h2]; simp
      · refine ⟨x, 0, r, rfl, ?_⟩
        simp only [rl, h2]
        rw [if_neg e]
def Q2 (b' : By) (out : Li) (e : Int) (l0 : Li) (r : By) : Prop := e = 0 ∧ ∃ rest, l0 = out ++ rest ∧ b' = b2 rest ++ r
theorem Q2.start {b : By} {l0 : Li} {r : By} (h : b = b2 l0 ++ r) : Q2 b [] 0 l0 r := ⟨rfl, l0, rfl, h⟩
theorem Q2.step {b' : By} {out : Li} {e : Int} {l0 : Li} {r : By} (ha : AllI l0) (hl : l0.length ≤ 9223372036854775807) (hlt : out.length < l0.length) (h : Q2 b' out e l0 r) :
    ∃ m : Nat, (rnT (b'.drop (rnT b' e).2.1) (rnT b' e).2.2).2.2 = 0 ∧ (rnT (b'.drop (rnT b' e).2.1) (rnT b' e).2.2).1 = ((m + 1 : Nat) : Int) ∧ m + 1 + out.length ≤ l0.length ∧
      Q2 ((b'.drop (rnT b' e).2.1).drop (rnT (b'.drop (rnT b' e).2.1) (rnT b' e).2.2).2.1) (out ++ List.replicate (m + 1) (rnT b' e).1) 0 l0 r := by
  obtain ⟨he, rest, h1, h2⟩ := h
  have hne : rest ≠ [] := by rintro rfl; rw [h1] at hlt; simp at hlt
  obtain ⟨y, m, t, h3, h4⟩ := rl_split rest hne
  have hy : I64 y := ha y (by rw [h1, h3]; simp)
  have hlen : m + 1 + out.length ≤ l0.length := by rw [h1, h3]; simp; omega
  have r1 := rd1 (b := b') (z := num ((m + 1 : Nat) : Int) ++ (b2 t ++ r)) hy he (by rw [h2, b2, h4]; simp [enP, b2])
  rw [r1.1, r1.2.1, r1.2.2]
  have r2 := rd1 (e := 0) (i64_nat (by omega : m + 1 ≤ 9223372036854775807)) rfl (rfl : num ((m + 1 : Nat) : Int) ++ (b2 t ++ r) = _)
  refine ⟨m, r2.2.1, r2.1, hlen, ?_⟩
  rw [r2.2.2]
  exact ⟨rfl, t, by rw [h1, h3]; simp, rfl⟩
theorem Q2.fin {b' : By} {out : Li} {e : Int} {l0 : Li} {r : By} (hlen : out.length = l0.length) (h : Q2 b' out e l0 r) : out = l0 ∧ b' = r := by
  obtain ⟨_, rest, h1, h2⟩ := h
  have hr : rest = [] := by
    rw [h1, List.length_append] at hlen
    exact List.eq_nil_of_length_eq_zero (by omega)
  subst hr
  exact ⟨by rw [h1]; simp, by rw [h2]; simp [b2, rl]⟩
def ixs (d l : Li) : By := l.flatMap fun x => num (idx d x)
def Q4k (k : Int) (b' : By) (keys : Li) (e : Int) (l0 : Li) (r : By) : Prop := k = (ds l0).length ∧ Q1 b' keys e (ds l0) (ixs (ds l0) l0 ++ r)
theorem Q4k.start {b : By} {n : Nat} (hn : n ≤ 512) {most em : Int} (hm : (n : Int) ≤ most) : Pr b n b4 fun l0 r => (cnT b 0 most em).2.2 = 0 ∧ Q4k (cnT b 0 most em).1 (b.drop (cnT b 0 most em).2.1) [] (cnT b 0 most em).2.2 l0 r := fun l0 r _ hl h => by
  have hd := ds_len l0
  have r1 := rd1 (b := b) (z := b1 (ds l0) ++ (ixs (ds l0) l0 ++ r)) (e := 0) (i64_nat (by omega : (ds l0).length ≤ 9223372036854775807)) rfl (by rw [h]; simp [b4, ixs])
  have e1 : (cnT b 0 most em).2.2 = 0 := by
    simp only [cnT]
    rw [r1.1, r1.2.1, if_pos rfl, if_neg (by omega), if_neg (by omega)]
  have e2 : (cnT b 0 most em).1 = (ds l0).length := by
    have : (cnT b 0 most em).1 = if (cnT b 0 most em).2.2 = 0 then (rnT b 0).1 else 0 := rfl
    rw [this, if_pos e1, r1.1]
  have e3 : (cnT b 0 most em).2.1 = (rnT b 0).2.1 := rfl
  refine ⟨e1, ?_⟩
  rw [e2, e1, e3, r1.2.2]
  exact ⟨rfl, Q1.start rfl⟩
def Q4 (keys : Li) (b' : By) (out : Li) (e : Int) (l0 : Li) (r : By) : Prop := keys = ds l0 ∧ e = 0 ∧ ∃ rest, l0 = out ++ rest ∧ b' = ixs (ds l0) rest ++ r
theorem Q4.start {k : Int} {b' : By} {keys : Li} {e : Int} {l0 : Li} {r : By} (hlen : e = 0 → (keys.length : Int) = k) (h : Q4k k b' keys e l0 r) : Q4 keys b' [] e l0 r := by
  obtain ⟨h1, h2⟩ := h
  have := h2.fin fun he => by have := hlen he; omega
  exact ⟨this.2.1, this.1, l0, rfl, this.2.2⟩
theorem Q4.step {keys : Li} {b' : By} {out : Li} {e : Int} {l0 : Li} {r : By} (hl : l0.length ≤ 512) (hlt : out.length < l0.length) (h : Q4 keys b' out e l0 r) :
    ∃ (i : Nat) (x : Int), (rnT b' e).2.2 = 0 ∧ (rnT b' e).1 = (i : Int) ∧ keys[i]? = some x ∧ Q4 keys (b'.drop (rnT b' e).2.1) (out ++ [x]) 0 l0 r := by
  obtain ⟨hk, he, rest, h1, h2⟩ := h
  cases rest with
  | nil => rw [h1] at hlt; simp at hlt
  | cons y rest =>
    have hm : y ∈ ds l0 := (ds_mem l0 y).2 (by rw [h1]; simp)
    have hi := idx_lt hm
    have hd := ds_len l0
    have r1 := rd1 (b := b') (z := ixs (ds l0) rest ++ r) (i64_nat (by omega : idx (ds l0) y ≤ 9223372036854775807)) he (by rw [h2]; simp [ixs])
    refine ⟨idx (ds l0) y, y, r1.2.1, r1.1, by rw [hk]; exact hi.2, hk, rfl, rest, by rw [h1]; simp, r1.2.2⟩
theorem Q4.fin {keys : Li} {b' : By} {out : Li} {e : Int} {l0 : Li} {r : By} (hlen : out.length = l0.length) (h : Q4 keys b' out e l0 r) : out = l0 ∧ b' = r := by
  obtain ⟨_, _, rest, h1, h2⟩ := h
  have hr : rest = [] := by
    rw [h1, List.length_append] at hlen
    exact List.eq_nil_of_length_eq_zero (by omega)
  subst hr
  exact ⟨by rw [h1]; simp, by rw [h2]; simp [ixs]⟩
def Q5 (least : Int) (w : Nat) (b' : By) (l0 : Li) (r : By) : Prop := least = lo l0 ∧ w = wd l0 ∧ b' = pk (bitA (lo l0) (wd l0) l0) (sz5 l0.length (wd l0)) (l0.length * wd l0) ++ r
theorem dif_lt {l : Li} (h : AllI l) {x : Int} (hx : x ∈ l) : dif (lo l) x < 2 ^ wd l := by
  have h1 := lo_le hx
  have h2 := hi_ge hx
  have h3 := h _ h1.2
  have h4 := h _ h2.2
  unfold I64 at h3 h4
  have h5 := (wid_spec 64 (dif (lo l) (hi l)) (by unfold dif; omega)).1
  refine Nat.lt_of_le_of_lt ?_ h5
  unfold dif; omega
theorem Q5.bit {least : Int} {w : Nat} {b' : By} {l0 : Li} {r : By} (h : Q5 least w b' l0 r) {i k : Nat} (hi : i < l0.length) (hk : k < w) :
    ∃ c, b'[(i * w + k) / 8]? = some c ∧ c.toNat.testBit ((i * w + k) % 8) = (dif least (l0.getD i 0)).testBit k := by
  obtain ⟨h1, h2, h3⟩ := h
  subst h2
  have hw : 0 < wd l0 := by omega
  have hat : i * wd l0 + k < l0.length * wd l0 := by
    have := Nat.mul_le_mul_right (wd l0) (show i + 1 ≤ l0.length from hi)
    rw [Nat.add_mul, Nat.one_mul] at this; omega
  have h8 : (i * wd l0 + k) / 8 < sz5 l0.length (wd l0) := by unfold sz5; omega
  refine ⟨UInt8.ofNat (byA (bitA (lo l0) (wd l0) l0) (l0.length * wd l0) ((i * wd l0 + k) / 8) 8), by rw [h3, List.getElem?_append_left (by rw [pk_len]; exact h8)]; simp only [pk, List.getElem?_map, List.getElem?_range h8, Option.map_some], ?_⟩
  have hlt := byA_lt (bitA (lo l0) (wd l0) l0) (l0.length * wd l0) ((i * wd l0 + k) / 8) 8
  rw [toNat_ofNat (by omega), byA_bit _ _ _ _ _ (by omega)]
  have e : 8 * ((i * wd l0 + k) / 8) + (i * wd l0 + k) % 8 = i * wd l0 + k := by omega
  rw [e, decide_eq_true hat, Bool.true_and, h1]
  unfold bitA
  have e1 : (i * wd l0 + k) / wd l0 = i := by rw [Nat.mul_comm, Nat.mul_add_div hw, Nat.div_eq_of_lt hk, Nat.add_zero]
  have e2 : (i * wd l0 + k) % wd l0 = k := by rw [Nat.mul_comm, Nat.mul_add_mod, Nat.mod_eq_of_lt hk]
  rw [e1, e2]
theorem bit_of (c s : Nat) : c / 2 ^ s % 2 = if c.testBit s = true then 1 else 0 := by
  rw [Nat.testBit_eq_decide_div_mod_eq]
  by_cases h : c / 2 ^ s % 2 = 1
  · simp [h]
  · have : c / 2 ^ s % 2 = 0 := by omega
    simp [this]
theorem bit_sum (x k : Nat) : x % 2 ^ (k + 1) = x % 2 ^ k + (if x.testBit k = true then 1 else 0) * 2 ^ k := by
  rw [Nat.pow_succ, Nat.mod_mul, bit_of, Nat.mul_comm (2 ^ k)]
theorem Q5.val {least : Int} {w : Nat} {b' : By} {l0 : Li} {r : By} (h : Q5 least w b' l0 r) (ha : AllI l0) {i : Nat} {x : Int} (hx : l0[i]? = some x) : w64 (least + (dif least (l0.getD i 0) % 2 ^ w : Nat)) = x := by
  obtain ⟨h1, h2, _⟩ := h
  have hm := List.mem_of_getElem? hx
  have e : l0.getD i 0 = x := by rw [List.getD_eq_getElem?_getD, hx]; rfl
  have h3 := dif_lt ha hm
  have h4 := lo_le hm
  rw [e, h1, h2, Nat.mod_eq_of_lt h3]
  have : lo l0 + (dif (lo l0) x : Nat) = x := by unfold dif; omega
  rw [this]
  exact w64_id (ha x hm)
theorem Q5.size {least : Int} {w : Nat} {b' : By} {l0 : Li} {r : By} (h : Q5 least w b' l0 r) : sz5 l0.length w ≤ b'.length := by
  obtain ⟨_, h2, h3⟩ := h
  rw [h3, h2, List.length_append, pk_len]; omega
end Go.Proofs.YtmhpfadbmpipkaaGreatDoor.Cl
