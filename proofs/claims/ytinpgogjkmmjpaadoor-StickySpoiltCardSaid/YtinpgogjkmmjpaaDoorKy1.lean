/- The walks of the reference's Word, Reserved and Key. No condition. -/
import Derived.Test.YtinpgogjkmmjpaaDoorPlans
import Derived.Test.YtinpgogjkmmjpaaDoorSt
import Derived.Test.YtinpgogjkmmjpaaDoorIdp
import Derived.Test.YtinpgogjkmmjpaaDoorProg
set_option linter.unusedVariables false
set_option linter.unusedSimpArgs false
namespace Go.Proofs.YtinpgogjkmmjpaaDoor.Ky
open Go Go.RowKit Go.Proofs.YtinpgogjkmmjpaaDoor.Vc Go.Proofs.YtinpgogjkmmjpaaDoor.Id
attribute [local irreducible] loadVar storeVar Instr.indexAt Instr.index Instr.sliceAt Instr.makeSlice Instr.lookup Instr.mapUpdate Instr.range Instr.next Instr.entry Instr.makeMap Builtin.append_ Builtin.copy_ Builtin.len_ Builtin.min_ Builtin.max_ Builtin.cap_ Builtin.delete_ Builtin.clear_ convert binOp eqGuard Op.unary Calls

theorem mixed : Tryd.prog.follows .mixedOrders = true := by kernel_rfl
/-- what a key may have at place i -/
def okB (i c : Nat) : Bool := (decide (97 ≤ c) && decide (c ≤ 122)) || (!decide (i = 0) && ((decide (48 ≤ c) && decide (c ≤ 57)) || decide (c = 45) || decide (c = 95)))
theorem okB_iff (i c : Nat) : okB i c = true ↔ (97 ≤ c ∧ c ≤ 122) ∨ (i ≠ 0 ∧ ((48 ≤ c ∧ c ≤ 57) ∨ c = 45 ∨ c = 95)) := by
  simp [okB, or_assoc]
theorem okB_not (i c : Nat) : okB i c = false ↔ ¬ ((97 ≤ c ∧ c ≤ 122) ∨ (i ≠ 0 ∧ ((48 ≤ c ∧ c ≤ 57) ∨ c = 45 ∨ c = 95))) := by
  rw [← okB_iff]; simp
def wordB : Nat → List UInt8 → Bool
  | _, [] => true
  | i, c :: l => okB i c.toNat && wordB (i + 1) l
theorem wordB_step (l : List UInt8) (i : Nat) (h : i < l.length) : wordB i (l.drop i) = (okB i l[i].toNat && wordB (i + 1) (l.drop (i + 1))) := by
  rw [List.drop_eq_getElem_cons h]; rfl

set_option maxRecDepth 100000 in
theorem word_ok (s : ByteArray) (w : World) (hs : s.size ≤ 140737488355328) :
    Ret Tryd.prog 65 #[.string s] w fun v w' => v = .bool (wordB 0 (bys s) && decide (1 ≤ s.size)) ∧ w' = w := by
  refine ret_of_vc Tryd.func65 rfl mixed (by kernel_rfl) ?_
  have hl := bys_len s
  conv => whnf
  refine vloop (X := Nat) ws65_1 (fun i => [(3, .int .i64 i)]) (fun i w' => i ≤ s.size ∧ w' = w ∧ wordB 0 (bys s) = wordB i ((bys s).drop i)) (fun i => s.size - i) 0 (by kernel_rfl)
    ?_ ⟨Nat.zero_le _, rfl, rfl⟩ ?_
  · exact ⟨rfl, trivial⟩
  rintro i w1 j ⟨hi, rfl, hp⟩
  conv => whnf
  refine vif_split (fun hlt => ?_) (fun hge => ?_)
  · have hlt : i < s.size := by have := of_decide_eq_true hlt; omega
    have hst := wordB_step (bys s) i (by omega)
    have hc : (bys s)[i]'(by omega) = s[i] := by simp; rfl
    rw [hc] at hst
    have hcb : s[i].toNat < 256 := s[i].toNat_lt
    obtain ⟨c, hcc⟩ : ∃ c, c = s[i].toNat := ⟨_, rfl⟩
    rw [hst] at hp
    rw [hp]
    have hno := okB_not i c
    have hyes := okB_iff i c
    rw [← hcc] at hcb ⊢ hp
    conv => whnf
    refine vs_ixS i rfl rfl hlt ?_
    rw [← hcc]
    conv => whnf
    clear hst hc hp
    have e0 : okB i c = false → (okB i c && wordB (i + 1) ((bys s).drop (i + 1)) && decide (1 ≤ s.size)) = false := fun h => by rw [h]; rfl
    have e1 : okB i c = true → (okB i c && wordB (i + 1) ((bys s).drop (i + 1))) = wordB (i + 1) ((bys s).drop (i + 1)) := fun h => by rw [h]; rfl
    (repeat' (refine vif_split (fun h => ?_) (fun h => ?_); all_goals (conv => whnf)))
    all_goals first
      | exact VEnd.mk ⟨congrArg Value.bool (e0 (hno.2 (by (try simp only [cond_true, cond_false, Bool.not_eq_true', Bool.not_eq_false', decide_eq_true_eq, decide_eq_false_iff_not, beq_iff_eq, bne_iff_ne, beq_eq_false_iff_ne, bne_eq_false_iff_eq, ne_eq, Bool.not_eq_eq_eq_not, Bool.not_true, Bool.not_false, Bool.false_eq_true, Bool.true_eq_false] at *) <;> omega))).symm, rfl⟩
      | exact VBack.mk ⟨_, (show s.size - (i + 1) < s.size - i by omega), i + 1, rfl, ⟨intEq (incr (by omega)), trivial⟩, hlt, rfl, e1 (hyes.2 (by (try simp only [cond_true, cond_false, Bool.not_eq_true', Bool.not_eq_false', decide_eq_true_eq, decide_eq_false_iff_not, beq_iff_eq, bne_iff_ne, beq_eq_false_iff_ne, bne_eq_false_iff_eq, ne_eq, Bool.not_eq_eq_eq_not, Bool.not_true, Bool.not_false, Bool.false_eq_true, Bool.true_eq_false] at *) <;> omega))⟩
  · have hge : ¬ i < s.size := by have := of_decide_eq_false hge; omega
    obtain rfl : i = s.size := by omega
    rw [List.drop_of_length_le (by omega)] at hp
    have hp2 : wordB 0 (bys s) = true := hp
    rw [hp2]
    conv => whnf
    exact VEnd.mk ⟨by show Value.bool _ = _; simp; omega, rfl⟩

/-- the reserved words -/
def resv : List ByteArray := [⟨#[97, 110, 100]⟩, ⟨#[97, 114, 109, 115]⟩, ⟨#[97, 116, 116, 114, 105, 98, 117, 116, 101]⟩, ⟨#[98, 111, 111, 108]⟩, ⟨#[99, 108, 97, 105, 109, 115]⟩, ⟨#[99, 111, 110, 116, 97, 105, 110, 115]⟩, ⟨#[99, 111, 111, 108]⟩, ⟨#[99, 111, 111, 108, 105, 110, 103]⟩, ⟨#[100, 101, 102, 97, 117, 108, 116]⟩, ⟨#[100, 114, 97, 102, 116]⟩, ⟨#[101, 110, 100, 115]⟩, ⟨#[101, 120, 99, 108, 117, 100, 101]⟩, ⟨#[101, 120, 105, 115, 116, 115]⟩, ⟨#[101, 120, 112, 101, 114, 105, 109, 101, 110, 116]⟩, ⟨#[102, 97, 108, 115, 101]⟩, ⟨#[102, 108, 97, 103]⟩, ⟨#[104, 111, 108, 100, 111, 117, 116]⟩, ⟨#[105, 110]⟩, ⟨#[105, 110, 99, 108, 117, 100, 101]⟩, ⟨#[105, 115]⟩, ⟨#[108, 97, 121, 101, 114]⟩, ⟨#[108, 105, 115, 116]⟩, ⟨#[109, 101, 109, 98, 101, 114]⟩, ⟨#[110, 101, 101, 100, 115]⟩, ⟨#[110, 111, 116]⟩, ⟨#[110, 117, 109, 98, 101, 114]⟩, ⟨#[111, 102, 102]⟩, ⟨#[111, 110]⟩, ⟨#[111, 114]⟩, ⟨#[114, 117, 108, 101]⟩, ⟨#[114, 117, 110, 110, 105, 110, 103]⟩, ⟨#[115, 97, 108, 116]⟩, ⟨#[115, 101, 103, 109, 101, 110, 116]⟩, ⟨#[115, 101, 114, 118, 101]⟩, ⟨#[115, 101, 116, 116, 105, 110, 103, 115]⟩, ⟨#[115, 112, 108, 105, 116]⟩, ⟨#[115, 116, 97, 114, 116, 115]⟩, ⟨#[115, 116, 111, 112, 112, 101, 100]⟩, ⟨#[116, 97, 114, 103, 101, 116]⟩, ⟨#[116, 101, 120, 116]⟩, ⟨#[116, 111]⟩, ⟨#[116, 114, 117, 101]⟩, ⟨#[117, 110, 116, 105, 108]⟩, ⟨#[118, 97, 114, 105, 97, 116, 105, 111, 110, 115]⟩, ⟨#[118, 101, 114, 115, 105, 111, 110]⟩, ⟨#[119, 104, 101, 110]⟩]
def keyB (s : ByteArray) : Bool := decide (1 ≤ s.size) && decide (s.size ≤ 32) && wordB 0 (bys s) && !(resv.any fun r => sEq r s)
theorem any_take (l : List ByteArray) (f : ByteArray → Bool) (i : Nat) (h : i < l.length) : (l.drop i).any f = (f l[i] || (l.drop (i + 1)).any f) := by
  rw [List.drop_eq_getElem_cons h]; rfl
def svals (l : List ByteArray) : List Value := l.map .string
theorem svals_get {l : List ByteArray} {j : Nat} (h : j < l.length) : (svals l)[j]? = some (.string l[j]) := by simp [svals, h]

set_option maxRecDepth 100000 in
theorem reserved_ok (w : World) : Ret Tryd.prog 66 #[] w fun v w' => v = .slice (some ⟨w.heap.size, 0, none⟩) 46 46 ∧ At w' w.heap.size 0 (svals resv) ∧ w.heap.size < w'.heap.size ∧ Below w.heap.size w w' := by
  refine ret_of_vc Tryd.func66 rfl mixed (by kernel_rfl) ?_
  conv => whnf
  refine VEnd.mk ⟨rfl, ?_, by simp, balloc (Below.refl _ _) (Nat.le_refl _) _⟩
  exact (Blk.new w _ _).at

theorem resv_len : resv.length = 46 := rfl
attribute [local irreducible] resv
set_option maxRecDepth 100000 in
theorem key2_ok (s : ByteArray) (w : World) (hs : s.size ≤ 140737488355328) :
    Ret Tryd.prog 46 #[.string s] w fun v w' => v = .bool (keyB s) ∧ Below w.heap.size w w' := by
  refine ret_of_vc Tryd.func46 rfl mixed (by kernel_rfl) ?_
  have hk : keyB s = (decide (1 ≤ s.size) && decide (s.size ≤ 32) && wordB 0 (bys s) && !(resv.any fun r => sEq r s)) := rfl
  obtain ⟨kb, hkb⟩ : ∃ b, b = keyB s := ⟨_, rfl⟩
  rw [← hkb] at hk ⊢
  conv => whnf
  refine vcall (by kernel_rfl) (word_ok s w hs) ?_
  rintro _ w1 ⟨rfl, rfl⟩
  obtain ⟨wb, hwb⟩ : ∃ b, b = wordB 0 (bys s) := ⟨_, rfl⟩
  rw [← hwb] at hk ⊢
  conv => whnf
  refine vif_split (fun h1 => ?_) (fun h1 => ?_)
  · have : kb = false := by rw [hk]; cases wb <;> simp_all
    subst this
    conv => whnf
    exact VEnd.mk ⟨rfl, Below.refl _ _⟩
  have h1 : wb = true ∧ 1 ≤ s.size := by cases wb <;> simp_all
  conv => whnf
  refine vif_split (fun h2 => ?_) (fun h2 => ?_)
  · have h2 : ¬ s.size ≤ 32 := by have : (s.size : Int) > 32 := of_decide_eq_true h2; omega
    have : kb = false := by rw [hk]; simp [h2]
    subst this
    conv => whnf
    exact VEnd.mk ⟨rfl, Below.refl _ _⟩
  have h2 : s.size ≤ 32 := by have : ¬ (s.size : Int) > 32 := of_decide_eq_false h2; omega
  have hk2 : kb = !(resv.any fun r => sEq r s) := by rw [hk, h1.1]; simp [h1.2, h2]
  conv => whnf
  refine vcall (by kernel_rfl) (reserved_ok w1) ?_
  rintro _ w2 ⟨rfl, hA, hlt2, hB⟩
  clear hk
  conv => whnf
  refine vloop (X := Nat) ws46_1 (fun i => [(4, .int .i64 i)]) (fun i w' => i ≤ 46 ∧ w' = w2 ∧ (resv.any fun r => sEq r s) = (resv.drop i).any fun r => sEq r s) (fun i => 46 - i) 0 (by kernel_rfl)
    ?_ ⟨Nat.zero_le _, rfl, rfl⟩ ?_
  · exact ⟨rfl, trivial⟩
  rintro i w3 j ⟨hi, rfl, hp⟩
  conv => whnf
  refine vif_split (fun hlt => ?_) (fun hge => ?_)
  · have hlt : i < 46 := by have := of_decide_eq_true hlt; omega
    have hil : i < resv.length := by rw [resv_len]; exact hlt
    rw [any_take _ _ i hil] at hp
    have hg := svals_get hil
    conv => whnf
    (repeat (first | (refine VReq.mk (by first | decide | omega) ?_; conv => whnf) | (refine VPend.mk rfl ?_; conv => whnf) | (refine VNext.keep rfl ?_; conv => whnf) | (refine vs_slI1 _ rfl rfl rfl (by assumption) ?_; conv => whnf) | (refine vs_slI _ rfl rfl rfl (by assumption) ?_; conv => whnf) | (refine vs_arr1 _ rfl rfl rfl (by assumption) ?_; conv => whnf) | (refine vs_loadF (by with_reducible assumption) (by assumption) rfl rfl ?_; conv => whnf) | (refine vs_loadF0 (by with_reducible assumption) (by assumption) rfl rfl ?_; conv => whnf) | (refine vs_loadI (by with_reducible assumption) (by assumption) rfl ?_; conv => whnf) | (refine vs_loadB rfl (by with_reducible assumption) (by assumption) ?_; conv => whnf)))
    refine vif_split (fun h => ?_) (fun h => ?_)
    · have : kb = false := by rw [hk2, hp, h]; rfl
      subst this
      conv => whnf
      exact VEnd.mk ⟨rfl, hB⟩
    · rw [h, Bool.false_or] at hp
      conv => whnf
      refine VBack.mk ⟨_, ?_, (i + 1), rfl, ?_, ?_⟩
      · show 46 - (i + 1) < 46 - i; omega
      · exact ⟨intEq (incr (by omega)), trivial⟩
      · exact ⟨hlt, rfl, hp⟩
  · have hge : ¬ i < 46 := by have := of_decide_eq_false hge; omega
    obtain rfl : i = 46 := by omega
    rw [List.drop_of_length_le (by rw [resv_len]; exact Nat.le_refl _)] at hp
    have : kb = true := by rw [hk2, hp]; rfl
    subst this
    conv => whnf
    exact VEnd.mk ⟨rfl, hB⟩
end Go.Proofs.YtinpgogjkmmjpaaDoor.Ky
