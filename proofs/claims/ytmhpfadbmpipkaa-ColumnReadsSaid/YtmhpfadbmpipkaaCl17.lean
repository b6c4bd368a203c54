/- The walk of the reference's Ints, and that of ColumnInts. Condition: none beside what the statement bounds. -/
import Derived.Test.YtmhpfadbmpipkaaCl16
set_option linter.unusedVariables false
set_option linter.unusedSimpArgs false
namespace Go.Proofs.Ytmhpfadbmpipkaa.Cl
open Go Go.RowKit Go.Proofs Go.Proofs.Ytmhpfadbmpipkaa.Vc Go.Proofs.Ytmhpfadbmpipkaa.Ax
attribute [local irreducible] loadVar storeVar Instr.indexAt Instr.index Instr.sliceAt Instr.makeSlice Instr.lookup Instr.mapUpdate Instr.range Instr.next Instr.entry Instr.makeMap Builtin.append_ Builtin.copy_ Builtin.len_ Builtin.min_ Builtin.max_ Builtin.cap_ Builtin.delete_ Builtin.clear_ convert binOp eqGuard Op.unary Calls
attribute [local irreducible] best ints en bd
set_option maxHeartbeats 8000000 in
set_option maxRecDepth 100000 in
theorem ints2A (l : Li) (hl : AllI l) (hs : l.length ≤ 512) : AFn Try.prog GC 10 [li l] 0 [] (Is (bs (ints l))) := by
  refine afn_of Try.func10 rfl mixed (by kernel_rfl) ?_
  conv => whnf
  refine vif_split (fun h => ?_) (fun h => ?_)
  · have e : l = [] := List.eq_nil_of_length_eq_zero (by simp at h; simp [h])
    subst e
    conv => whnf
    rw [ex2]
    exact aret [0] (by repeat' (first | rfl | trivial | apply And.intro))
  have hne : l ≠ [] := fun e => by subst e; simp at h
  conv => whnf
  (refine acallF [] (by kernel_rfl) (enc1A l hl hs) ?_ ?_; (focus (repeat' (first | rfl | trivial | apply And.intro))))
  rintro _ _ _ ⟨rfl, rfl, rfl⟩
  conv => whnf
  refine aloop ws10_1 0 [3, 4] (fun k : Nat => [(3, bs (best l (k - 2))), (4, iv k)]) (fun _ => []) (fun k => 2 ≤ k ∧ k ≤ 6) (fun k => 6 - k) [] [] 2 (by kernel_rfl) (fun _ => rfl) rfl ⟨Nat.le_refl _, by decide⟩ trivial ⟨⟨rfl, by rw [best_zero]⟩, rfl, trivial⟩ ?_
  rintro k ⟨hk1, hk2⟩
  have hc : k = 2 ∨ k = 3 ∨ k = 4 ∨ k = 5 ∨ k = 6 := by omega
  rcases hc with rfl | rfl | rfl | rfl | rfl
  · conv => whnf
    (refine acallF [] (by kernel_rfl) (enc2A l hl hs) ?_ ?_; (focus (repeat' (first | rfl | trivial | apply And.intro))))
    rintro _ _ _ ⟨rfl, rfl, rfl⟩
    conv => whnf
    refine vif_split (fun h => ?_) (fun h => ?_)
    · conv => whnf
      refine AAr.i64 (by decide) ?_
      conv => whnf
      refine aback (0 + 3) [] [] rfl (by decide) ⟨by decide, by decide⟩ trivial ⟨⟨rfl, ?_⟩, rfl, trivial⟩
      show _ = (best l (0 + 1)).map enB
      rw [best_lt 0 (by simp only [List.length_map, decide_eq_true_eq, decide_eq_false_iff_not] at h; have h3 : ((en (0 + 2) l).length : Int) < ((best l 0).length : Int) := h; omega)]
    · conv => whnf
      refine AAr.i64 (by decide) ?_
      conv => whnf
      refine aback (0 + 3) [] [] rfl (by decide) ⟨by decide, by decide⟩ trivial ⟨⟨rfl, ?_⟩, rfl, trivial⟩
      show _ = (best l (0 + 1)).map enB
      rw [best_ge 0 (by simp only [List.length_map, decide_eq_true_eq, decide_eq_false_iff_not] at h; have h3 : ¬ ((en (0 + 2) l).length : Int) < ((best l 0).length : Int) := h; omega)]
  · conv => whnf
    (refine acallF [] (by kernel_rfl) (enc3A l hl hne hs) ?_ ?_; (focus (repeat' (first | rfl | trivial | apply And.intro))))
    rintro _ _ _ ⟨rfl, rfl, rfl⟩
    conv => whnf
    refine vif_split (fun h => ?_) (fun h => ?_)
    · conv => whnf
      refine AAr.i64 (by decide) ?_
      conv => whnf
      refine aback (1 + 3) [] [] rfl (by decide) ⟨by decide, by decide⟩ trivial ⟨⟨rfl, ?_⟩, rfl, trivial⟩
      show _ = (best l (1 + 1)).map enB
      rw [best_lt 1 (by simp only [List.length_map, decide_eq_true_eq, decide_eq_false_iff_not] at h; have h3 : ((en (1 + 2) l).length : Int) < ((best l 1).length : Int) := h; omega)]
    · conv => whnf
      refine AAr.i64 (by decide) ?_
      conv => whnf
      refine aback (1 + 3) [] [] rfl (by decide) ⟨by decide, by decide⟩ trivial ⟨⟨rfl, ?_⟩, rfl, trivial⟩
      show _ = (best l (1 + 1)).map enB
      rw [best_ge 1 (by simp only [List.length_map, decide_eq_true_eq, decide_eq_false_iff_not] at h; have h3 : ¬ ((en (1 + 2) l).length : Int) < ((best l 1).length : Int) := h; omega)]
  · conv => whnf
    (refine acallF [] (by kernel_rfl) (enc4A l hl hs) ?_ ?_; (focus (repeat' (first | rfl | trivial | apply And.intro))))
    rintro _ _ _ ⟨rfl, rfl, rfl⟩
    conv => whnf
    refine vif_split (fun h => ?_) (fun h => ?_)
    · conv => whnf
      refine AAr.i64 (by decide) ?_
      conv => whnf
      refine aback (2 + 3) [] [] rfl (by decide) ⟨by decide, by decide⟩ trivial ⟨⟨rfl, ?_⟩, rfl, trivial⟩
      show _ = (best l (2 + 1)).map enB
      rw [best_lt 2 (by simp only [List.length_map, decide_eq_true_eq, decide_eq_false_iff_not] at h; have h3 : ((en (2 + 2) l).length : Int) < ((best l 2).length : Int) := h; omega)]
    · conv => whnf
      refine AAr.i64 (by decide) ?_
      conv => whnf
      refine aback (2 + 3) [] [] rfl (by decide) ⟨by decide, by decide⟩ trivial ⟨⟨rfl, ?_⟩, rfl, trivial⟩
      show _ = (best l (2 + 1)).map enB
      rw [best_ge 2 (by simp only [List.length_map, decide_eq_true_eq, decide_eq_false_iff_not] at h; have h3 : ¬ ((en (2 + 2) l).length : Int) < ((best l 2).length : Int) := h; omega)]
  · conv => whnf
    (refine acallF [] (by kernel_rfl) (enc5A l hl hne hs) ?_ ?_; (focus (repeat' (first | rfl | trivial | apply And.intro))))
    rintro _ _ _ ⟨rfl, rfl, rfl⟩
    conv => whnf
    refine vif_split (fun h => ?_) (fun h => ?_)
    · conv => whnf
      refine AAr.i64 (by decide) ?_
      conv => whnf
      refine aback (3 + 3) [] [] rfl (by decide) ⟨by decide, by decide⟩ trivial ⟨⟨rfl, ?_⟩, rfl, trivial⟩
      show _ = (best l (3 + 1)).map enB
      rw [best_lt 3 (by simp only [List.length_map, decide_eq_true_eq, decide_eq_false_iff_not] at h; have h3 : ((en (3 + 2) l).length : Int) < ((best l 3).length : Int) := h; omega)]
    · conv => whnf
      refine AAr.i64 (by decide) ?_
      conv => whnf
      refine aback (3 + 3) [] [] rfl (by decide) ⟨by decide, by decide⟩ trivial ⟨⟨rfl, ?_⟩, rfl, trivial⟩
      show _ = (best l (3 + 1)).map enB
      rw [best_ge 3 (by simp only [List.length_map, decide_eq_true_eq, decide_eq_false_iff_not] at h; have h3 : ¬ ((en (3 + 2) l).length : Int) < ((best l 3).length : Int) := h; omega)]
  · conv => whnf
    rw [ints_eq hne]
    exact aret [] (by repeat' (first | rfl | trivial | apply And.intro))
set_option maxHeartbeats 8000000 in
set_option maxRecDepth 100000 in
theorem lawIntsA (l m : Li) (kind : Nat) (hl : AllI l) (hm : ∀ x ∈ m, I16 x) (hk : kind < 256) : AFn Try.prog GC 3 [li l, i16s m, u8v kind] 0 [] (Is (bv true)) := by
  refine afn_of Try.func3 rfl mixed (by kernel_rfl) ?_
  conv => whnf
  (refine acall [] (by kernel_rfl) (awakeA) rfl ?_ ?_; (focus (repeat' (first | rfl | trivial | apply And.intro))))
  conv => whnf
  refine vif_split (fun h => ?_) (fun h => ?_)
  · conv => whnf
    exact aret [] (by repeat' (first | rfl | trivial | apply And.intro))
  have hll : l.length ≤ 200 := by simp at h; omega
  conv => whnf
  (refine acallF [] (by kernel_rfl) (dataA m kind hm hk) ?_ ?_; (focus (repeat' (first | rfl | trivial | apply And.intro))))
  rintro _ _ _ ⟨x, hx1, hx2, rfl, rfl, rfl⟩
  conv => whnf
  have p1 := intsA l hl (by omega)
  have p2 := ints2A l hl (by omega)
  have q1 := intsA x hx1 (by omega)
  have q2 := ints2A x hx1 (by omega)
  generalize ints l = b at *
  generalize ints x = c at *
  (refine adraw pln3 [] (by kernel_rfl) ?_; conv => whnf)
  have hsE : ∀ z : ByteArray, sEq z z = true := fun z => by simp [sEqD]
  repeat' (first
    | (refine And.intro ?_ ?_ <;> (conv => whnf))
    | ((refine acallF [] (by kernel_rfl) (p1) ?_ ?_; (focus (repeat' (first | rfl | trivial | apply And.intro)))); rintro _ _ _ ⟨rfl, rfl, rfl⟩; conv => whnf)
    | ((refine acallF [] (by kernel_rfl) (p2) ?_ ?_; (focus (repeat' (first | rfl | trivial | apply And.intro)))); rintro _ _ _ ⟨rfl, rfl, rfl⟩; conv => whnf)
    | ((refine acallF [] (by kernel_rfl) (q1) ?_ ?_; (focus (repeat' (first | rfl | trivial | apply And.intro)))); rintro _ _ _ ⟨rfl, rfl, rfl⟩; conv => whnf)
    | ((refine acallF [] (by kernel_rfl) (q2) ?_ ?_; (focus (repeat' (first | rfl | trivial | apply And.intro)))); rintro _ _ _ ⟨rfl, rfl, rfl⟩; conv => whnf)
    | (refine ABy.of ?_; conv => whnf)
    | (refine vif_split (fun h => ?_) (fun h => ?_) <;> (try simp only [sEqD, cond_true, cond_false, Bool.not_eq_true', Bool.not_eq_false', decide_eq_true_eq, decide_eq_false_iff_not, beq_iff_eq, bne_iff_ne, beq_eq_false_iff_ne, bne_eq_false_iff_eq, ne_eq, Bool.not_eq_eq_eq_not, Bool.not_true, Bool.not_false, Bool.false_eq_true, Bool.true_eq_false, Decidable.not_not, gt_iff_lt, ge_iff_le, Int.not_lt, Int.not_le] at h) <;> (conv => whnf)))
  all_goals first
    | exact aret [] (congrArg Value.bool (hsE _))
    | (rename_i h; exact absurd rfl h)
    | (exfalso; simp at *; done)
    | trace_state
end Go.Proofs.Ytmhpfadbmpipkaa.Cl
