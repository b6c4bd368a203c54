/- The walk of the reference's Ints. Condition: at most 512 numbers of 64 bits. -/
import Derived.Test.YtmhpfadbmpipkaaGreatCl16
set_option linter.unusedVariables false
set_option linter.unusedSimpArgs false
namespace Go.Proofs.YtmhpfadbmpipkaaGreat.Cl
open Go Go.RowKit Go.Proofs Go.Proofs.YtmhpfadbmpipkaaGreat.Vc Go.Proofs.YtmhpfadbmpipkaaGreat.Ax
attribute [local irreducible] loadVar storeVar Instr.indexAt Instr.index Instr.sliceAt Instr.makeSlice Instr.lookup Instr.mapUpdate Instr.range Instr.next Instr.entry Instr.makeMap Builtin.append_ Builtin.copy_ Builtin.len_ Builtin.min_ Builtin.max_ Builtin.cap_ Builtin.delete_ Builtin.clear_ convert binOp eqGuard Op.unary Calls
attribute [local irreducible] best ints en bd
set_option maxHeartbeats 8000000 in
set_option maxRecDepth 100000 in
theorem ints2A (l : Li) (hl : AllI l) (hs : l.length ≤ 512) : AFn Tryz.prog GC 28 [li l] 0 [] (Is (bs (ints l))) := by
  refine afn_of Tryz.func28 rfl mixed (by kernel_rfl) ?_
  conv => whnf
  refine vif_split (fun h => ?_) (fun h => ?_)
  · have e : l = [] := List.eq_nil_of_length_eq_zero (by simp at h; simp [h])
    subst e
    conv => whnf
    rw [ex2]
    exact aret [0] (by repeat' (first | rfl | trivial | apply And.intro))
  have hne : l ≠ [] := fun e => by subst e; simp at h
  conv => whnf
  (refine acallF [] (by kernel_rfl) (enc1A l hl hs) ?_ ?_; (focus (repeat' (first | rfl | trivial | apply And.intro))))
  rintro _ _ _ ⟨rfl, rfl, rfl⟩
  conv => whnf
  refine aloop ws28_1 0 [3, 4] (fun k : Nat => [(3, bs (best l (k - 2))), (4, iv k)]) (fun _ => []) (fun k => 2 ≤ k ∧ k ≤ 6) (fun k => 6 - k) [] [] 2 (by kernel_rfl) (fun _ => rfl) rfl ⟨Nat.le_refl _, by decide⟩ trivial ⟨⟨rfl, by rw [best_zero]⟩, rfl, trivial⟩ ?_
  rintro k ⟨hk1, hk2⟩
  have hc : k = 2 ∨ k = 3 ∨ k = 4 ∨ k = 5 ∨ k = 6 := by omega
  rcases hc with rfl | rfl | rfl | rfl | rfl
  · conv => whnf
    (refine acallF [] (by kernel_rfl) (enc2A l hl hs) ?_ ?_; (focus (repeat' (first | rfl | trivial | apply And.intro))))
    rintro _ _ _ ⟨rfl, rfl, rfl⟩
    conv => whnf
    refine vif_split (fun h => ?_) (fun h => ?_)
    · conv => whnf
      refine AAr.i64 (by decide) ?_
      conv => whnf
      refine aback (0 + 3) [] [] rfl (by decide) ⟨by decide, by decide⟩ trivial ⟨⟨rfl, ?_⟩, rfl, trivial⟩
      show _ = (best l (0 + 1)).map enB
      rw [best_lt 0 (by simp only [List.length_map, decide_eq_true_eq, decide_eq_false_iff_not] at h; have h3 : ((en (0 + 2) l).length : Int) < ((best l 0).length : Int) := h; omega)]
    · conv => whnf
      refine AAr.i64 (by decide) ?_
      conv => whnf
      refine aback (0 + 3) [] [] rfl (by decide) ⟨by decide, by decide⟩ trivial ⟨⟨rfl, ?_⟩, rfl, trivial⟩
      show _ = (best l (0 + 1)).map enB
      rw [best_ge 0 (by simp only [List.length_map, decide_eq_true_eq, decide_eq_false_iff_not] at h; have h3 : ¬ ((en (0 + 2) l).length : Int) < ((best l 0).length : Int) := h; omega)]
  · conv => whnf
    (refine acallF [] (by kernel_rfl) (enc3A l hl hne hs) ?_ ?_; (focus (repeat' (first | rfl | trivial | apply And.intro))))
    rintro _ _ _ ⟨rfl, rfl, rfl⟩
    conv => whnf
    refine vif_split (fun h => ?_) (fun h => ?_)
    · conv => whnf
      refine AAr.i64 (by decide) ?_
      conv => whnf
      refine aback (1 + 3) [] [] rfl (by decide) ⟨by decide, by decide⟩ trivial ⟨⟨rfl, ?_⟩, rfl, trivial⟩
      show _ = (best l (1 + 1)).map enB
      rw [best_lt 1 (by simp only [List.length_map, decide_eq_true_eq, decide_eq_false_iff_not] at h; have h3 : ((en (1 + 2) l).length : Int) < ((best l 1).length : Int) := h; omega)]
    · conv => whnf
      refine AAr.i64 (by decide) ?_
      conv => whnf
      refine aback (1 + 3) [] [] rfl (by decide) ⟨by decide, by decide⟩ trivial ⟨⟨rfl, ?_⟩, rfl, trivial⟩
      show _ = (best l (1 + 1)).map enB
      rw [best_ge 1 (by simp only [List.length_map, decide_eq_true_eq, decide_eq_false_iff_not] at h; have h3 : ¬ ((en (1 + 2) l).length : Int) < ((best l 1).length : Int) := h; omega)]
  · conv => whnf
    (refine acallF [] (by kernel_rfl) (enc4A l hl hs) ?_ ?_; (focus (repeat' (first | rfl | trivial | apply And.intro))))
    rintro _ _ _ ⟨rfl, rfl, rfl⟩
    conv => whnf
    refine vif_split (fun h => ?_) (fun h => ?_)
    · conv => whnf
      refine AAr.i64 (by decide) ?_
      conv => whnf
      refine aback (2 + 3) [] [] rfl (by decide) ⟨by decide, by decide⟩ trivial ⟨⟨rfl, ?_⟩, rfl, trivial⟩
      show _ = (best l (2 + 1)).map enB
      rw [best_lt 2 (by simp only [List.length_map, decide_eq_true_eq, decide_eq_false_iff_not] at h; have h3 : ((en (2 + 2) l).length : Int) < ((best l 2).length : Int) := h; omega)]
    · conv => whnf
      refine AAr.i64 (by decide) ?_
      conv => whnf
      refine aback (2 + 3) [] [] rfl (by decide) ⟨by decide, by decide⟩ trivial ⟨⟨rfl, ?_⟩, rfl, trivial⟩
      show _ = (best l (2 + 1)).map enB
      rw [best_ge 2 (by simp only [List.length_map, decide_eq_true_eq, decide_eq_false_iff_not] at h; have h3 : ¬ ((en (2 + 2) l).length : Int) < ((best l 2).length : Int) := h; omega)]
  · conv => whnf
    (refine acallF [] (by kernel_rfl) (enc5A l hl hne hs) ?_ ?_; (focus (repeat' (first | rfl | trivial | apply And.intro))))
    rintro _ _ _ ⟨rfl, rfl, rfl⟩
    conv => whnf
    refine vif_split (fun h => ?_) (fun h => ?_)
    · conv => whnf
      refine AAr.i64 (by decide) ?_
      conv => whnf
      refine aback (3 + 3) [] [] rfl (by decide) ⟨by decide, by decide⟩ trivial ⟨⟨rfl, ?_⟩, rfl, trivial⟩
      show _ = (best l (3 + 1)).map enB
      rw [best_lt 3 (by simp only [List.length_map, decide_eq_true_eq, decide_eq_false_iff_not] at h; have h3 : ((en (3 + 2) l).length : Int) < ((best l 3).length : Int) := h; omega)]
    · conv => whnf
      refine AAr.i64 (by decide) ?_
      conv => whnf
      refine aback (3 + 3) [] [] rfl (by decide) ⟨by decide, by decide⟩ trivial ⟨⟨rfl, ?_⟩, rfl, trivial⟩
      show _ = (best l (3 + 1)).map enB
      rw [best_ge 3 (by simp only [List.length_map, decide_eq_true_eq, decide_eq_false_iff_not] at h; have h3 : ¬ ((en (3 + 2) l).length : Int) < ((best l 3).length : Int) := h; omega)]
  · conv => whnf
    rw [ints_eq hne]
    exact aret [] (by repeat' (first | rfl | trivial | apply And.intro))
end Go.Proofs.YtmhpfadbmpipkaaGreat.Cl
