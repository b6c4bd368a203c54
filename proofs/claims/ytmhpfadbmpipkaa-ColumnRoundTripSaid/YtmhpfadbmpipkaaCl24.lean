/- The walk of ColumnRoundTrip. Condition: none beside what the statement bounds. -/
import Derived.Test.YtmhpfadbmpipkaaCl23
import Derived.Test.YtmhpfadbmpipkaaCl13
set_option linter.unusedVariables false
set_option linter.unusedSimpArgs false
namespace Go.Proofs.Ytmhpfadbmpipkaa.Cl
open Go Go.RowKit Go.Proofs Go.Proofs.Ytmhpfadbmpipkaa.Vc Go.Proofs.Ytmhpfadbmpipkaa.Ax
attribute [local irreducible] loadVar storeVar Instr.indexAt Instr.index Instr.sliceAt Instr.makeSlice Instr.lookup Instr.mapUpdate Instr.range Instr.next Instr.entry Instr.makeMap Builtin.append_ Builtin.copy_ Builtin.len_ Builtin.min_ Builtin.max_ Builtin.cap_ Builtin.delete_ Builtin.clear_ convert binOp eqGuard Op.unary Calls
attribute [local irreducible] best ints en bd
set_option maxHeartbeats 16000000 in
set_option maxRecDepth 100000 in
theorem tripA (l m : Li) (kind : Nat) (more : By) (hl : AllI l) (hm : ∀ x ∈ m, I16 x) (hk : kind < 256) : AFn Try.prog GC 6 [li l, i16s m, u8v kind, bs more] 0 [] (Is (bv true)) := by
  have hI := intsA
  refine afn_of Try.func6 rfl mixed (by kernel_rfl) ?_
  conv => whnf
  (refine acall [] (by kernel_rfl) (awakeA) rfl ?_ ?_; (focus (repeat' (first | rfl | trivial | apply And.intro))))
  conv => whnf
  refine vif_split (fun h => ?_) (fun h => ?_)
  · conv => whnf
    exact aret [] (by repeat' (first | rfl | trivial | apply And.intro))
  have hll : l.length ≤ 200 := by simp at h; omega
  conv => whnf
  refine vif_split (fun h => ?_) (fun h => ?_)
  · conv => whnf
    exact aret [] (by repeat' (first | rfl | trivial | apply And.intro))
  have hml : more.length ≤ 200 := by simp at h; omega
  conv => whnf
  refine aloop ws6_1 0 [9] (fun i : Nat => [(9, iv i)]) (fun _ => []) (fun i => i ≤ 2) (fun i => 2 - i) [] [] 0 (by kernel_rfl) (fun _ => rfl) rfl (Nat.zero_le _) trivial ⟨rfl, trivial⟩ ?_
  rintro i hi
  have hc : i = 0 ∨ i = 1 ∨ i = 2 := by omega
  rcases hc with rfl | rfl | rfl
  · conv => whnf
    (refine acallF [] (by kernel_rfl) (dataA m kind hm hk) ?_ ?_; (focus (repeat' (first | rfl | trivial | apply And.intro))))
    rintro _ _ _ ⟨x, hx1, hx2, rfl, rfl, rfl⟩
    conv => whnf
    refine AIn.mk' 0 rfl (by show 0 < 2; decide) ?_
    conv => whnf
    refine ARd.at rfl ?_
    conv => whnf
    (refine acallF [] (by kernel_rfl) (hI l hl (by omega)) ?_ ?_; (focus (repeat' (first | rfl | trivial | apply And.intro))))
    rintro _ _ _ ⟨rfl, rfl, rfl⟩
    conv => whnf
    have hbl := ints_len l (by omega)
    refine VReq.mk (app_ok (by simp only [List.length_map, List.length_append, List.length_nil]; omega) (by kernel_rfl)) ?_
    conv => whnf
    refine VReq.mk (app_ok (by simp only [List.length_map, List.length_append, List.length_nil]; omega) (by kernel_rfl)) ?_
    conv => whnf
    have hR := readIntsA (ints l ++ more) (by rw [List.length_append]; omega)
    refine acallF [3] (by kernel_rfl) hR ⟨⟨rfl, rfl, by rw [List.map_append]; rfl⟩, trivial⟩ ?_
    rintro _ _ _ ⟨y, n, e, hy, rfl, rfl, rfl⟩
    obtain ⟨he, hyl⟩ := hy.2.2.2 l more hl (by omega) rfl
    have hyl := hyl.symm
    subst he
    subst hyl
    have hn : n = (ints l).length := by
      rcases hy.2.2.1 with ⟨_, h, _⟩ | ⟨h, _⟩
      · exact h
      · cases h
    subst hn
    have hS := sameI l l (by omega)
    rw [decide_eq_true rfl] at hS
    conv => whnf
    refine vif_split (fun h => ?_) (fun h => ?_)
    · exfalso; simp at h
    conv => whnf
    (refine acall [] (by kernel_rfl) (hS) rfl ?_ ?_; (focus (repeat' (first | rfl | trivial | apply And.intro))))
    conv => whnf
    refine AAr.to (y := 10 * ((l.length : Nat) : Int)) (by rw [List.length_map]; exact IntWalk.i64_in _ (by omega)) ?_
    conv => whnf
    refine AAr.i64 (by omega) ?_
    conv => whnf
    refine vif_split (fun h => ?_) (fun h => ?_)
    · exfalso; simp only [List.length_map, cond_false, decide_eq_true_eq] at h; omega
    conv => whnf
    refine AAr.i64 (by decide) ?_
    conv => whnf
    exact aback 1 [] [] rfl (by decide) (by decide) trivial ⟨rfl, trivial⟩
  · conv => whnf
    (refine acallF [] (by kernel_rfl) (dataA m kind hm hk) ?_ ?_; (focus (repeat' (first | rfl | trivial | apply And.intro))))
    rintro _ _ _ ⟨x, hx1, hx2, rfl, rfl, rfl⟩
    conv => whnf
    refine AIn.mk' 1 rfl (by show 1 < 2; decide) ?_
    conv => whnf
    refine ARd.at rfl ?_
    conv => whnf
    (refine acallF [] (by kernel_rfl) (hI x hx1 (by omega)) ?_ ?_; (focus (repeat' (first | rfl | trivial | apply And.intro))))
    rintro _ _ _ ⟨rfl, rfl, rfl⟩
    conv => whnf
    have hbl := ints_len x (by omega)
    refine VReq.mk (app_ok (by simp only [List.length_map, List.length_append, List.length_nil]; omega) (by kernel_rfl)) ?_
    conv => whnf
    refine VReq.mk (app_ok (by simp only [List.length_map, List.length_append, List.length_nil]; omega) (by kernel_rfl)) ?_
    conv => whnf
    have hR := readIntsA (ints x ++ more) (by rw [List.length_append]; omega)
    refine acallF [3] (by kernel_rfl) hR ⟨⟨rfl, rfl, by rw [List.map_append]; rfl⟩, trivial⟩ ?_
    rintro _ _ _ ⟨y, n, e, hy, rfl, rfl, rfl⟩
    obtain ⟨he, hyl⟩ := hy.2.2.2 x more hx1 (by omega) rfl
    have hyl := hyl.symm
    subst he
    subst hyl
    have hn : n = (ints x).length := by
      rcases hy.2.2.1 with ⟨_, h, _⟩ | ⟨h, _⟩
      · exact h
      · cases h
    subst hn
    have hS := sameI x x (by omega)
    rw [decide_eq_true rfl] at hS
    conv => whnf
    refine vif_split (fun h => ?_) (fun h => ?_)
    · exfalso; simp at h
    conv => whnf
    (refine acall [] (by kernel_rfl) (hS) rfl ?_ ?_; (focus (repeat' (first | rfl | trivial | apply And.intro))))
    conv => whnf
    refine AAr.to (y := 10 * ((x.length : Nat) : Int)) (by rw [List.length_map]; exact IntWalk.i64_in _ (by omega)) ?_
    conv => whnf
    refine AAr.i64 (by omega) ?_
    conv => whnf
    refine vif_split (fun h => ?_) (fun h => ?_)
    · exfalso; simp only [List.length_map, cond_false, decide_eq_true_eq] at h; omega
    conv => whnf
    refine AAr.i64 (by decide) ?_
    conv => whnf
    exact aback 2 [] [] rfl (by decide) (by decide) trivial ⟨rfl, trivial⟩
  · conv => whnf
    exact aret [] (by repeat' (first | rfl | trivial | apply And.intro))
end Go.Proofs.Ytmhpfadbmpipkaa.Cl
