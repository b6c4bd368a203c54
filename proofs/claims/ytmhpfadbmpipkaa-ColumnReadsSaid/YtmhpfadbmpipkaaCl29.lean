/- The walk of ColumnReads. Condition: none beside what the statement bounds. -/
import Derived.Test.YtmhpfadbmpipkaaCl28
set_option linter.unusedVariables false
set_option linter.unusedSimpArgs false
namespace Go.Proofs.Ytmhpfadbmpipkaa.Cl
open Go Go.RowKit Go.Proofs Go.Proofs.Ytmhpfadbmpipkaa.Vc Go.Proofs.Ytmhpfadbmpipkaa.Ax
attribute [local irreducible] loadVar storeVar Instr.indexAt Instr.index Instr.sliceAt Instr.makeSlice Instr.lookup Instr.mapUpdate Instr.range Instr.next Instr.entry Instr.makeMap Builtin.append_ Builtin.copy_ Builtin.len_ Builtin.min_ Builtin.max_ Builtin.cap_ Builtin.delete_ Builtin.clear_ convert binOp eqGuard Op.unary Calls
attribute [local irreducible] best ints en bd
set_option maxHeartbeats 16000000 in
set_option maxRecDepth 100000 in
theorem lawReadsA (b : By) (m : Li) (kind at_ how c : Nat) (hm : ∀ x ∈ m, I16 x) (hk : kind < 256) (hat : at_ < 65536) (hh : how < 65536) (hc : c < 256) : AFn Try.prog GC 5 [bs b, i16s m, u8v kind, u16v at_, u16v how, u8v c] 0 [] (Is (bv true)) := by
  refine afn_of Try.func5 rfl mixed (by kernel_rfl) ?_
  conv => whnf
  (refine acall [] (by kernel_rfl) (awakeA) rfl ?_ ?_; (focus (repeat' (first | rfl | trivial | apply And.intro))))
  conv => whnf
  refine vif_split (fun h => ?_) (fun h => ?_)
  · conv => whnf
    exact aret [] (by repeat' (first | rfl | trivial | apply And.intro))
  have hbl : b.length ≤ 1000 := by simp at h; omega
  conv => whnf
  (refine acallF [] (by kernel_rfl) (dataA m kind hm hk) ?_ ?_; (focus (repeat' (first | rfl | trivial | apply And.intro))))
  rintro _ _ _ ⟨x, hx1, hx2, rfl, rfl, rfl⟩
  conv => whnf
  (refine acallF [] (by kernel_rfl) (ints2A x hx1 (by omega)) ?_ ?_; (focus (repeat' (first | rfl | trivial | apply And.intro))))
  rintro _ _ _ ⟨rfl, rfl, rfl⟩
  conv => whnf
  have hil := ints_len x (by omega)
  (refine acallF [] (by kernel_rfl) (spoilA (ints x) at_ how c (by omega) hat hh hc) ?_ ?_; (focus (repeat' (first | rfl | trivial | apply And.intro))))
  rintro _ _ _ ⟨y, hy, rfl, rfl, rfl⟩
  have hyl : y.length ≤ 100000 := by omega
  conv => whnf
  refine aloop ws5_1 0 [14] (fun i : Nat => [(14, iv i)]) (fun _ => []) (fun i => i ≤ 2) (fun i => 2 - i) [] [] 0 (by kernel_rfl) (fun _ => rfl) rfl (Nat.zero_le _) trivial ⟨rfl, trivial⟩ ?_
  rintro i hi
  have hcs : i = 0 ∨ i = 1 ∨ i = 2 := by omega
  rcases hcs with rfl | rfl | rfl
  · conv => whnf
    refine AIn.mk' 0 rfl (by show 0 < 2; decide) ?_
    conv => whnf
    refine ARd.at rfl ?_
    conv => whnf
    (refine acallF [] (by kernel_rfl) (readIntsA b (by omega)) ?_ ?_; (focus (repeat' (first | rfl | trivial | apply And.intro))))
    rintro _ _ _ ⟨p, n, e, hp, rfl, rfl, rfl⟩
    conv => whnf
    (refine acallF [] (by kernel_rfl) (readInts2A b (by omega)) ?_ ?_; (focus (repeat' (first | rfl | trivial | apply And.intro))))
    rintro _ _ _ ⟨q, m', f, hq, rfl, rfl, rfl⟩
    obtain ⟨h1, h2, h3⟩ := hp.two b hq
    subst h1
    subst h2
    subst h3
    have hS := sameI p p (by have := hp.2.1; omega)
    rw [decide_eq_true rfl] at hS
    conv => whnf
    refine vif_split (fun h => ?_) (fun h => ?_)
    · exfalso; simp at h
    conv => whnf
    refine vif_split (fun h => ?_) (fun h => ?_)
    · exfalso; simp at h
    conv => whnf
    (refine acall [] (by kernel_rfl) (hS) rfl ?_ ?_; (focus (repeat' (first | rfl | trivial | apply And.intro))))
    conv => whnf
    refine AAr.i64 (by decide) ?_
    conv => whnf
    exact aback (0 + 1) [] [] rfl (by decide) (by decide) trivial ⟨rfl, trivial⟩
  · conv => whnf
    refine AIn.mk' 1 rfl (by show 1 < 2; decide) ?_
    conv => whnf
    refine ARd.at rfl ?_
    conv => whnf
    (refine acallF [] (by kernel_rfl) (readIntsA y (by omega)) ?_ ?_; (focus (repeat' (first | rfl | trivial | apply And.intro))))
    rintro _ _ _ ⟨p, n, e, hp, rfl, rfl, rfl⟩
    conv => whnf
    (refine acallF [] (by kernel_rfl) (readInts2A y (by omega)) ?_ ?_; (focus (repeat' (first | rfl | trivial | apply And.intro))))
    rintro _ _ _ ⟨q, m', f, hq, rfl, rfl, rfl⟩
    obtain ⟨h1, h2, h3⟩ := hp.two y hq
    subst h1
    subst h2
    subst h3
    have hS := sameI p p (by have := hp.2.1; omega)
    rw [decide_eq_true rfl] at hS
    conv => whnf
    refine vif_split (fun h => ?_) (fun h => ?_)
    · exfalso; simp at h
    conv => whnf
    refine vif_split (fun h => ?_) (fun h => ?_)
    · exfalso; simp at h
    conv => whnf
    (refine acall [] (by kernel_rfl) (hS) rfl ?_ ?_; (focus (repeat' (first | rfl | trivial | apply And.intro))))
    conv => whnf
    refine AAr.i64 (by decide) ?_
    conv => whnf
    exact aback (1 + 1) [] [] rfl (by decide) (by decide) trivial ⟨rfl, trivial⟩
  · conv => whnf
    exact aret [] (by repeat' (first | rfl | trivial | apply And.intro))
end Go.Proofs.Ytmhpfadbmpipkaa.Cl
