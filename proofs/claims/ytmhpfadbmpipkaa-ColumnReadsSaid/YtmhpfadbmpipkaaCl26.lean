/- The walks of the reference's Count and begins, and what the heads of an encoding tell. Condition: sizes. -/
import Derived.Test.YtmhpfadbmpipkaaCl25
set_option linter.unusedVariables false
set_option linter.unusedSimpArgs false
namespace Go.Proofs.Ytmhpfadbmpipkaa.Cl
open Go Go.RowKit Go.Proofs Go.Proofs.Ytmhpfadbmpipkaa.Vc Go.Proofs.Ytmhpfadbmpipkaa.Ax
attribute [local irreducible] loadVar storeVar Instr.indexAt Instr.index Instr.sliceAt Instr.makeSlice Instr.lookup Instr.mapUpdate Instr.range Instr.next Instr.entry Instr.makeMap Builtin.append_ Builtin.copy_ Builtin.len_ Builtin.min_ Builtin.max_ Builtin.cap_ Builtin.delete_ Builtin.clear_ convert binOp eqGuard Op.unary Calls
set_option maxHeartbeats 8000000 in
set_option maxRecDepth 100000 in
theorem count2A (b : By) (j : Nat) (e most : Int) (hb : b.length ≤ 3000000) (hj : j ≤ b.length) (hmost : 0 ≤ most) : AFn Try.prog GC 45 [.ptr 0 0, iv most] 1 [(0, rd2 b j e)] (RdR2 (cnT (b.drop j) e most 5).1 b (j + (cnT (b.drop j) e most 5).2.1) (cnT (b.drop j) e most 5).2.2) := by
  have hN := number2A b j e hb hj
  have hz := (rnT_ok (b.drop j) e).2.2.2
  rw [cnT_def]
  generalize rnT (b.drop j) e = t at *
  obtain ⟨x, k, e'⟩ := t
  simp only at hN hz ⊢
  generalize j + k = j' at *
  by_cases he : e' = 0
  · subst he
    clear hz
    simp only [if_true]
    refine afn_of Try.func45 rfl mixed (by kernel_rfl) ?_
    conv => whnf
    refine acallM [0] [] (by kernel_rfl) hN rfl (by repeat' (first | rfl | trivial | apply And.intro)) (by repeat' (first | rfl | trivial | apply And.intro)) ?_
    rintro _ _ _ ⟨rfl, rfl, rfl⟩
    refine ⟨rfl, ?_⟩
    conv => whnf
    refine vif_split (fun h => ?_) (fun h => ?_)
    · have hx : x < 0 := by simpa using h
      conv => whnf
      refine acallM [0] [] (by kernel_rfl) (fail2A b j' 0 3) rfl (by repeat' (first | rfl | trivial | apply And.intro)) (by repeat' (first | rfl | trivial | apply And.intro)) ?_
      rintro _ _ _ ⟨rfl, rfl, rfl⟩
      refine ⟨rfl, ?_⟩
      conv => whnf
      exact aend (iv 0) 1 [(0, rd2 b j' 3)] [] [] (by rw [if_pos hx]; exact ⟨rfl, rfl, rfl⟩) rfl (by repeat' (first | rfl | trivial | apply And.intro)) (by repeat' (first | rfl | trivial | apply And.intro))
    have hx : ¬ x < 0 := by simpa using h
    conv => whnf
    refine vif_split (fun h => ?_) (fun h => ?_)
    · have hm : most < x := by simpa using h
      conv => whnf
      refine acallM [0] [] (by kernel_rfl) (fail2A b j' 0 5) rfl (by repeat' (first | rfl | trivial | apply And.intro)) (by repeat' (first | rfl | trivial | apply And.intro)) ?_
      rintro _ _ _ ⟨rfl, rfl, rfl⟩
      refine ⟨rfl, ?_⟩
      conv => whnf
      exact aend (iv 0) 1 [(0, rd2 b j' 5)] [] [] (by rw [if_neg hx, if_pos hm, if_neg (by decide)]; exact ⟨rfl, rfl, rfl⟩) rfl (by repeat' (first | rfl | trivial | apply And.intro)) (by repeat' (first | rfl | trivial | apply And.intro))
    have hm : ¬ most < x := by simpa using h
    conv => whnf
    exact aend (iv x) 1 [(0, rd2 b j' 0)] [] [] (by rw [if_neg hx, if_neg hm, if_pos rfl]; exact ⟨rfl, rfl, rfl⟩) rfl (by repeat' (first | rfl | trivial | apply And.intro)) (by repeat' (first | rfl | trivial | apply And.intro))
  · obtain ⟨rfl, rfl⟩ := hz he
    simp only [he, if_false]
    refine afn_of Try.func45 rfl mixed (by kernel_rfl) ?_
    conv => whnf
    refine acallM [0] [] (by kernel_rfl) hN rfl (by repeat' (first | rfl | trivial | apply And.intro)) (by repeat' (first | rfl | trivial | apply And.intro)) ?_
    rintro _ _ _ ⟨rfl, rfl, rfl⟩
    refine ⟨rfl, ?_⟩
    conv => whnf
    refine vif_split (fun h => ?_) (fun h => ?_)
    · exfalso; simp at h; exact he h
    conv => whnf
    refine vif_split (fun h => ?_) (fun h => ?_)
    · exfalso; simp at h; exact he h
    conv => whnf
    refine vif_split (fun h => ?_) (fun h => ?_)
    rotate_left 1
    · exfalso; simp at h; exact he h
    conv => whnf
    exact aend (iv 0) 1 [(0, rd2 b j' e')] [] [] ⟨rfl, rfl, rfl⟩ rfl (by repeat' (first | rfl | trivial | apply And.intro)) (by repeat' (first | rfl | trivial | apply And.intro))
set_option maxHeartbeats 4000000 in
set_option maxRecDepth 100000 in
theorem beginsA (b x : By) : AFn Try.prog GC 25 [bs b, bs x] 0 [] (Is (bv (decide (b.take x.length = x)))) := by
  refine afn_of Try.func25 rfl mixed (by kernel_rfl) ?_
  conv => whnf
  (refine adraw pln25 [] (by kernel_rfl) ?_; conv => whnf)
  refine vif_split (fun h => ?_) (fun h => ?_)
  · have hl : x.length ≤ b.length := by simp at h; omega
    conv => whnf
    repeat' (first
      | (refine ABd.mk' 0 x.length rfl (by rw [List.length_map]) (Nat.zero_le _) (by rw [List.length_map]; exact hl) ?_; rw [show cut none (some (AV.v (.int .i64 ((x.map enB).length : Nat)))) 0 x.length (b.map enB) = (b.take x.length).map enB from List.map_take.symm]; conv => whnf)
      | (refine ABy.of ?_; conv => whnf))
    refine aret [] (congrArg Value.bool ?_)
    exact sEq_by _ _
  · have hl : b.length < x.length := by simp at h; omega
    conv => whnf
    refine aret [] (congrArg Value.bool ?_)
    refine (decide_eq_false fun e => ?_).symm
    have := congrArg List.length e
    rw [List.length_take] at this
    omega
/-- what the heads tell -/
theorem gd_head2 (b : By) : Gd b fun l0 r => (cnT (b.drop (rnT b 0).2.1) (rnT b 0).2.2 512 5).2.2 = 0 ∧ ∃ k : Nat, 1 ≤ k ∧ k ≤ 5 ∧ (rnT b 0).1 = (k : Int) ∧ (cnT (b.drop (rnT b 0).2.1) (rnT b 0).2.2 512 5).1 = (l0.length : Int) ∧ b.drop ((rnT b 0).2.1 + (cnT (b.drop (rnT b 0).2.1) (rnT b 0).2.2 512 5).2.1) = bd k l0 ++ r := fun l0 r ha hl h => by
  have hform : ∃ k : Nat, 1 ≤ k ∧ k ≤ 5 ∧ ints l0 = num (k : Int) ++ (num (l0.length : Int) ++ bd k l0) := by
    by_cases h0 : l0 = []
    · subst h0; exact ⟨1, by omega, by omega, by decide⟩
    · obtain ⟨k, h1, h2, h3⟩ := ints_in h0
      exact ⟨k, h1, h2, by rw [h3]; unfold en; rw [List.append_assoc]⟩
  obtain ⟨k, k1, k2, he⟩ := hform
  have hb : b = num (k : Int) ++ (num (l0.length : Int) ++ (bd k l0 ++ r)) := by rw [h, he]; simp only [List.append_assoc]
  have r1 := rd1 (b := b) (e := 0) (z := num (l0.length : Int) ++ (bd k l0 ++ r)) (i64_nat (by omega : k ≤ 9223372036854775807)) rfl hb
  have r2 := rd1 (e := 0) (i64_nat (by omega : l0.length ≤ 9223372036854775807)) rfl (rfl : num (l0.length : Int) ++ (bd k l0 ++ r) = _)
  rw [← List.drop_drop, r1.1, r1.2.1, r1.2.2]
  rw [cnT_def]
  simp only
  rw [r2.1, r2.2.1, r2.2.2, if_pos rfl, if_neg (by omega), if_neg (by omega), if_pos rfl]
  exact ⟨rfl, k, k1, k2, rfl, rfl, rfl⟩
/-- what decode answers: a list, the error, and how many bytes are read -/
def DcA (b : By) (a : AV) (m : Nat) (H : AHeap) : Prop := ∃ (l : Li) (e : Int) (j : Nat), AllI l ∧ l.length ≤ 512 ∧ Gd b (fun l0 _ => e = 0 ∧ l = l0) ∧ a = li l ∧ m = 1 ∧ H = [(0, rd2 b j e)]
theorem cnT_le (b : By) (e most em : Int) : (cnT b e most em).2.1 ≤ b.length := (rnT_ok b e).2.1
theorem pr_bad {b0 : By} {n : Nat} {body : Li → By} {Q : Li → By → Prop} (h : Pr b0 n body fun _ _ => False) : Pr b0 n body Q := h.mono fun _ _ _ _ h => h.elim
end Go.Proofs.Ytmhpfadbmpipkaa.Cl
