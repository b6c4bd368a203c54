/- Events, and the walks of both Check. Condition: the library's table of spaces (GS); sizes. The walks of both limits, of Clone and of column's columns. Condition: sizes. -/
import Derived.Test.YtmhpfadbmpipkaaGreatDoorRg6
import Derived.Test.YtmhpfadbmpipkaaGreatDoorKg
import Derived.Test.YtmhpfadbmpipkaaGreatDoorCt2
set_option linter.unusedVariables false
set_option linter.unusedSimpArgs false
namespace Go.Proofs.YtmhpfadbmpipkaaGreatDoor.Cl
open Go Go.RowKit Go.Proofs Go.Proofs.YtmhpfadbmpipkaaGreatDoor.Vc Go.Proofs.YtmhpfadbmpipkaaGreatDoor.Ax Go.Proofs.YtmhpfadbmpipkaaGreatDoor.Ky
attribute [local irreducible] loadVar storeVar Instr.indexAt Instr.index Instr.sliceAt Instr.makeSlice Instr.lookup Instr.mapUpdate Instr.range Instr.next Instr.entry Instr.makeMap Builtin.append_ Builtin.copy_ Builtin.len_ Builtin.min_ Builtin.max_ Builtin.cap_ Builtin.delete_ Builtin.clear_ convert binOp eqGuard Op.unary Calls
structure Ev where
  client : By
  seq : Int
  kind : Int
  time : Int
  id : By
  name : By
  other : By
  ver : Int
  arm : Int
  val : Int
abbrev sF (s : By) : FV := .v (.string ⟨s.toArray⟩)
abbrev iF (n : Int) : FV := .v (.int .i64 n)
def enE (e : Ev) : List FV := [sF e.client, iF e.seq, iF e.kind, iF e.time, sF e.id, sF e.name, sF e.other, iF e.ver, iF e.arm, iF e.val]
def evA (e : Ev) : AV := .agg ((enE e).map FV.up)
abbrev el (l : List Ev) : AV := .lst 10 (l.map enE)
/-- any event: numbers are numbers of 64 bits, texts are no longer than a memory -/
structure Ev.ok (e : Ev) : Prop where
  seq : I64 e.seq
  kind : I64 e.kind
  time : I64 e.time
  ver : I64 e.ver
  arm : I64 e.arm
  val : I64 e.val
  client : e.client.length ≤ 1000000
  id : e.id.length ≤ 1000000
  name : e.name.length ≤ 1000000
  other : e.other.length ≤ 1000000
def kyB (s : By) : Bool := keyB ⟨s.toArray⟩
/-- the first error of an event -/
def evC (e : Ev) : Int :=
  if ¬ (e.kind = 1 ∨ e.kind = 2 ∨ e.kind = 3) then 7
  else if kyB e.client = false ∨ kyB e.id = false ∨ (e.kind ≠ 3 ∧ kyB e.name = false) ∨ (e.kind = 3 ∧ kyB e.other = false) then 6
  else if e.seq < 1 ∨ 1073741824 < e.seq ∨ e.time < 0 ∨ 1099511627776 < e.time then 3
  else if e.kind = 1 ∧ (e.ver < 0 ∨ 1099511627776 < e.ver ∨ e.arm < 1 ∨ 8 < e.arm) then 3
  else if e.kind = 2 ∧ (e.val < -1099511627776 ∨ 1099511627776 < e.val) then 3
  else if (e.kind = 1 ∧ (e.other ≠ [] ∨ e.val ≠ 0)) ∨ (e.kind = 2 ∧ (e.other ≠ [] ∨ e.ver ≠ 0 ∨ e.arm ≠ 0)) ∨ (e.kind = 3 ∧ (e.name ≠ [] ∨ e.ver ≠ 0 ∨ e.arm ≠ 0 ∨ e.val ≠ 0 ∨ e.other = e.id)) then 15
  else 0
theorem sEq_tx (a b : By) : sEq ⟨a.toArray⟩ ⟨b.toArray⟩ = decide (a = b) := by
  rw [sEqD]
  by_cases h : a = b
  · subst h; simp
  · rw [decide_eq_false h]
    refine decide_eq_false fun e => h ?_
    injection e with e
    simpa using congrArg Array.toList e
set_option maxHeartbeats 4000000 in
set_option maxRecDepth 100000 in
theorem withinA (n a b : Int) : AFn Tryz.prog GS 52 [iv n, iv a, iv b] 0 [] (Is (bv (decide (a ≤ n) && decide (n ≤ b)))) := by
  refine afn_of Tryz.func52 rfl mixed (by kernel_rfl) ?_
  conv => whnf
  repeat' (refine vif_split (fun h => ?_) (fun h => ?_) <;> (conv => whnf))
  all_goals (refine aret [] (congrArg Value.bool ?_))
  all_goals (simp_all; try omega)
set_option maxHeartbeats 8000000 in
set_option maxRecDepth 100000 in
theorem check1K (k : Int) (client : By) (seq time : Int) (id name other : By) (ver arm val : Int) (z1 : client.length ≤ 1000000) (z2 : id.length ≤ 1000000) (z3 : name.length ≤ 1000000) (z4 : other.length ≤ 1000000) : AFn Tryz.prog GS 19 [.agg [tv client, iv seq, iv k, iv time, tv id, tv name, tv other, iv ver, iv arm, iv val]] 0 [] (Is (.v (.int .i64 (evC ⟨client, seq, k, time, id, name, other, ver, arm, val⟩)))) := by
  have k1 := keyG1 ⟨client.toArray⟩ (by show client.length ≤ _; omega)
  have k2 := keyG1 ⟨id.toArray⟩ (by show id.length ≤ _; omega)
  have k3 := keyG1 ⟨name.toArray⟩ (by show name.length ≤ _; omega)
  have k4 := keyG1 ⟨other.toArray⟩ (by show other.length ≤ _; omega)
  unfold evC kyB
  generalize keyB ⟨client.toArray⟩ = b1 at *
  generalize keyB ⟨id.toArray⟩ = b2 at *
  generalize keyB ⟨name.toArray⟩ = b3 at *
  generalize keyB ⟨other.toArray⟩ = b4 at *
  clear z1 z2 z3 z4
  by_cases c1 : k = 1
  · subst c1
    simp only [true_or, not_true, if_false, true_and, show ¬ (1 : Int) = 2 by decide, show ¬ (1 : Int) = 3 by decide, false_and, or_false, ne_eq, not_false_eq_true]
    refine afn_of Tryz.func19 rfl mixed (by kernel_rfl) ?_
    conv => whnf
    (refine adraw pln19 [] (by kernel_rfl) ?_; conv => whnf)
    repeat' (first
      | ((refine acall [] (by kernel_rfl) (k1) rfl ?_ ?_; (focus ((repeat' (first | rfl | trivial | apply And.intro)); done)); (conv => whnf)))
      | ((refine acall [] (by kernel_rfl) (k2) rfl ?_ ?_; (focus ((repeat' (first | rfl | trivial | apply And.intro)); done)); (conv => whnf)))
      | ((refine acall [] (by kernel_rfl) (k3) rfl ?_ ?_; (focus ((repeat' (first | rfl | trivial | apply And.intro)); done)); (conv => whnf)))
      | ((refine acall [] (by kernel_rfl) (k4) rfl ?_ ?_; (focus ((repeat' (first | rfl | trivial | apply And.intro)); done)); (conv => whnf)))
      | ((refine acall [] (by kernel_rfl) (withinA seq 1 1073741824) rfl ?_ ?_; (focus ((repeat' (first | rfl | trivial | apply And.intro)); done)); (conv => whnf)))
      | ((refine acall [] (by kernel_rfl) (withinA time 0 1099511627776) rfl ?_ ?_; (focus ((repeat' (first | rfl | trivial | apply And.intro)); done)); (conv => whnf)))
      | ((refine acall [] (by kernel_rfl) (withinA ver 0 1099511627776) rfl ?_ ?_; (focus ((repeat' (first | rfl | trivial | apply And.intro)); done)); (conv => whnf)))
      | ((refine acall [] (by kernel_rfl) (withinA arm 1 8) rfl ?_ ?_; (focus ((repeat' (first | rfl | trivial | apply And.intro)); done)); (conv => whnf)))
      | ((refine acall [] (by kernel_rfl) (withinA val (-1099511627776) 1099511627776) rfl ?_ ?_; (focus ((repeat' (first | rfl | trivial | apply And.intro)); done)); (conv => whnf)))
      | (refine vif_split (fun h => ?_) (fun h => ?_) <;> (first | (exfalso; simp only [*, Bool.not_true, Bool.not_false, Bool.false_eq_true, Bool.true_eq_false, reduceCtorEq] at *; done) | (conv => whnf))))
    all_goals (refine aret [] (congrArg (Value.int .i64) ?_))
    all_goals (simp only [cond_true, cond_false, sEq_tx, Bool.not_eq_true', Bool.not_eq_false', decide_eq_true_eq, decide_eq_false_iff_not, beq_iff_eq, bne_iff_ne, beq_eq_false_iff_ne, bne_eq_false_iff_eq, ne_eq, Bool.not_eq_eq_eq_not, Bool.not_true, Bool.not_false, Decidable.not_not, gt_iff_lt, Int.not_lt] at *)
    all_goals (clear k1 k2 k3 k4)
    all_goals first
      | (simp_all; done)
      | (simp_all; omega)
      | ((repeat' split) <;> first | rfl | (exfalso; simp_all; done) | (exfalso; simp_all; omega))
  by_cases c2 : k = 2
  · subst c2
    simp only [true_or, or_true, not_true, if_false, true_and, show ¬ (2 : Int) = 1 by decide, show ¬ (2 : Int) = 3 by decide, false_and, or_false, false_or, ne_eq, not_false_eq_true]
    refine afn_of Tryz.func19 rfl mixed (by kernel_rfl) ?_
    conv => whnf
    (refine adraw pln19 [] (by kernel_rfl) ?_; conv => whnf)
    repeat' (first
      | ((refine acall [] (by kernel_rfl) (k1) rfl ?_ ?_; (focus ((repeat' (first | rfl | trivial | apply And.intro)); done)); (conv => whnf)))
      | ((refine acall [] (by kernel_rfl) (k2) rfl ?_ ?_; (focus ((repeat' (first | rfl | trivial | apply And.intro)); done)); (conv => whnf)))
      | ((refine acall [] (by kernel_rfl) (k3) rfl ?_ ?_; (focus ((repeat' (first | rfl | trivial | apply And.intro)); done)); (conv => whnf)))
      | ((refine acall [] (by kernel_rfl) (k4) rfl ?_ ?_; (focus ((repeat' (first | rfl | trivial | apply And.intro)); done)); (conv => whnf)))
      | ((refine acall [] (by kernel_rfl) (withinA seq 1 1073741824) rfl ?_ ?_; (focus ((repeat' (first | rfl | trivial | apply And.intro)); done)); (conv => whnf)))
      | ((refine acall [] (by kernel_rfl) (withinA time 0 1099511627776) rfl ?_ ?_; (focus ((repeat' (first | rfl | trivial | apply And.intro)); done)); (conv => whnf)))
      | ((refine acall [] (by kernel_rfl) (withinA ver 0 1099511627776) rfl ?_ ?_; (focus ((repeat' (first | rfl | trivial | apply And.intro)); done)); (conv => whnf)))
      | ((refine acall [] (by kernel_rfl) (withinA arm 1 8) rfl ?_ ?_; (focus ((repeat' (first | rfl | trivial | apply And.intro)); done)); (conv => whnf)))
      | ((refine acall [] (by kernel_rfl) (withinA val (-1099511627776) 1099511627776) rfl ?_ ?_; (focus ((repeat' (first | rfl | trivial | apply And.intro)); done)); (conv => whnf)))
      | (refine vif_split (fun h => ?_) (fun h => ?_) <;> (first | (exfalso; simp only [*, Bool.not_true, Bool.not_false, Bool.false_eq_true, Bool.true_eq_false, reduceCtorEq] at *; done) | (conv => whnf))))
    all_goals (refine aret [] (congrArg (Value.int .i64) ?_))
    all_goals (simp only [cond_true, cond_false, sEq_tx, Bool.not_eq_true', Bool.not_eq_false', decide_eq_true_eq, decide_eq_false_iff_not, beq_iff_eq, bne_iff_ne, beq_eq_false_iff_ne, bne_eq_false_iff_eq, ne_eq, Bool.not_eq_eq_eq_not, Bool.not_true, Bool.not_false, Decidable.not_not, gt_iff_lt, Int.not_lt] at *)
    all_goals (clear k1 k2 k3 k4)
    all_goals first
      | (simp_all; done)
      | (simp_all; omega)
      | ((repeat' split) <;> first | rfl | (exfalso; simp_all; done) | (exfalso; simp_all; omega))
  by_cases c3 : k = 3
  · subst c3
    simp only [or_true, not_true, if_false, true_and, show ¬ (3 : Int) = 1 by decide, show ¬ (3 : Int) = 2 by decide, false_and, false_or, ne_eq]
    refine afn_of Tryz.func19 rfl mixed (by kernel_rfl) ?_
    conv => whnf
    (refine adraw pln19 [] (by kernel_rfl) ?_; conv => whnf)
    repeat' (first
      | ((refine acall [] (by kernel_rfl) (k1) rfl ?_ ?_; (focus ((repeat' (first | rfl | trivial | apply And.intro)); done)); (conv => whnf)))
      | ((refine acall [] (by kernel_rfl) (k2) rfl ?_ ?_; (focus ((repeat' (first | rfl | trivial | apply And.intro)); done)); (conv => whnf)))
      | ((refine acall [] (by kernel_rfl) (k3) rfl ?_ ?_; (focus ((repeat' (first | rfl | trivial | apply And.intro)); done)); (conv => whnf)))
      | ((refine acall [] (by kernel_rfl) (k4) rfl ?_ ?_; (focus ((repeat' (first | rfl | trivial | apply And.intro)); done)); (conv => whnf)))
      | ((refine acall [] (by kernel_rfl) (withinA seq 1 1073741824) rfl ?_ ?_; (focus ((repeat' (first | rfl | trivial | apply And.intro)); done)); (conv => whnf)))
      | ((refine acall [] (by kernel_rfl) (withinA time 0 1099511627776) rfl ?_ ?_; (focus ((repeat' (first | rfl | trivial | apply And.intro)); done)); (conv => whnf)))
      | ((refine acall [] (by kernel_rfl) (withinA ver 0 1099511627776) rfl ?_ ?_; (focus ((repeat' (first | rfl | trivial | apply And.intro)); done)); (conv => whnf)))
      | ((refine acall [] (by kernel_rfl) (withinA arm 1 8) rfl ?_ ?_; (focus ((repeat' (first | rfl | trivial | apply And.intro)); done)); (conv => whnf)))
      | ((refine acall [] (by kernel_rfl) (withinA val (-1099511627776) 1099511627776) rfl ?_ ?_; (focus ((repeat' (first | rfl | trivial | apply And.intro)); done)); (conv => whnf)))
      | (refine vif_split (fun h => ?_) (fun h => ?_) <;> (first | (exfalso; simp only [*, Bool.not_true, Bool.not_false, Bool.false_eq_true, Bool.true_eq_false, reduceCtorEq] at *; done) | (conv => whnf))))
    all_goals (refine aret [] (congrArg (Value.int .i64) ?_))
    all_goals (simp only [cond_true, cond_false, sEq_tx, Bool.not_eq_true', Bool.not_eq_false', decide_eq_true_eq, decide_eq_false_iff_not, beq_iff_eq, bne_iff_ne, beq_eq_false_iff_ne, bne_eq_false_iff_eq, ne_eq, Bool.not_eq_eq_eq_not, Bool.not_true, Bool.not_false, Decidable.not_not, gt_iff_lt, Int.not_lt] at *)
    all_goals (clear k1 k2 k3 k4)
    all_goals first
      | (simp_all; done)
      | (simp_all; omega)
      | ((repeat' split) <;> first | rfl | (exfalso; simp_all; done) | (exfalso; simp_all; omega))
  have q1 : (k == 1) = false := by simpa using c1
  have q2 : (k == 2) = false := by simpa using c2
  have q3 : (k == 3) = false := by simpa using c3
  refine afn_of Tryz.func19 rfl mixed (by kernel_rfl) ?_
  conv => whnf
  (refine adraw pln19 [] (by kernel_rfl) ?_; conv => whnf)
  rw [q1]
  conv => whnf
  rw [q2]
  conv => whnf
  rw [q3]
  conv => whnf
  exact aret [] (congrArg (Value.int .i64) (by simp [c1, c2, c3]))
set_option maxHeartbeats 8000000 in
set_option maxRecDepth 100000 in
theorem check2K (k : Int) (client : By) (seq time : Int) (id name other : By) (ver arm val : Int) (z1 : client.length ≤ 1000000) (z2 : id.length ≤ 1000000) (z3 : name.length ≤ 1000000) (z4 : other.length ≤ 1000000) : AFn Tryz.prog GS 23 [.agg [tv client, iv seq, iv k, iv time, tv id, tv name, tv other, iv ver, iv arm, iv val]] 0 [] (Is (.v (.int .i64 (evC ⟨client, seq, k, time, id, name, other, ver, arm, val⟩)))) := by
  have k1 := keyG2 ⟨client.toArray⟩ (by show client.length ≤ _; omega)
  have k2 := keyG2 ⟨id.toArray⟩ (by show id.length ≤ _; omega)
  have k3 := keyG2 ⟨name.toArray⟩ (by show name.length ≤ _; omega)
  have k4 := keyG2 ⟨other.toArray⟩ (by show other.length ≤ _; omega)
  unfold evC kyB
  generalize keyB ⟨client.toArray⟩ = b1 at *
  generalize keyB ⟨id.toArray⟩ = b2 at *
  generalize keyB ⟨name.toArray⟩ = b3 at *
  generalize keyB ⟨other.toArray⟩ = b4 at *
  clear z1 z2 z3 z4
  by_cases c1 : k = 1
  · subst c1
    simp only [true_or, not_true, if_false, true_and, show ¬ (1 : Int) = 2 by decide, show ¬ (1 : Int) = 3 by decide, false_and, or_false, ne_eq, not_false_eq_true]
    refine afn_of Tryz.func23 rfl mixed (by kernel_rfl) ?_
    conv => whnf
    (refine adraw pln23 [] (by kernel_rfl) ?_; conv => whnf)
    repeat' (first
      | ((refine acall [] (by kernel_rfl) (k1) rfl ?_ ?_; (focus ((repeat' (first | rfl | trivial | apply And.intro)); done)); (conv => whnf)))
      | ((refine acall [] (by kernel_rfl) (k2) rfl ?_ ?_; (focus ((repeat' (first | rfl | trivial | apply And.intro)); done)); (conv => whnf)))
      | ((refine acall [] (by kernel_rfl) (k3) rfl ?_ ?_; (focus ((repeat' (first | rfl | trivial | apply And.intro)); done)); (conv => whnf)))
      | ((refine acall [] (by kernel_rfl) (k4) rfl ?_ ?_; (focus ((repeat' (first | rfl | trivial | apply And.intro)); done)); (conv => whnf)))
      | ((refine acall [] (by kernel_rfl) (withinA seq 1 1073741824) rfl ?_ ?_; (focus ((repeat' (first | rfl | trivial | apply And.intro)); done)); (conv => whnf)))
      | ((refine acall [] (by kernel_rfl) (withinA time 0 1099511627776) rfl ?_ ?_; (focus ((repeat' (first | rfl | trivial | apply And.intro)); done)); (conv => whnf)))
      | ((refine acall [] (by kernel_rfl) (withinA ver 0 1099511627776) rfl ?_ ?_; (focus ((repeat' (first | rfl | trivial | apply And.intro)); done)); (conv => whnf)))
      | ((refine acall [] (by kernel_rfl) (withinA arm 1 8) rfl ?_ ?_; (focus ((repeat' (first | rfl | trivial | apply And.intro)); done)); (conv => whnf)))
      | ((refine acall [] (by kernel_rfl) (withinA val (-1099511627776) 1099511627776) rfl ?_ ?_; (focus ((repeat' (first | rfl | trivial | apply And.intro)); done)); (conv => whnf)))
      | (refine vif_split (fun h => ?_) (fun h => ?_) <;> (first | (exfalso; simp only [*, Bool.not_true, Bool.not_false, Bool.false_eq_true, Bool.true_eq_false, reduceCtorEq] at *; done) | (conv => whnf))))
    all_goals (refine aret [] (congrArg (Value.int .i64) ?_))
    all_goals (simp only [cond_true, cond_false, sEq_tx, Bool.not_eq_true', Bool.not_eq_false', decide_eq_true_eq, decide_eq_false_iff_not, beq_iff_eq, bne_iff_ne, beq_eq_false_iff_ne, bne_eq_false_iff_eq, ne_eq, Bool.not_eq_eq_eq_not, Bool.not_true, Bool.not_false, Decidable.not_not, gt_iff_lt, Int.not_lt] at *)
    all_goals (clear k1 k2 k3 k4)
    all_goals first
      | (simp_all; done)
      | (simp_all; omega)
      | ((repeat' split) <;> first | rfl | (exfalso; simp_all; done) | (exfalso; simp_all; omega))
  by_cases c2 : k = 2
  · subst c2
    simp only [true_or, or_true, not_true, if_false, true_and, show ¬ (2 : Int) = 1 by decide, show ¬ (2 : Int) = 3 by decide, false_and, or_false, false_or, ne_eq, not_false_eq_true]
    refine afn_of Tryz.func23 rfl mixed (by kernel_rfl) ?_
    conv => whnf
    (refine adraw pln23 [] (by kernel_rfl) ?_; conv => whnf)
    repeat' (first
      | ((refine acall [] (by kernel_rfl) (k1) rfl ?_ ?_; (focus ((repeat' (first | rfl | trivial | apply And.intro)); done)); (conv => whnf)))
      | ((refine acall [] (by kernel_rfl) (k2) rfl ?_ ?_; (focus ((repeat' (first | rfl | trivial | apply And.intro)); done)); (conv => whnf)))
      | ((refine acall [] (by kernel_rfl) (k3) rfl ?_ ?_; (focus ((repeat' (first | rfl | trivial | apply And.intro)); done)); (conv => whnf)))
      | ((refine acall [] (by kernel_rfl) (k4) rfl ?_ ?_; (focus ((repeat' (first | rfl | trivial | apply And.intro)); done)); (conv => whnf)))
      | ((refine acall [] (by kernel_rfl) (withinA seq 1 1073741824) rfl ?_ ?_; (focus ((repeat' (first | rfl | trivial | apply And.intro)); done)); (conv => whnf)))
      | ((refine acall [] (by kernel_rfl) (withinA time 0 1099511627776) rfl ?_ ?_; (focus ((repeat' (first | rfl | trivial | apply And.intro)); done)); (conv => whnf)))
      | ((refine acall [] (by kernel_rfl) (withinA ver 0 1099511627776) rfl ?_ ?_; (focus ((repeat' (first | rfl | trivial | apply And.intro)); done)); (conv => whnf)))
      | ((refine acall [] (by kernel_rfl) (withinA arm 1 8) rfl ?_ ?_; (focus ((repeat' (first | rfl | trivial | apply And.intro)); done)); (conv => whnf)))
      | ((refine acall [] (by kernel_rfl) (withinA val (-1099511627776) 1099511627776) rfl ?_ ?_; (focus ((repeat' (first | rfl | trivial | apply And.intro)); done)); (conv => whnf)))
      | (refine vif_split (fun h => ?_) (fun h => ?_) <;> (first | (exfalso; simp only [*, Bool.not_true, Bool.not_false, Bool.false_eq_true, Bool.true_eq_false, reduceCtorEq] at *; done) | (conv => whnf))))
    all_goals (refine aret [] (congrArg (Value.int .i64) ?_))
    all_goals (simp only [cond_true, cond_false, sEq_tx, Bool.not_eq_true', Bool.not_eq_false', decide_eq_true_eq, decide_eq_false_iff_not, beq_iff_eq, bne_iff_ne, beq_eq_false_iff_ne, bne_eq_false_iff_eq, ne_eq, Bool.not_eq_eq_eq_not, Bool.not_true, Bool.not_false, Decidable.not_not, gt_iff_lt, Int.not_lt] at *)
    all_goals (clear k1 k2 k3 k4)
    all_goals first
      | (simp_all; done)
      | (simp_all; omega)
      | ((repeat' split) <;> first | rfl | (exfalso; simp_all; done) | (exfalso; simp_all; omega))
  by_cases c3 : k = 3
  · subst c3
    simp only [or_true, not_true, if_false, true_and, show ¬ (3 : Int) = 1 by decide, show ¬ (3 : Int) = 2 by decide, false_and, false_or, ne_eq]
    refine afn_of Tryz.func23 rfl mixed (by kernel_rfl) ?_
    conv => whnf
    (refine adraw pln23 [] (by kernel_rfl) ?_; conv => whnf)
    repeat' (first
      | ((refine acall [] (by kernel_rfl) (k1) rfl ?_ ?_; (focus ((repeat' (first | rfl | trivial | apply And.intro)); done)); (conv => whnf)))
      | ((refine acall [] (by kernel_rfl) (k2) rfl ?_ ?_; (focus ((repeat' (first | rfl | trivial | apply And.intro)); done)); (conv => whnf)))
      | ((refine acall [] (by kernel_rfl) (k3) rfl ?_ ?_; (focus ((repeat' (first | rfl | trivial | apply And.intro)); done)); (conv => whnf)))
      | ((refine acall [] (by kernel_rfl) (k4) rfl ?_ ?_; (focus ((repeat' (first | rfl | trivial | apply And.intro)); done)); (conv => whnf)))
      | ((refine acall [] (by kernel_rfl) (withinA seq 1 1073741824) rfl ?_ ?_; (focus ((repeat' (first | rfl | trivial | apply And.intro)); done)); (conv => whnf)))
      | ((refine acall [] (by kernel_rfl) (withinA time 0 1099511627776) rfl ?_ ?_; (focus ((repeat' (first | rfl | trivial | apply And.intro)); done)); (conv => whnf)))
      | ((refine acall [] (by kernel_rfl) (withinA ver 0 1099511627776) rfl ?_ ?_; (focus ((repeat' (first | rfl | trivial | apply And.intro)); done)); (conv => whnf)))
      | ((refine acall [] (by kernel_rfl) (withinA arm 1 8) rfl ?_ ?_; (focus ((repeat' (first | rfl | trivial | apply And.intro)); done)); (conv => whnf)))
      | ((refine acall [] (by kernel_rfl) (withinA val (-1099511627776) 1099511627776) rfl ?_ ?_; (focus ((repeat' (first | rfl | trivial | apply And.intro)); done)); (conv => whnf)))
      | (refine vif_split (fun h => ?_) (fun h => ?_) <;> (first | (exfalso; simp only [*, Bool.not_true, Bool.not_false, Bool.false_eq_true, Bool.true_eq_false, reduceCtorEq] at *; done) | (conv => whnf))))
    all_goals (refine aret [] (congrArg (Value.int .i64) ?_))
    all_goals (simp only [cond_true, cond_false, sEq_tx, Bool.not_eq_true', Bool.not_eq_false', decide_eq_true_eq, decide_eq_false_iff_not, beq_iff_eq, bne_iff_ne, beq_eq_false_iff_ne, bne_eq_false_iff_eq, ne_eq, Bool.not_eq_eq_eq_not, Bool.not_true, Bool.not_false, Decidable.not_not, gt_iff_lt, Int.not_lt] at *)
    all_goals (clear k1 k2 k3 k4)
    all_goals first
      | (simp_all; done)
      | (simp_all; omega)
      | ((repeat' split) <;> first | rfl | (exfalso; simp_all; done) | (exfalso; simp_all; omega))
  have q1 : (k == 1) = false := by simpa using c1
  have q2 : (k == 2) = false := by simpa using c2
  have q3 : (k == 3) = false := by simpa using c3
  refine afn_of Tryz.func23 rfl mixed (by kernel_rfl) ?_
  conv => whnf
  (refine adraw pln23 [] (by kernel_rfl) ?_; conv => whnf)
  rw [q1]
  conv => whnf
  rw [q2]
  conv => whnf
  rw [q3]
  conv => whnf
  exact aret [] (congrArg (Value.int .i64) (by simp [c1, c2, c3]))
theorem check1A (e : Ev) (he : e.ok) : AFn Tryz.prog GS 19 [evA e] 0 [] (Is (.v (.int .i64 (evC e)))) :=
  check1K e.kind e.client e.seq e.time e.id e.name e.other e.ver e.arm e.val he.client he.id he.name he.other
theorem check2A (e : Ev) (he : e.ok) : AFn Tryz.prog GS 23 [evA e] 0 [] (Is (.v (.int .i64 (evC e)))) :=
  check2K e.kind e.client e.seq e.time e.id e.name e.other e.ver e.arm e.val he.client he.id he.name he.other
end Go.Proofs.YtmhpfadbmpipkaaGreatDoor.Cl

namespace Go.Proofs.YtmhpfadbmpipkaaGreatDoor.Cl
open Go Go.RowKit Go.Proofs Go.Proofs.YtmhpfadbmpipkaaGreatDoor.Vc Go.Proofs.YtmhpfadbmpipkaaGreatDoor.Ax
attribute [local irreducible] loadVar storeVar Instr.indexAt Instr.index Instr.sliceAt Instr.makeSlice Instr.lookup Instr.mapUpdate Instr.range Instr.next Instr.entry Instr.makeMap Builtin.append_ Builtin.copy_ Builtin.len_ Builtin.min_ Builtin.max_ Builtin.cap_ Builtin.delete_ Builtin.clear_ convert binOp eqGuard Op.unary Calls
def loT (a : Int) (l : List Ev) : Int := l.foldl (fun a e => min a e.time) a
def hiT (a : Int) (l : List Ev) : Int := l.foldl (fun a e => max a e.time) a
def lims (l : List Ev) : Int × Int := match l with | [] => (0, 0) | e :: _ => (loT e.time l, hiT e.time l)
theorem loT_take {l : List Ev} {i : Nat} (a : Int) (h : i < l.length) : loT a (l.take (i + 1)) = min (loT a (l.take i)) l[i].time := by
  unfold loT; rw [List.take_succ_eq_append_getElem h, List.foldl_append]; rfl
theorem hiT_take {l : List Ev} {i : Nat} (a : Int) (h : i < l.length) : hiT a (l.take (i + 1)) = max (hiT a (l.take i)) l[i].time := by
  unfold hiT; rw [List.take_succ_eq_append_getElem h, List.foldl_append]; rfl
theorem loT_rng {l : List Ev} {a lo hi : Int} (h1 : lo ≤ a ∧ a ≤ hi) (h : ∀ e ∈ l, lo ≤ e.time ∧ e.time ≤ hi) : lo ≤ loT a l ∧ loT a l ≤ hi ∧ lo ≤ hiT a l ∧ hiT a l ≤ hi := by
  unfold loT hiT
  have : ∀ (l : List Ev) (a b : Int), (lo ≤ a ∧ a ≤ hi) → (lo ≤ b ∧ b ≤ hi) → (∀ e ∈ l, lo ≤ e.time ∧ e.time ≤ hi) → lo ≤ l.foldl (fun a e => min a e.time) a ∧ l.foldl (fun a e => min a e.time) a ≤ hi ∧ lo ≤ l.foldl (fun a e => max a e.time) b ∧ l.foldl (fun a e => max a e.time) b ≤ hi := by
    intro l
    induction l with
    | nil => intro a b h1 h2 _; exact ⟨h1.1, h1.2, h2.1, h2.2⟩
    | cons e r ih =>
      intro a b h1 h2 h
      have he := h e List.mem_cons_self
      simp only [List.foldl_cons]
      exact ih _ _ (by omega) (by omega) fun x hx => h x (List.mem_cons_of_mem _ hx)
  exact this l a a h1 h1 h
set_option maxHeartbeats 8000000 in
set_option maxRecDepth 100000 in
theorem limits1A (e : Ev) (r : List Ev) (hl : (e :: r).length ≤ 1000000) : AFn Tryz.prog GS 42 [el (e :: r)] 0 [] (Is (.tup [iv (loT e.time (e :: r)), iv (hiT e.time (e :: r))])) := by
  generalize hl0 : e :: r = l at *
  have h0 : l[0]? = some e := by rw [← hl0]; rfl
  have hpos : 0 < l.length := by rw [← hl0]; simp
  refine afn_of Tryz.func42 rfl mixed (by kernel_rfl) ?_
  conv => whnf
  (refine adraw pln42 [] (by kernel_rfl) ?_; conv => whnf)
  repeat' (first
    | (refine And.intro ?_ ?_ <;> (conv => whnf))
    | (refine AIn.mk' 0 rfl (by rw [List.length_map]; exact hpos) ?_; conv => whnf)
    | (refine ARd.mapAt h0 ?_; conv => whnf))
  refine aloop ws42_1 0 [4, 5, 18] (fun i : Nat => [(4, iv (loT e.time (l.take i))), (5, iv (hiT e.time (l.take i))), (18, iv i)]) (fun _ => []) (fun i => i ≤ l.length) (fun i => l.length - i) [] [] 0 (by kernel_rfl) (fun _ => rfl) rfl (Nat.zero_le _) trivial ⟨rfl, rfl, rfl, trivial⟩ ?_
  intro i hi
  conv => whnf
  refine vif_split (fun h => ?_) (fun h => ?_)
  · have hlt : i < l.length := by simp at h; omega
    conv => whnf
    refine AIn.mk' i rfl (by rw [List.length_map]; exact hlt) ?_
    conv => whnf
    refine ARd.mapAt (List.getElem?_eq_getElem hlt) ?_
    conv => whnf
    (refine adraw pln42 [] (by kernel_rfl) ?_; conv => whnf)
    refine AAr.i64 (by omega) ?_
    conv => whnf
    exact aback (i + 1) [] [] rfl (by show l.length - (i + 1) < l.length - i; omega) hlt trivial ⟨congrArg (Value.int .i64) (loT_take _ hlt).symm, congrArg (Value.int .i64) (hiT_take _ hlt).symm, rfl, trivial⟩
  · have hie : i = l.length := by simp at h; omega
    subst hie
    rw [List.take_length]
    conv => whnf
    exact aret [] (by repeat' (first | rfl | trivial | apply And.intro))
set_option maxHeartbeats 8000000 in
set_option maxRecDepth 100000 in
theorem limits2A (e : Ev) (r : List Ev) (hl : (e :: r).length ≤ 1000000) : AFn Tryz.prog GS 25 [el (e :: r)] 0 [] (Is (.tup [iv (loT e.time (e :: r)), iv (hiT e.time (e :: r))])) := by
  generalize hl0 : e :: r = l at *
  have h0 : l[0]? = some e := by rw [← hl0]; rfl
  have hpos : 0 < l.length := by rw [← hl0]; simp
  refine afn_of Tryz.func25 rfl mixed (by kernel_rfl) ?_
  conv => whnf
  (refine adraw pln25 [] (by kernel_rfl) ?_; conv => whnf)
  repeat' (first
    | (refine And.intro ?_ ?_ <;> (conv => whnf))
    | (refine AIn.mk' 0 rfl (by rw [List.length_map]; exact hpos) ?_; conv => whnf)
    | (refine ARd.mapAt h0 ?_; conv => whnf))
  refine aloop ws25_1 0 [4, 5, 6] (fun i : Nat => [(4, iv (loT e.time (l.take i))), (5, iv (hiT e.time (l.take i))), (6, iv i)]) (fun _ => []) (fun i => i ≤ l.length) (fun i => l.length - i) [] [] 0 (by kernel_rfl) (fun _ => rfl) rfl (Nat.zero_le _) trivial ⟨rfl, rfl, rfl, trivial⟩ ?_
  intro i hi
  conv => whnf
  refine vif_split (fun h => ?_) (fun h => ?_)
  · have hlt : i < l.length := by simp at h; omega
    conv => whnf
    (refine adraw pln25 [] (by kernel_rfl) ?_; conv => whnf)
    repeat' (first
      | (refine And.intro ?_ ?_ <;> (conv => whnf))
      | (refine AIn.mk' i rfl (by rw [List.length_map]; exact hlt) ?_; conv => whnf)
      | (refine ARd.mapAt (List.getElem?_eq_getElem hlt) ?_; conv => whnf))
    refine AAr.i64 (by omega) ?_
    conv => whnf
    exact aback (i + 1) [] [] rfl (by show l.length - (i + 1) < l.length - i; omega) hlt trivial ⟨congrArg (Value.int .i64) (loT_take _ hlt).symm, congrArg (Value.int .i64) (hiT_take _ hlt).symm, rfl, trivial⟩
  · have hie : i = l.length := by simp at h; omega
    subst hie
    rw [List.take_length]
    conv => whnf
    exact aret [] (by repeat' (first | rfl | trivial | apply And.intro))
theorem app_e {n : Nat} (h : n ≤ 100000) : n * 112 ≤ 140737488355328 ∧ n ≤ maxLen := ⟨by omega, by unfold maxLen; omega⟩
set_option maxHeartbeats 4000000 in
set_option maxRecDepth 100000 in
theorem cloneEA (l : List Ev) (hl : l ≠ []) (hs : l.length ≤ 10000) : AFn Tryz.prog GS 48 [el l] 0 [] (Own1 38 10 (l.map enE)) := by
  have h0 : 0 < l.length := List.length_pos_iff.2 hl
  refine afn_of Tryz.func48 rfl mixed (by kernel_rfl) ?_
  conv => whnf
  refine ⟨fun b hb => ?_⟩
  rw [hb (by rw [List.length_map]; exact h0)]
  conv => whnf
  refine VReq.mk (app_e (by simp only [List.length_map, List.length_nil]; omega)) ?_
  conv => whnf
  exact aend (.own 0) 1 _ [(0, .lab 1)] [] ⟨rfl, rfl, rfl⟩ rfl (by repeat' (first | rfl | trivial | apply And.intro)) (by repeat' (first | rfl | trivial | apply And.intro))
abbrev fV (f : Nat) : FV := .v (.func (.func f) #[] #[])
set_option maxHeartbeats 4000000 in
set_option maxRecDepth 100000 in
theorem columnsA : AFn Tryz.prog GS 49 [] 0 [] (Own1 93 2 [[fV 73, .lst 1 [[fV 74], [fV 75], [fV 76]]],
    [fV 77, .v (.slice none 0 0)], [fV 78, .v (.slice none 0 0)], [fV 79, .lst 1 [[fV 80], [fV 81], [fV 82]]]]) := by
  refine afn_of Tryz.func49 rfl mixed (by kernel_rfl) ?_
  conv => whnf
  exact aend (.own 0) 1 _ [(0, .lab 2)] [] ⟨rfl, rfl, rfl⟩ rfl (by repeat' (first | rfl | trivial | apply And.intro)) (by repeat' (first | rfl | trivial | apply And.intro))
end Go.Proofs.YtmhpfadbmpipkaaGreatDoor.Cl
