/- The walks of both metrics' Check. Condition: the library's table of spaces (GS); sizes. -/
import Derived.Test.YtmnjmdajgilhiaaDoorJo
import Derived.Test.YtmnjmdajgilhiaaDoorKg
set_option linter.unusedVariables false
set_option linter.unusedSimpArgs false
namespace Go.Proofs.YtmnjmdajgilhiaaDoor.Cl
open Go Go.RowKit Go.Proofs Go.Proofs.YtmnjmdajgilhiaaDoor.Vc Go.Proofs.YtmnjmdajgilhiaaDoor.Ax Go.Proofs.YtmnjmdajgilhiaaDoor.Ky Go.Proofs.YtmnjmdajgilhiaaDoor.Id
attribute [local irreducible] loadVar storeVar Instr.indexAt Instr.index Instr.sliceAt Instr.makeSlice Instr.lookup Instr.mapUpdate Instr.range Instr.next Instr.entry Instr.makeMap Builtin.append_ Builtin.copy_ Builtin.len_ Builtin.min_ Builtin.max_ Builtin.cap_ Builtin.delete_ Builtin.clear_ convert binOp eqGuard Op.unary Calls
def kyM (s : By) : Bool := keyB ⟨s.toArray⟩
/-- the first error of a metric -/
def mtC (m : Mt) : Int :=
  if ¬ (m.kind = 1 ∨ m.kind = 2 ∨ m.kind = 3 ∨ m.kind = 4) then 7
  else if kyM m.name = false ∨ (m.kind = 4 ∧ kyM m.below = false) then 6
  else if m.window < 1 ∨ 68719476736 < m.window ∨ m.cap < 1 ∨ 1048576 < m.cap ∨ m.least < -1099511627776 ∨ 1099511627776 < m.least ∨ m.before < 0 ∨ 68719476736 < m.before then 3
  else if (m.kind ≠ 4 ∧ m.below ≠ []) ∨ (m.kind = 3 ∧ m.cap ≠ 1) then 15
  else 0
def kdV (s : By) (f : Nat) : FV := .v (.agg #[.string ⟨s.toArray⟩, .func (.func f) #[] #[]])
def KM : Int → Option FV := fun k =>
  if k = 4 then some (kdV [114, 97, 116, 105, 111] 64) else
  if k = 3 then some (kdV [115, 104, 97, 114, 101] 65) else
  if k = 2 then some (kdV [99, 111, 117, 110, 116] 65) else
  if k = 1 then some (kdV [115, 117, 109] 64) else none
section
variable {G : Glob}
set_option maxRecDepth 100000 in
theorem kindsA : AFn Tryd.prog G 51 [] 0 [] (fun a n H => a = .mp 0 ∧ n = 1 ∧ H = [(0, .imap KM)]) := by
  refine afn_of Tryd.func51 rfl mixed (by kernel_rfl) ?_
  conv => whnf
  exact aend (.mp 0) 1 [(0, .imap KM)] [(0, .lab 0)] [] ⟨rfl, rfl, rfl⟩ rfl ⟨rfl, trivial⟩ (by repeat' (first | rfl | trivial | apply And.intro))
end
/-- the order in which the map of kinds is asked: what reads the map waits for the call that makes it -/
def plnChk : Plan := .take 1 (.take 2 (.two 0 (.two 3 (.take 4 (.take 5 (.take 6 (.one 7 (.one 8 (.take 9 .done)))))) 7 (.one 3 (.take 4 (.take 5 (.take 6 (.one 8 (.take 9 .done))))))) 7 (.one 0 (.one 3 (.take 4 (.take 5 (.take 6 (.one 8 (.take 9 .done)))))))))
theorem ALi.some {M : Int → Option FV} {k : Int} {z : Value} {K : AV → Bool → Prop} {x : FV} (h : M k = Option.some x) (c : K x.val true) : ALi M k z K := ⟨(fun e => by rw [h] at e; cases e), fun y e => by rw [h] at e; injection e with e; subst e; exact c⟩
theorem ALi.none {M : Int → Option FV} {k : Int} {z : Value} {K : AV → Bool → Prop} (h : M k = Option.none) (c : K (ofV z) false) : ALi M k z K := ⟨fun _ => c, fun y e => (by rw [h] at e; cases e)⟩
set_option maxHeartbeats 8000000 in
set_option maxRecDepth 100000 in
theorem mcheck1A (k : Int) (name below : By) (window cap least before : Int) (z1 : name.length ≤ 140737488355328) (z2 : below.length ≤ 140737488355328) : AFn Tryd.prog GS 37 [.agg [iv k, tv name, tv below, iv window, iv cap, iv least, iv before]] 0 [] (Is (.v (.int .i64 (mtC ⟨k, name, below, window, cap, least, before⟩)))) := by
  have k1 := keyG1 ⟨name.toArray⟩ (by show name.length ≤ _; omega)
  have k2 := keyG1 ⟨below.toArray⟩ (by show below.length ≤ _; omega)
  unfold mtC kyM
  generalize keyB ⟨name.toArray⟩ = b1 at *
  generalize keyB ⟨below.toArray⟩ = b2 at *
  clear z1 z2
  by_cases c1 : k = 1
  · subst c1
    simp only [true_or, not_true, if_false, show ¬ (1 : Int) = 4 by decide, show ¬ (1 : Int) = 3 by decide, false_and, or_false, ne_eq, not_false_eq_true, true_and]
    refine afn_of Tryd.func37 rfl mixed (by kernel_rfl) ?_
    conv => whnf
    refine adraw (fun _ => plnChk) [1, 2] (by kernel_rfl) ?_
    conv => whnf
    repeat' (first
      | (refine And.intro ?_ ?_ <;> (conv => whnf))
      | (refine acallF [] (by kernel_rfl) kindsA ?_ ?_; (focus (repeat' (first | rfl | trivial | apply And.intro); done)); rintro _ _ _ ⟨rfl, rfl, rfl⟩; (conv => whnf))
      | (refine ALi.some (x := kdV [115, 117, 109] 64) rfl ?_; conv => whnf)
      | ((refine acall [] (by kernel_rfl) (k1) rfl ?_ ?_; (focus ((repeat' (first | rfl | trivial | apply And.intro)); done)); (conv => whnf)))
      | ((refine acall [] (by kernel_rfl) (k2) rfl ?_ ?_; (focus ((repeat' (first | rfl | trivial | apply And.intro)); done)); (conv => whnf)))
      | (refine vif_split (fun h => ?_) (fun h => ?_) <;> (first | (exfalso; simp only [*, Bool.not_true, Bool.not_false, Bool.false_eq_true, Bool.true_eq_false, reduceCtorEq] at *; done) | (conv => whnf))))
    all_goals (refine aret [] (congrArg (Value.int .i64) ?_))
    all_goals (simp only [cond_true, cond_false, sEq_tx, Bool.not_eq_true', Bool.not_eq_false', decide_eq_true_eq, decide_eq_false_iff_not, beq_iff_eq, bne_iff_ne, beq_eq_false_iff_ne, bne_eq_false_iff_eq, ne_eq, Bool.not_eq_eq_eq_not, Bool.not_true, Bool.not_false, Decidable.not_not, gt_iff_lt, Int.not_lt] at *)
    all_goals (clear k1 k2)
    all_goals first
      | (simp_all; done)
      | (simp_all; omega)
      | ((repeat' split) <;> first | rfl | (exfalso; simp_all; done) | (exfalso; simp_all; omega))
  by_cases c2 : k = 2
  · subst c2
    simp only [true_or, or_true, not_true, if_false, show ¬ (2 : Int) = 4 by decide, show ¬ (2 : Int) = 3 by decide, false_and, or_false, ne_eq, not_false_eq_true, true_and]
    refine afn_of Tryd.func37 rfl mixed (by kernel_rfl) ?_
    conv => whnf
    refine adraw (fun _ => plnChk) [1, 2] (by kernel_rfl) ?_
    conv => whnf
    repeat' (first
      | (refine And.intro ?_ ?_ <;> (conv => whnf))
      | (refine acallF [] (by kernel_rfl) kindsA ?_ ?_; (focus (repeat' (first | rfl | trivial | apply And.intro); done)); rintro _ _ _ ⟨rfl, rfl, rfl⟩; (conv => whnf))
      | (refine ALi.some (x := kdV [99, 111, 117, 110, 116] 65) rfl ?_; conv => whnf)
      | ((refine acall [] (by kernel_rfl) (k1) rfl ?_ ?_; (focus ((repeat' (first | rfl | trivial | apply And.intro)); done)); (conv => whnf)))
      | ((refine acall [] (by kernel_rfl) (k2) rfl ?_ ?_; (focus ((repeat' (first | rfl | trivial | apply And.intro)); done)); (conv => whnf)))
      | (refine vif_split (fun h => ?_) (fun h => ?_) <;> (first | (exfalso; simp only [*, Bool.not_true, Bool.not_false, Bool.false_eq_true, Bool.true_eq_false, reduceCtorEq] at *; done) | (conv => whnf))))
    all_goals (refine aret [] (congrArg (Value.int .i64) ?_))
    all_goals (simp only [cond_true, cond_false, sEq_tx, Bool.not_eq_true', Bool.not_eq_false', decide_eq_true_eq, decide_eq_false_iff_not, beq_iff_eq, bne_iff_ne, beq_eq_false_iff_ne, bne_eq_false_iff_eq, ne_eq, Bool.not_eq_eq_eq_not, Bool.not_true, Bool.not_false, Decidable.not_not, gt_iff_lt, Int.not_lt] at *)
    all_goals (clear k1 k2)
    all_goals first
      | (simp_all; done)
      | (simp_all; omega)
      | ((repeat' split) <;> first | rfl | (exfalso; simp_all; done) | (exfalso; simp_all; omega))
  by_cases c3 : k = 3
  · subst c3
    simp only [true_or, or_true, not_true, if_false, show ¬ (3 : Int) = 4 by decide, false_and, or_false, ne_eq, not_false_eq_true, true_and]
    refine afn_of Tryd.func37 rfl mixed (by kernel_rfl) ?_
    conv => whnf
    refine adraw (fun _ => plnChk) [1, 2] (by kernel_rfl) ?_
    conv => whnf
    repeat' (first
      | (refine And.intro ?_ ?_ <;> (conv => whnf))
      | (refine acallF [] (by kernel_rfl) kindsA ?_ ?_; (focus (repeat' (first | rfl | trivial | apply And.intro); done)); rintro _ _ _ ⟨rfl, rfl, rfl⟩; (conv => whnf))
      | (refine ALi.some (x := kdV [115, 104, 97, 114, 101] 65) rfl ?_; conv => whnf)
      | ((refine acall [] (by kernel_rfl) (k1) rfl ?_ ?_; (focus ((repeat' (first | rfl | trivial | apply And.intro)); done)); (conv => whnf)))
      | ((refine acall [] (by kernel_rfl) (k2) rfl ?_ ?_; (focus ((repeat' (first | rfl | trivial | apply And.intro)); done)); (conv => whnf)))
      | (refine vif_split (fun h => ?_) (fun h => ?_) <;> (first | (exfalso; simp only [*, Bool.not_true, Bool.not_false, Bool.false_eq_true, Bool.true_eq_false, reduceCtorEq] at *; done) | (conv => whnf))))
    all_goals (refine aret [] (congrArg (Value.int .i64) ?_))
    all_goals (simp only [cond_true, cond_false, sEq_tx, Bool.not_eq_true', Bool.not_eq_false', decide_eq_true_eq, decide_eq_false_iff_not, beq_iff_eq, bne_iff_ne, beq_eq_false_iff_ne, bne_eq_false_iff_eq, ne_eq, Bool.not_eq_eq_eq_not, Bool.not_true, Bool.not_false, Decidable.not_not, gt_iff_lt, Int.not_lt] at *)
    all_goals (clear k1 k2)
    all_goals first
      | (simp_all; done)
      | (simp_all; omega)
      | ((repeat' split) <;> first | rfl | (exfalso; simp_all; done) | (exfalso; simp_all; omega))
  by_cases c4 : k = 4
  · subst c4
    simp only [or_true, not_true, if_false, show ¬ (4 : Int) = 3 by decide, false_and, or_false, ne_eq, true_and, false_or]
    refine afn_of Tryd.func37 rfl mixed (by kernel_rfl) ?_
    conv => whnf
    refine adraw (fun _ => plnChk) [1, 2] (by kernel_rfl) ?_
    conv => whnf
    repeat' (first
      | (refine And.intro ?_ ?_ <;> (conv => whnf))
      | (refine acallF [] (by kernel_rfl) kindsA ?_ ?_; (focus (repeat' (first | rfl | trivial | apply And.intro); done)); rintro _ _ _ ⟨rfl, rfl, rfl⟩; (conv => whnf))
      | (refine ALi.some (x := kdV [114, 97, 116, 105, 111] 64) rfl ?_; conv => whnf)
      | ((refine acall [] (by kernel_rfl) (k1) rfl ?_ ?_; (focus ((repeat' (first | rfl | trivial | apply And.intro)); done)); (conv => whnf)))
      | ((refine acall [] (by kernel_rfl) (k2) rfl ?_ ?_; (focus ((repeat' (first | rfl | trivial | apply And.intro)); done)); (conv => whnf)))
      | (refine vif_split (fun h => ?_) (fun h => ?_) <;> (first | (exfalso; simp only [*, Bool.not_true, Bool.not_false, Bool.false_eq_true, Bool.true_eq_false, reduceCtorEq] at *; done) | (conv => whnf))))
    all_goals (refine aret [] (congrArg (Value.int .i64) ?_))
    all_goals (simp only [cond_true, cond_false, sEq_tx, Bool.not_eq_true', Bool.not_eq_false', decide_eq_true_eq, decide_eq_false_iff_not, beq_iff_eq, bne_iff_ne, beq_eq_false_iff_ne, bne_eq_false_iff_eq, ne_eq, Bool.not_eq_eq_eq_not, Bool.not_true, Bool.not_false, Decidable.not_not, gt_iff_lt, Int.not_lt] at *)
    all_goals (clear k1 k2)
    all_goals first
      | (simp_all; done)
      | (simp_all; omega)
      | ((repeat' split) <;> first | rfl | (exfalso; simp_all; done) | (exfalso; simp_all; omega))
  have hno : KM k = none := by unfold KM; rw [if_neg c4, if_neg c3, if_neg c2, if_neg c1]
  rw [if_pos (by simp [c1, c2, c3, c4])]
  · skip
    refine afn_of Tryd.func37 rfl mixed (by kernel_rfl) ?_
    conv => whnf
    refine adraw (fun _ => plnChk) [1, 2] (by kernel_rfl) ?_
    conv => whnf
    repeat' (first
      | (refine And.intro ?_ ?_ <;> (conv => whnf))
      | (refine acallF [] (by kernel_rfl) kindsA ?_ ?_; (focus (repeat' (first | rfl | trivial | apply And.intro); done)); rintro _ _ _ ⟨rfl, rfl, rfl⟩; (conv => whnf))
      | (refine ALi.none hno ?_; conv => whnf)
      | ((refine acall [] (by kernel_rfl) (k1) rfl ?_ ?_; (focus ((repeat' (first | rfl | trivial | apply And.intro)); done)); (conv => whnf)))
      | ((refine acall [] (by kernel_rfl) (k2) rfl ?_ ?_; (focus ((repeat' (first | rfl | trivial | apply And.intro)); done)); (conv => whnf)))
      | (refine vif_split (fun h => ?_) (fun h => ?_) <;> (first | (exfalso; simp only [*, Bool.not_true, Bool.not_false, Bool.false_eq_true, Bool.true_eq_false, reduceCtorEq] at *; done) | (conv => whnf))))
    all_goals (refine aret [] (congrArg (Value.int .i64) ?_))
    all_goals (simp only [cond_true, cond_false, sEq_tx, Bool.not_eq_true', Bool.not_eq_false', decide_eq_true_eq, decide_eq_false_iff_not, beq_iff_eq, bne_iff_ne, beq_eq_false_iff_ne, bne_eq_false_iff_eq, ne_eq, Bool.not_eq_eq_eq_not, Bool.not_true, Bool.not_false, Decidable.not_not, gt_iff_lt, Int.not_lt] at *)
    all_goals (clear k1 k2)
    all_goals first
      | (simp_all; done)
      | (simp_all; omega)
      | ((repeat' split) <;> first | rfl | (exfalso; simp_all; done) | (exfalso; simp_all; omega))
set_option maxRecDepth 100000 in
theorem mwA (n a b : Int) : AFn Tryd.prog GS 61 [iv n, iv a, iv b] 0 [] (Is (bv (decide (a ≤ n) && decide (n ≤ b)))) := by
  refine afn_of Tryd.func61 rfl mixed (by kernel_rfl) ?_
  conv => whnf
  repeat' (refine vif_split (fun h => ?_) (fun h => ?_) <;> (conv => whnf))
  all_goals (refine aret [] (congrArg Value.bool ?_))
  all_goals (simp_all; try omega)
set_option maxHeartbeats 8000000 in
set_option maxRecDepth 100000 in
theorem mcheck2A (k : Int) (name below : By) (window cap least before : Int) (z1 : name.length ≤ 140737488355328) (z2 : below.length ≤ 140737488355328) : AFn Tryd.prog GS 47 [.agg [iv k, tv name, tv below, iv window, iv cap, iv least, iv before]] 0 [] (Is (.v (.int .i64 (mtC ⟨k, name, below, window, cap, least, before⟩)))) := by
  have k1 := keyG2 ⟨name.toArray⟩ (by show name.length ≤ _; omega)
  have k2 := keyG2 ⟨below.toArray⟩ (by show below.length ≤ _; omega)
  unfold mtC kyM
  generalize keyB ⟨name.toArray⟩ = b1 at *
  generalize keyB ⟨below.toArray⟩ = b2 at *
  clear z1 z2
  by_cases c1 : k = 1
  · subst c1
    simp only [true_or, not_true, if_false, show ¬ (1 : Int) = 4 by decide, show ¬ (1 : Int) = 3 by decide, false_and, or_false, ne_eq, not_false_eq_true, true_and]
    refine afn_of Tryd.func47 rfl mixed (by kernel_rfl) ?_
    conv => whnf
    repeat' (first
      | ((refine acall [] (by kernel_rfl) (mwA 1 1 4) rfl ?_ ?_; (focus ((repeat' (first | rfl | trivial | apply And.intro)); done)); (conv => whnf)))
      | ((refine acall [] (by kernel_rfl) (k1) rfl ?_ ?_; (focus ((repeat' (first | rfl | trivial | apply And.intro)); done)); (conv => whnf)))
      | ((refine acall [] (by kernel_rfl) (k2) rfl ?_ ?_; (focus ((repeat' (first | rfl | trivial | apply And.intro)); done)); (conv => whnf)))
      | ((refine acall [] (by kernel_rfl) (mwA window 1 68719476736) rfl ?_ ?_; (focus ((repeat' (first | rfl | trivial | apply And.intro)); done)); (conv => whnf)))
      | ((refine acall [] (by kernel_rfl) (mwA cap 1 1048576) rfl ?_ ?_; (focus ((repeat' (first | rfl | trivial | apply And.intro)); done)); (conv => whnf)))
      | ((refine acall [] (by kernel_rfl) (mwA least (-1099511627776) 1099511627776) rfl ?_ ?_; (focus ((repeat' (first | rfl | trivial | apply And.intro)); done)); (conv => whnf)))
      | ((refine acall [] (by kernel_rfl) (mwA before 0 68719476736) rfl ?_ ?_; (focus ((repeat' (first | rfl | trivial | apply And.intro)); done)); (conv => whnf)))
      | (refine vif_split (fun h => ?_) (fun h => ?_) <;> (first | (exfalso; simp only [*, Bool.not_true, Bool.not_false, Bool.false_eq_true, Bool.true_eq_false, reduceCtorEq] at *; done) | (conv => whnf))))
    all_goals (refine aret [] (congrArg (Value.int .i64) ?_))
    all_goals (simp only [cond_true, cond_false, sEq_tx, Bool.not_eq_true', Bool.not_eq_false', decide_eq_true_eq, decide_eq_false_iff_not, beq_iff_eq, bne_iff_ne, beq_eq_false_iff_ne, bne_eq_false_iff_eq, ne_eq, Bool.not_eq_eq_eq_not, Bool.not_true, Bool.not_false, Decidable.not_not, gt_iff_lt, Int.not_lt] at *)
    all_goals (clear k1 k2)
    all_goals first
      | (simp_all; done)
      | (simp_all; omega)
      | ((repeat' split) <;> first | rfl | (exfalso; simp_all; done) | (exfalso; simp_all; omega))
  by_cases c2 : k = 2
  · subst c2
    simp only [true_or, or_true, not_true, if_false, show ¬ (2 : Int) = 4 by decide, show ¬ (2 : Int) = 3 by decide, false_and, or_false, ne_eq, not_false_eq_true, true_and]
    refine afn_of Tryd.func47 rfl mixed (by kernel_rfl) ?_
    conv => whnf
    repeat' (first
      | ((refine acall [] (by kernel_rfl) (mwA 2 1 4) rfl ?_ ?_; (focus ((repeat' (first | rfl | trivial | apply And.intro)); done)); (conv => whnf)))
      | ((refine acall [] (by kernel_rfl) (k1) rfl ?_ ?_; (focus ((repeat' (first | rfl | trivial | apply And.intro)); done)); (conv => whnf)))
      | ((refine acall [] (by kernel_rfl) (k2) rfl ?_ ?_; (focus ((repeat' (first | rfl | trivial | apply And.intro)); done)); (conv => whnf)))
      | ((refine acall [] (by kernel_rfl) (mwA window 1 68719476736) rfl ?_ ?_; (focus ((repeat' (first | rfl | trivial | apply And.intro)); done)); (conv => whnf)))
      | ((refine acall [] (by kernel_rfl) (mwA cap 1 1048576) rfl ?_ ?_; (focus ((repeat' (first | rfl | trivial | apply And.intro)); done)); (conv => whnf)))
      | ((refine acall [] (by kernel_rfl) (mwA least (-1099511627776) 1099511627776) rfl ?_ ?_; (focus ((repeat' (first | rfl | trivial | apply And.intro)); done)); (conv => whnf)))
      | ((refine acall [] (by kernel_rfl) (mwA before 0 68719476736) rfl ?_ ?_; (focus ((repeat' (first | rfl | trivial | apply And.intro)); done)); (conv => whnf)))
      | (refine vif_split (fun h => ?_) (fun h => ?_) <;> (first | (exfalso; simp only [*, Bool.not_true, Bool.not_false, Bool.false_eq_true, Bool.true_eq_false, reduceCtorEq] at *; done) | (conv => whnf))))
    all_goals (refine aret [] (congrArg (Value.int .i64) ?_))
    all_goals (simp only [cond_true, cond_false, sEq_tx, Bool.not_eq_true', Bool.not_eq_false', decide_eq_true_eq, decide_eq_false_iff_not, beq_iff_eq, bne_iff_ne, beq_eq_false_iff_ne, bne_eq_false_iff_eq, ne_eq, Bool.not_eq_eq_eq_not, Bool.not_true, Bool.not_false, Decidable.not_not, gt_iff_lt, Int.not_lt] at *)
    all_goals (clear k1 k2)
    all_goals first
      | (simp_all; done)
      | (simp_all; omega)
      | ((repeat' split) <;> first | rfl | (exfalso; simp_all; done) | (exfalso; simp_all; omega))
  by_cases c3 : k = 3
  · subst c3
    simp only [true_or, or_true, not_true, if_false, show ¬ (3 : Int) = 4 by decide, false_and, or_false, ne_eq, not_false_eq_true, true_and]
    refine afn_of Tryd.func47 rfl mixed (by kernel_rfl) ?_
    conv => whnf
    repeat' (first
      | ((refine acall [] (by kernel_rfl) (mwA 3 1 4) rfl ?_ ?_; (focus ((repeat' (first | rfl | trivial | apply And.intro)); done)); (conv => whnf)))
      | ((refine acall [] (by kernel_rfl) (k1) rfl ?_ ?_; (focus ((repeat' (first | rfl | trivial | apply And.intro)); done)); (conv => whnf)))
      | ((refine acall [] (by kernel_rfl) (k2) rfl ?_ ?_; (focus ((repeat' (first | rfl | trivial | apply And.intro)); done)); (conv => whnf)))
      | ((refine acall [] (by kernel_rfl) (mwA window 1 68719476736) rfl ?_ ?_; (focus ((repeat' (first | rfl | trivial | apply And.intro)); done)); (conv => whnf)))
      | ((refine acall [] (by kernel_rfl) (mwA cap 1 1048576) rfl ?_ ?_; (focus ((repeat' (first | rfl | trivial | apply And.intro)); done)); (conv => whnf)))
      | ((refine acall [] (by kernel_rfl) (mwA least (-1099511627776) 1099511627776) rfl ?_ ?_; (focus ((repeat' (first | rfl | trivial | apply And.intro)); done)); (conv => whnf)))
      | ((refine acall [] (by kernel_rfl) (mwA before 0 68719476736) rfl ?_ ?_; (focus ((repeat' (first | rfl | trivial | apply And.intro)); done)); (conv => whnf)))
      | (refine vif_split (fun h => ?_) (fun h => ?_) <;> (first | (exfalso; simp only [*, Bool.not_true, Bool.not_false, Bool.false_eq_true, Bool.true_eq_false, reduceCtorEq] at *; done) | (conv => whnf))))
    all_goals (refine aret [] (congrArg (Value.int .i64) ?_))
    all_goals (simp only [cond_true, cond_false, sEq_tx, Bool.not_eq_true', Bool.not_eq_false', decide_eq_true_eq, decide_eq_false_iff_not, beq_iff_eq, bne_iff_ne, beq_eq_false_iff_ne, bne_eq_false_iff_eq, ne_eq, Bool.not_eq_eq_eq_not, Bool.not_true, Bool.not_false, Decidable.not_not, gt_iff_lt, Int.not_lt] at *)
    all_goals (clear k1 k2)
    all_goals first
      | (simp_all; done)
      | (simp_all; omega)
      | ((repeat' split) <;> first | rfl | (exfalso; simp_all; done) | (exfalso; simp_all; omega))
  by_cases c4 : k = 4
  · subst c4
    simp only [or_true, not_true, if_false, show ¬ (4 : Int) = 3 by decide, false_and, or_false, ne_eq, true_and, false_or]
    refine afn_of Tryd.func47 rfl mixed (by kernel_rfl) ?_
    conv => whnf
    repeat' (first
      | ((refine acall [] (by kernel_rfl) (mwA 4 1 4) rfl ?_ ?_; (focus ((repeat' (first | rfl | trivial | apply And.intro)); done)); (conv => whnf)))
      | ((refine acall [] (by kernel_rfl) (k1) rfl ?_ ?_; (focus ((repeat' (first | rfl | trivial | apply And.intro)); done)); (conv => whnf)))
      | ((refine acall [] (by kernel_rfl) (k2) rfl ?_ ?_; (focus ((repeat' (first | rfl | trivial | apply And.intro)); done)); (conv => whnf)))
      | ((refine acall [] (by kernel_rfl) (mwA window 1 68719476736) rfl ?_ ?_; (focus ((repeat' (first | rfl | trivial | apply And.intro)); done)); (conv => whnf)))
      | ((refine acall [] (by kernel_rfl) (mwA cap 1 1048576) rfl ?_ ?_; (focus ((repeat' (first | rfl | trivial | apply And.intro)); done)); (conv => whnf)))
      | ((refine acall [] (by kernel_rfl) (mwA least (-1099511627776) 1099511627776) rfl ?_ ?_; (focus ((repeat' (first | rfl | trivial | apply And.intro)); done)); (conv => whnf)))
      | ((refine acall [] (by kernel_rfl) (mwA before 0 68719476736) rfl ?_ ?_; (focus ((repeat' (first | rfl | trivial | apply And.intro)); done)); (conv => whnf)))
      | (refine vif_split (fun h => ?_) (fun h => ?_) <;> (first | (exfalso; simp only [*, Bool.not_true, Bool.not_false, Bool.false_eq_true, Bool.true_eq_false, reduceCtorEq] at *; done) | (conv => whnf))))
    all_goals (refine aret [] (congrArg (Value.int .i64) ?_))
    all_goals (simp only [cond_true, cond_false, sEq_tx, Bool.not_eq_true', Bool.not_eq_false', decide_eq_true_eq, decide_eq_false_iff_not, beq_iff_eq, bne_iff_ne, beq_eq_false_iff_ne, bne_eq_false_iff_eq, ne_eq, Bool.not_eq_eq_eq_not, Bool.not_true, Bool.not_false, Decidable.not_not, gt_iff_lt, Int.not_lt] at *)
    all_goals (clear k1 k2)
    all_goals first
      | (simp_all; done)
      | (simp_all; omega)
      | ((repeat' split) <;> first | rfl | (exfalso; simp_all; done) | (exfalso; simp_all; omega))
  rw [if_pos (by simp [c1, c2, c3, c4])]
  have hb : (decide (1 ≤ k) && decide (k ≤ 4)) = false := by
    rw [Bool.and_eq_false_iff, decide_eq_false_iff_not, decide_eq_false_iff_not]; omega
  refine afn_of Tryd.func47 rfl mixed (by kernel_rfl) ?_
  conv => whnf
  (refine acall [] (by kernel_rfl) (mwA k 1 4) rfl ?_ ?_; (focus (repeat' (first | rfl | trivial | apply And.intro))))
  rw [hb]
  conv => whnf
  exact aret [] (by repeat' (first | rfl | trivial | apply And.intro))
theorem mchk1 (m : Mt) (z1 : m.name.length ≤ 140737488355328) (z2 : m.below.length ≤ 140737488355328) : AFn Tryd.prog GS 37 [mtA m] 0 [] (Is (iv (mtC m))) := mcheck1A m.kind m.name m.below m.window m.cap m.least m.before z1 z2
theorem mchk2 (m : Mt) (z1 : m.name.length ≤ 140737488355328) (z2 : m.below.length ≤ 140737488355328) : AFn Tryd.prog GS 47 [mtA m] 0 [] (Is (iv (mtC m))) := mcheck2A m.kind m.name m.below m.window m.cap m.least m.before z1 z2
end Go.Proofs.YtmnjmdajgilhiaaDoor.Cl
