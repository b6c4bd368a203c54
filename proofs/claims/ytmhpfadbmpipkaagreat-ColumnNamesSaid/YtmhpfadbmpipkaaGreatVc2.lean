/- The soundness of the reckoner's rule for each operation. No condition. -/
import Derived.Test.YtmhpfadbmpipkaaGreatVc1
import Derived.Laws.IdiomStrings
import Derived.Laws.Tables
import Derived.Laws.Small
set_option linter.unusedVariables false
set_option linter.unusedSimpArgs false
namespace Go.Proofs.YtmhpfadbmpipkaaGreat.Vc
open Go Go.RowKit

theorem run_under {P : Program} {t : TypeId} {d : TypeDesc} {w : World} (h : P.underlying t = some d) : (underlying t).run P w = .ok d w := by
  unfold underlying
  simp [h]
theorem run_info {P : Program} {t : TypeId} {i : TypeInfo} {w : World} (h : P.info? t = some i) : (typeInfo t).run P w = .ok i w := by
  unfold typeInfo
  simp [h]

theorem did_value {P : Program} {o : Oper} {ρ : Regs} {w : World} {K : Value → World → Prop} {q : Bool} {v : Value} {w' : World}
    (h : (execOp (opd ρ) o).run P w = .ok (.value v) w') (k : K v w') (hq : q = true → quietKind o = true → w' = w) : Did P q o ρ w K := .inl ⟨v, w', h, k, hq⟩

theorem wr_un {q : Bool} {w w' : World} {K : Value → World → Prop} {v : Value} (h : wr q w K v w') : K v w' := by
  cases q with
  | false => exact h
  | true => exact h.go
theorem VSem.un {P : Program} {s : Sem Value} {q : Bool} {w : World} {K : Value → World → Prop} (h : VSem P s w (wr q w K)) :
    ∃ v w', s.run P w = .ok v w' ∧ K v w' ∧ (q = true → w' = w) :=
  let ⟨v, w', hr, hk⟩ := h.ex
  ⟨v, w', hr, wr_un hk, fun e => by subst e; exact hk.req⟩
theorem VSem.same {P : Program} {s : Sem Value} {w : World} {K : Value → World → Prop} (h : VSem P s w (wr true w K)) :
    ∃ v, s.run P w = .ok v w ∧ K v w :=
  let ⟨v, w', hr, hk⟩ := h.ex
  ⟨v, by have := hk.req; subst this; exact ⟨hr, hk.go⟩⟩
theorem VUnit.un {P : Program} {s : Sem Unit} {w : World} {K : World → Prop} (h : VUnit P s w K) : ∃ u w', s.run P w = .ok u w' ∧ K w' := h.ex

theorem run_v {P : Program} {s : Sem Value} {w w' : World} {v : Value} (h : s.run P w = .ok v w') :
    (do pure (Next.value (← s)) : Sem Next).run P w = .ok (.value v) w' := by
  simp [h]
theorem run_u {P : Program} {s : Sem Unit} {w w' : World} {u : Unit} (h : s.run P w = .ok u w') :
    (do s; pure Next.skip : Sem Next).run P w = .ok .skip w' := by
  simp [h]

theorem vInt_run {P : Program} {op : BinOp} {t : TypeId} {x y : Operand} {k : IntKind} {m n : Int} {w : World} {K : Value → World → Prop}
    (h : vInt op k m n w K) : ∃ v, (do eqGuard op t x y (.int k m) (.int k n); binOp op t (.int k m) (.int k n) : Sem Value).run P w = .ok v w ∧ K v w := by
  have hg : (eqGuard op t x y (.int k m) (.int k n)).run P w = .ok () w := by
    cases op <;> simp [eqGuard]
  cases op <;> simp only [vInt] at h
  case add => exact ⟨_, by rw [Sem.run_bind, hg]; simp [binOp, Op.intArith], h⟩
  case sub => exact ⟨_, by rw [Sem.run_bind, hg]; simp [binOp, Op.intArith], h⟩
  case mul => exact ⟨_, by rw [Sem.run_bind, hg]; simp [binOp, Op.intArith], h⟩
  case quo => exact ⟨_, by rw [Sem.run_bind, hg]; simp [binOp, Op.intDiv, h.req], h.go⟩
  case rem => exact ⟨_, by rw [Sem.run_bind, hg]; simp [binOp, Op.intDiv, h.req], h.go⟩
  case and => exact ⟨_, by rw [Sem.run_bind, hg]; simp [binOp, Op.intBits, bitsOp], h⟩
  case or => exact ⟨_, by rw [Sem.run_bind, hg]; simp [binOp, Op.intBits, bitsOp], h⟩
  case xor => exact ⟨_, by rw [Sem.run_bind, hg]; simp [binOp, Op.intBits, bitsOp], h⟩
  case andNot => exact ⟨_, by rw [Sem.run_bind, hg]; simp [binOp, Op.intBits, bitsOp], h⟩
  case shl => exact ⟨_, by rw [Sem.run_bind, hg]; simp [binOp, Op.shift, Int.not_lt.2 h.req], h.go⟩
  case shr => exact ⟨_, by rw [Sem.run_bind, hg]; simp [binOp, Op.shift, Int.not_lt.2 h.req], h.go⟩
  case eql => exact ⟨_, by rw [Sem.run_bind, hg]; simp [binOp, Op.intCmp], h⟩
  case neq => exact ⟨_, by rw [Sem.run_bind, hg]; simp [binOp, Op.intCmp], h⟩
  case lss => exact ⟨_, by rw [Sem.run_bind, hg]; simp [binOp, Op.intCmp], h⟩
  case leq => exact ⟨_, by rw [Sem.run_bind, hg]; simp [binOp, Op.intCmp], h⟩
  case gtr => exact ⟨_, by rw [Sem.run_bind, hg]; simp [binOp, Op.intCmp], h⟩
  case geq => exact ⟨_, by rw [Sem.run_bind, hg]; simp [binOp, Op.intCmp], h⟩

theorem vShift_run {P : Program} {op : BinOp} {t : TypeId} {x y : Operand} {k k' : IntKind} {m n : Int} {w : World} {K : Value → World → Prop}
    (ho : op = .shl ∨ op = .shr) (h : vInt op k m n w K) : ∃ v, (do eqGuard op t x y (.int k m) (.int k' n); binOp op t (.int k m) (.int k' n) : Sem Value).run P w = .ok v w ∧ K v w := by
  rcases ho with rfl | rfl
  · exact ⟨_, by simp [eqGuard, binOp, Op.shift, Int.not_lt.2 h.req], h.go⟩
  · exact ⟨_, by simp [eqGuard, binOp, Op.shift, Int.not_lt.2 h.req], h.go⟩

theorem vStr_run {P : Program} {op : BinOp} {t : TypeId} {x y : Operand} {m n : ByteArray} {w : World} {K : Value → World → Prop}
    (h : vStr op m n w K) : ∃ v, (do eqGuard op t x y (.string m) (.string n); binOp op t (.string m) (.string n) : Sem Value).run P w = .ok v w ∧ K v w := by
  have hg : (eqGuard op t x y (.string m) (.string n)).run P w = .ok () w := by
    cases op <;> simp [eqGuard]
  cases op <;> simp only [vStr] at h
  case add => exact ⟨_, by rw [Sem.run_bind, hg]; simp only [Result.andThen_ok, binOp, Op.stringOp, if_neg (Int.not_lt.2 h.req)]; rfl, h.go⟩
  case eql => exact ⟨_, by rw [Sem.run_bind, hg]; rfl, h⟩
  case neq => exact ⟨_, by rw [Sem.run_bind, hg]; rfl, h⟩
  case lss => exact ⟨_, by rw [Sem.run_bind, hg]; rfl, h⟩
  case leq => exact ⟨_, by rw [Sem.run_bind, hg]; rfl, h⟩
  case gtr => exact ⟨_, by rw [Sem.run_bind, hg]; rfl, h⟩
  case geq => exact ⟨_, by rw [Sem.run_bind, hg]; rfl, h⟩
  all_goals exact h.elim

theorem run_eqBool {P : Program} {t : TypeId} {m n : Bool} {w : World} (hu : P.underlying t = some .bool) :
    (Op.equal t (.bool m) (.bool n)).run P w = .ok (m == n) w := by
  obtain ⟨d, hd⟩ : ∃ d, Op.maxDepth = d + 1 := ⟨Op.maxDepth - 1, by decide⟩
  unfold Op.equal
  rw [hd]
  unfold Op.equalIn
  rw [Sem.run_bind, run_under hu]
  rfl
theorem vBin_run {P : Program} {q : Bool} {op : BinOp} {t : TypeId} {x y : Operand} {a b : Value} {w : World} {K : Value → World → Prop}
    (h : vBin P q op t x y a b w K) : ∃ v w', (do eqGuard op t x y a b; binOp op t a b : Sem Value).run P w = .ok v w' ∧ K v w' ∧ (q = true → w' = w) := by
  unfold vBin at h
  split at h
  · rename_i k m k' n
    split at h
    · obtain ⟨v, hr, hk⟩ := vShift_run (P := P) (t := t) (x := x) (y := y) (k' := k') (.inl rfl) h; exact ⟨v, w, hr, hk, fun _ => rfl⟩
    · obtain ⟨v, hr, hk⟩ := vShift_run (P := P) (t := t) (x := x) (y := y) (k' := k') (.inr rfl) h; exact ⟨v, w, hr, hk, fun _ => rfl⟩
    · by_cases hkk : k = k'
      · subst hkk
        simp only [decide_true, cond_true] at h
        obtain ⟨v, hr, hk⟩ := vInt_run (P := P) (t := t) (x := x) (y := y) h; exact ⟨v, w, hr, hk, fun _ => rfl⟩
      · simp [hkk] at h
  · obtain ⟨v, hr, hk⟩ := vStr_run (P := P) (t := t) (x := x) (y := y) h; exact ⟨v, w, hr, hk, fun _ => rfl⟩
  · rename_i m n
    split at h
    · split at h
      · rename_i hu
        exact ⟨_, w, by rw [Sem.run_bind]; simp only [eqGuard, binOp, run_eqBool hu, Sem.run_bind, Result.andThen_ok]; rfl, h, fun _ => rfl⟩
      · exact h.elim
    · split at h
      · rename_i hu
        exact ⟨_, w, by rw [Sem.run_bind]; simp only [eqGuard, binOp, run_eqBool hu, Sem.run_bind, Result.andThen_ok]; rfl, h, fun _ => rfl⟩
      · exact h.elim
    · exact h.elim
  · exact h.un

theorem vUn_run {P : Program} {q : Bool} {op : UnOp} {a : Value} {w : World} {K : Value → World → Prop} (h : vUn P q op a w K) :
    ∃ v w', (Op.unary op a).run P w = .ok v w' ∧ K v w' ∧ (q = true → w' = w) := by
  unfold vUn at h
  split at h
  · exact ⟨_, w, by simp [Op.unary], h, fun _ => rfl⟩
  · exact ⟨_, w, by simp [Op.unary, Op.intArith], h, fun _ => rfl⟩
  · exact h.un

theorem vConv_run {P : Program} {q : Bool} {src dst : TypeId} {a : Value} {w : World} {K : Value → World → Prop} (h : vConv P q src dst a w K) :
    ∃ v w', (convert src dst a).run P w = .ok v w' ∧ K v w' ∧ (q = true → w' = w) := by
  unfold vConv at h
  split at h
  · rename_i d k q n h1 h2
    refine ⟨_, w, ?_, h, fun _ => rfl⟩
    unfold convert
    rw [Sem.run_bind, run_under h1, Result.andThen_ok, Sem.run_bind, run_under h2, Result.andThen_ok]
    cases d <;> rfl
  · rename_i s h1 h2
    refine ⟨_, w, ?_, h, fun _ => rfl⟩
    unfold convert
    rw [Sem.run_bind, run_under h1, Result.andThen_ok, Sem.run_bind, run_under h2, Result.andThen_ok]
    rfl
  · exact h.un

theorem run_isAgg {P : Program} {t : TypeId} {b : Bool} {w : World} (h : aggB P t = some b) : (isAgg t).run P w = .ok b w := by
  unfold aggB at h
  unfold isAgg
  split at h
  · rename_i hu; rw [Sem.run_bind, run_under hu]; simp at h; subst h; rfl
  · rename_i hu; rw [Sem.run_bind, run_under hu]; simp at h; subst h; rfl
  · rename_i d h1 h2 hu
    rw [Sem.run_bind, run_under hu]
    simp at h
    subst h
    cases d <;> first | rfl | exact (h1 _ rfl).elim | exact (h2 _ _ rfl).elim
  · cases h

theorem vField_run {P : Program} {t : TypeId} {cs : Array Value} {f : Nat} {w : World} {K : Value → World → Prop} (h : vField P t cs f w K) :
    ∃ v, (Instr.field t (.agg cs) f).run P w = .ok v w ∧ K v w := by
  unfold vField at h
  split at h
  · rename_i fs hu
    split at h
    · rename_i fd hf
      have hf' : fs[f]? = some fd := by rw [← hf]; simp
      unfold Instr.field
      rw [Sem.run_bind, run_under hu, Result.andThen_ok]
      simp only [hf']
      split at h
      · rename_i i ha hi
        rw [forceL_eq] at h
        refine ⟨_, ?_, h⟩
        simp only [Sem.run_bind, asAgg, Sem.run_pure, Result.andThen_ok, part, run_isAgg ha, if_true, sizeOf, run_info hi]
        congr 2
        apply Array.ext'
        simp
      · rename_i i ha hi
        split at h
        · rename_i v hv
          refine ⟨v, ?_, h⟩
          have hv' : cs[fd.offset]? = some v := by rw [← hv]; simp
          simp only [Sem.run_bind, asAgg, Sem.run_pure, Result.andThen_ok, part, run_isAgg ha]
          simp [hv']
        · exact h.elim
      · exact h.elim
    · exact h.elim
  · exact h.elim

theorem vFieldAddr_run {P : Program} {t : TypeId} {a : Addr} {f : Nat} {w : World} {K : Value → World → Prop} (h : vFieldAddr P t a f w K) :
    ∃ v, (Instr.fieldAt t (.pointer (some a)) f).run P w = .ok v w ∧ K v w := by
  unfold vFieldAddr at h
  split at h
  · rename_i fs hu
    split at h
    · rename_i fd hf
      have hf' : fs[f]? = some fd := by rw [← hf]; simp
      split at h
      · rename_i i hi
        cases hz : Nat.beq i.size 0 with
        | true => simp [hz] at h
        | false =>
          simp only [hz, cond_false] at h
          refine ⟨_, ?_, h⟩
          have hne : i.size ≠ 0 := fun e => by simp [e] at hz
          unfold Instr.fieldAt
          rw [Sem.run_bind, run_under hu, Result.andThen_ok]
          simp only [hf']
          simp [Instr.sureAddr, fieldPlace, sizeOf, run_info hi, hne]
      · exact h.elim
    · exact h.elim
  · exact h.elim

theorem vLen_run {P : Program} {q : Bool} {t ty : TypeId} {a : Value} {w : World} {K : Value → World → Prop} (h : vLen P q t ty a w K) :
    ∃ v w', (Builtin.len_ #[t] ty #[a]).run P w = .ok v w' ∧ K v w' ∧ (q = true → w' = w) := by
  unfold vLen at h
  split at h
  · rename_i hu; exact ⟨_, w, by simp [Builtin.len_, run_under hu, goInt], h, fun _ => rfl⟩
  · rename_i hu; exact ⟨_, w, by simp [Builtin.len_, run_under hu, goInt], h, fun _ => rfl⟩
  · rename_i hu; exact ⟨_, w, by simp [Builtin.len_, run_under hu, goInt], h, fun _ => rfl⟩
  · exact h.un

theorem run_min2s {P : Program} {w : World} (x y : ByteArray) : (Builtin.min2 (.string x) (.string y)).run P w = .ok (.string (smin x y)) w := by
  have e : Builtin.min2 (.string x) (.string y) = (do pure (.string (if ← asBool (← Op.stringOp .leq x y) then x else y))) := rfl
  rw [e]
  have e2 : (Op.stringOp .leq x y).run P w = .ok (.bool (sLt x y || sEq x y)) w := rfl
  rw [Sem.run_bind, e2, Result.andThen_ok]
  unfold smin
  cases (sLt x y || sEq x y) <;> rfl
theorem run_max2s {P : Program} {w : World} (x y : ByteArray) : (Builtin.max2 (.string x) (.string y)).run P w = .ok (.string (smax x y)) w := by
  have e : Builtin.max2 (.string x) (.string y) = (do pure (.string (if ← asBool (← Op.stringOp .geq x y) then x else y))) := rfl
  rw [e]
  have e2 : (Op.stringOp .geq x y).run P w = .ok (.bool (!sLt x y)) w := rfl
  rw [Sem.run_bind, e2, Result.andThen_ok]
  unfold smax
  cases sLt x y <;> rfl
theorem min_if (x y : Int) : (if y < x then y else x) = min x y := by omega
theorem max_if (x y : Int) : (if y > x then y else x) = max x y := by omega
def builtinQ (b : Builtin) : Bool := match b with | .len => true | .min => true | .max => true | .cap => true | _ => false
theorem vCallB_run {P : Program} {q : Bool} {b : Builtin} {ts : List TypeId} {ty : TypeId} {args : List Value} {cb : Array Bool} {w : World} {K : Value → World → Prop}
    (h : vCallB P q b ts ty args w K) : ∃ v w', (builtin b ts.toArray ty cb args.toArray).run P w = .ok (.value v) w' ∧ K v w' ∧ (q = true → (builtinQ b = true) → w' = w) := by
  unfold vCallB at h
  split at h
  · obtain ⟨v, w', hr, hk, hq⟩ := vLen_run h; exact ⟨v, w', by simp [builtin, hr], hk, fun e _ => hq e⟩
  · rename_i k x k' y
    exact ⟨_, w, by simp only [builtin, Sem.run_bind, run_min_int2, Result.andThen_ok]; rw [min_if]; rfl, h, fun _ _ => rfl⟩
  · rename_i k x k' y
    exact ⟨_, w, by simp only [builtin, Sem.run_bind, run_max_int2, Result.andThen_ok]; rw [max_if]; rfl, h, fun _ _ => rfl⟩
  · rename_i x y
    refine ⟨_, w, ?_, h, fun _ _ => rfl⟩
    simp [builtin, Builtin.min_, run_min2s]
  · rename_i x y
    refine ⟨_, w, ?_, h, fun _ _ => rfl⟩
    simp [builtin, Builtin.max_, run_max2s]
  · obtain ⟨v, w', hr, hk, hq⟩ := h.un; exact ⟨v, w', by simp [builtin, hr], hk, fun e _ => hq e⟩
  · obtain ⟨v, w', hr, hk, hq⟩ := h.un; exact ⟨v, w', by simp [builtin, hr], hk, fun e _ => hq e⟩
  · obtain ⟨v, w', hr, hk, hq⟩ := h.un; exact ⟨v, w', by simp [builtin, hr], hk, fun e _ => hq e⟩
  · obtain ⟨v, w', hr, hk, hq⟩ := h.un; exact ⟨v, w', by simp [builtin, hr], hk, fun e _ => hq e⟩
  · obtain ⟨v, w', hr, hk, hq⟩ := h.un; exact ⟨v, w', by simp [builtin, hr], hk, fun e _ => hq e⟩
  · obtain ⟨v, w', hr, hk, hq⟩ := h.un; exact ⟨v, w', by simp [builtin, hr], hk, fun e _ => hq e⟩
  · obtain ⟨v, w', hr, hk, hq⟩ := h.un; exact ⟨v, w', by simp [builtin, hr], hk, fun e _ => hq e⟩
  · obtain ⟨v, w', hr, hk, hq⟩ := h.un; exact ⟨v, w', by simp [builtin, hr], hk, fun e _ => hq e⟩
  · exact h.elim

theorem run_callFunc {P : Program} {f : FuncId} {args : Array Value} {w : World} (h : callable P f = true) :
    (callFunc f args).run P w = .ok (.enter f args) w := by
  unfold callable at h
  split at h
  · rename_i fn hf
    simp only [Bool.and_eq_true, Bool.not_eq_true', beq_eq_false_iff_ne, ne_eq] at h
    have hb : fn.body ≠ none := by intro e; simp [e] at h
    simp [callFunc, hf, h.1, hb]
  · cases h

theorem map_opd (ρ : Regs) (xs : Array Operand) : (xs.map (opd ρ)).toList = xs.toList.map (opd ρ) := by simp
theorem map_opd' (ρ : Regs) (xs : Array Operand) : xs.map (opd ρ) = (xs.toList.map (opd ρ)).toArray := by
  apply Array.ext'
  simp

theorem vCall_did {P : Program} {q : Bool} {o : Oper} {ρ : Regs} {c : Call} {w : World} {K : Value → World → Prop} (ho : o.op = .call c)
    (h : vCall P q ρ c o.type w K) : Did P q o ρ w K := by
  obtain ⟨callee, args, ats⟩ := c
  unfold vCall at h
  cases callee with
  | builtin b =>
    simp only [vArgs, forceL_eq] at h
    obtain ⟨v, w', hr, hk, hq⟩ := vCallB_run (cb := args.map fun | .const _ => true | _ => false) h
    refine did_value ?_ hk (fun e e' => hq e (by simp only [quietKind, ho] at e'; cases b <;> first | rfl | exact e'))
    unfold execOp
    simp only [ho, resolve, invoke, Sem.run_bind, Sem.run_pure, Result.andThen_ok]
    rw [map_opd']
    have : ats.toList.toArray = ats := by simp
    rw [this] at hr
    exact hr
  | value f =>
    simp only at h
    split at h
    · rename_i g first captured hf
      simp only [vArgs, forceL_eq] at h
      refine .inr (.inr ⟨g, _, ?_, by simp [quietKind, ho], h.runs⟩)
      unfold execOp
      simp only [ho, resolve, Deferred.ofValue, invoke, Sem.run_bind, Sem.run_pure, Result.andThen_ok, hf]
      rw [map_opd', run_callFunc h.ok]
    · exact h.elim
  | invoke r m => exact h.elim

theorem foldl_setL (off : Nat) : ∀ (vs : List Value) (j : Nat) (cs : Array Value),
    (vs.zipIdx j).foldl (fun cs (p : Value × Nat) => cs.setIfInBounds (off + p.2) p.1) cs = (setL cs.toList (off + j) vs).toArray := by
  intro vs
  induction vs with
  | nil => intro j cs; simp [setL]
  | cons v r ih =>
    intro j cs
    simp only [List.zipIdx_cons, List.foldl_cons, setL]
    rw [ih]
    congr 2
    simp
theorem fill_eq (place : Nat → Option (Nat × Nat)) : ∀ (parts : List (Nat × Value)) (cs l : List Value),
    fillL place cs parts = some l → Instr.fill place cs.toArray parts = some l.toArray := by
  intro parts
  induction parts with
  | nil => intro cs l h; simp only [fillL, Option.some.injEq] at h; subst h; rfl
  | cons p r ih =>
    obtain ⟨i, v⟩ := p
    intro cs l h
    simp only [fillL] at h
    simp only [Instr.fill]
    cases hp : place i with
    | none => simp [hp] at h
    | some os =>
      obtain ⟨off, size⟩ := os
      simp only [hp] at h
      cases hc : (Nat.beq v.cells.toList.length size && Nat.ble (off + v.cells.toList.length) cs.length) with
      | false => rw [hc] at h; cases h
      | true =>
        rw [hc, cond_true] at h
        simp only [Bool.and_eq_true] at hc
        have h1 := Nat.eq_of_beq_eq_true hc.1
        have h2 := Nat.le_of_ble_eq_true hc.2
        simp only [Array.length_toList] at h1 h2
        have hcond : (decide (v.cells.size ≠ size) || decide (off + v.cells.size > cs.toArray.size)) = false := by
          simp [h1]
          omega
        simp only [hcond, Bool.false_eq_true, if_false]
        have hf := foldl_setL off v.cells.toList 0 cs.toArray
        simp only [Nat.add_zero] at hf
        rw [← ih _ _ h]
        congr 1
        rw [← Array.foldl_toList]
        simp only [Array.toList_zipIdx]
        exact hf
theorem places_eq {P : Program} : ∀ (fs : List Field) (pl : List (Nat × Nat)), placesL P fs = some pl →
    fs.mapM (fun f => (P.info? f.type).map fun i => (f.offset, i.size)) = some pl := by
  intro fs
  induction fs with
  | nil => intro pl h; simp only [placesL, Option.some.injEq] at h; subst h; rfl
  | cons f r ih =>
    intro pl h
    simp only [placesL] at h
    split at h
    · rename_i i l hi hl
      simp only [Option.some.injEq] at h
      subst h
      simp [hi, ih _ hl]
    · cases h
theorem zero_run {P : Program} {t : TypeId} {z : Value} {w : World} (h : (P.info? t).bind (·.zero) = some z) : (zeroValue t).run P w = .ok z w := by
  cases hi : P.info? t with
  | none => simp [hi] at h
  | some i =>
    simp only [hi, Option.bind_some] at h
    simp [zeroValue, run_info hi, h]
theorem vBuild_run {P : Program} {t : TypeId} {parts : List (Nat × Value)} {w : World} {K : Value → World → Prop} (h : vBuild P t parts w K) :
    ∃ v, (Instr.build t parts.toArray).run P w = .ok v w ∧ K v w := by
  unfold vBuild at h
  split at h
  · rename_i z fs hz hu
    split at h
    · rename_i pl hpl
      split at h
      · rename_i l hl
        rw [forceL_eq] at h
        refine ⟨_, ?_, h⟩
        refine run_build w t _ _ ?_
        have hf := fill_eq _ _ _ _ hl
        cases hi : P.info? t with
        | none => simp [hi] at hz
        | some i =>
          simp only [hi, Option.bind_some] at hz
          unfold Program.built
          simp only [hi, hu, hz, places_eq _ _ hpl]
          simpa using hf
      · exact h.elim
    · exact h.elim
  · rename_i z n e hz hu
    split at h
    · rename_i i hi
      split at h
      · rename_i l hl
        rw [forceL_eq] at h
        refine ⟨_, ?_, h⟩
        have hf := fill_eq _ _ _ _ hl
        unfold Instr.build
        rw [Sem.run_bind, zero_run hz, Result.andThen_ok, Sem.run_bind, run_under hu, Result.andThen_ok]
        simp only [sizeOf, Sem.run_bind, run_info hi, Result.andThen_ok, Sem.run_pure]
        simp only [Array.toArray_toList] at hf
        simp [hf]
      · exact h.elim
    · exact h.elim
  · exact h.elim
theorem rep_list (l : List Value) (s : Nat) (hl : l.length = s) (hs : 1 ≤ s) : ∀ n : Nat,
    (List.range (n * s)).map (fun k => l[k % s]!) = (List.replicate n l).flatten
  | 0 => by simp
  | n + 1 => by
    rw [Nat.add_mul, Nat.one_mul, List.range_add, List.map_append, rep_list l s hl hs n, List.replicate_succ', List.flatten_append]
    congr 1
    simp only [List.map_map, List.flatten_cons, List.flatten_nil, List.append_nil]
    apply List.ext_getElem
    · simp [hl]
    · intro i h1 h2
      simp only [List.length_map, List.length_range] at h1
      simp only [List.getElem_map, List.getElem_range, Function.comp]
      have : (n * s + i) % s = i := by rw [Nat.mul_comm, Nat.mul_add_mod, Nat.mod_eq_of_lt h1]
      rw [this]
      simp [h2]
theorem rep_cells (z : Array Value) (n s : Nat) (hl : z.size = s) (hs : 1 ≤ s) :
    (Array.range (n * s)).map (fun k => z[k % z.size]!) = (List.replicate n z.toList).flatten.toArray := by
  rw [← rep_list z.toList s (by simpa using hl) hs n]
  apply Array.ext'
  subst hl
  simp only [Array.toList_map, Array.toList_range]
  refine List.map_congr_left fun k hk => ?_
  have hlt : k % z.size < z.size := Nat.mod_lt _ (by omega)
  simp [hlt]
theorem vBuildSlice_run {P : Program} {t : TypeId} {n : Nat} {parts : List (Nat × Value)} {w : World} {K : Value → World → Prop} (h : vBuildSlice P t n parts w K) :
    ∃ v w', (Instr.buildSlice t n parts.toArray).run P w = .ok v w' ∧ K v w' := by
  unfold vBuildSlice at h
  split at h
  · rename_i e hu
    split at h
    · rename_i i hi
      split at h
      · rename_i z hz
        cases hc : (Nat.beq z.cells.toList.length i.size && Nat.ble 1 i.size && Nat.ble (n * i.size) 16777216) with
        | false => rw [hc] at h; exact h.elim
        | true =>
          rw [hc, cond_true] at h
          simp only [Bool.and_eq_true] at hc
          have h1 := Nat.eq_of_beq_eq_true hc.1.1
          have h2 := Nat.le_of_ble_eq_true hc.1.2
          have h3 := Nat.le_of_ble_eq_true hc.2
          split at h
          · rename_i l hl
            rw [forceL_eq] at h
            refine ⟨_, _, ?_, h⟩
            have hf := fill_eq _ _ _ _ hl
            rw [← rep_cells z.cells n i.size (by simpa using h1) h2] at hf
            have hle : ¬ (n * i.size > 2 ^ 24) := by simpa using h3
            unfold Instr.buildSlice
            rw [Sem.run_bind, run_under hu, Result.andThen_ok]
            simp only [sizeOf, Sem.run_bind, run_info hi, Result.andThen_ok, Sem.run_pure, if_neg hle]
            by_cases h0 : n * i.size = 0
            · have hn : n = 0 := (Nat.mul_eq_zero.1 h0).resolve_right (by omega)
              subst hn
              simp only [Nat.zero_mul, if_true, Sem.run_bind, Sem.run_pure, Result.andThen_ok]
              simp only [Nat.zero_mul] at hf
              have e : (Array.range 0).map (fun x => (#[] : Array Value)[x % (#[] : Array Value).size]!) = (Array.range 0).map (fun x => z.cells[x % z.cells.size]!) := by simp
              rw [e, hf]
              simp [newRow]
            · simp only [if_neg h0, zeroValue, run_info hi, Sem.run_bind, Result.andThen_ok, hz, Sem.run_pure, hf]
              simp [newRow]
          · exact h.elim
      · exact h.elim
    · exact h.elim
  · exact h.elim

theorem zip_parts (ρ : Regs) (parts : Array (Nat × Operand)) :
    ((parts.toList.map (·.1)).zip (parts.toList.map fun p => opd ρ p.2)).toArray = parts.map fun (i, x) => (i, opd ρ x) := by
  apply Array.ext'
  simp only [Array.toList_map]
  induction parts.toList with
  | nil => rfl
  | cons p r ih => simp only [List.map_cons, List.zip_cons_cons, ih]

theorem vOp_did {P : Program} {q : Bool} {o : Oper} {ρ : Regs} {w : World} {K : Value → World → Prop} (h : vOp P q o ρ w K) : Did P q o ρ w K := by
  unfold vOp at h
  cases ho : o.op <;> simp only [ho] at h
  case move x => rw [force_eq] at h; exact did_value (by unfold execOp; simp [ho]) h (fun _ _ => rfl)
  case assign x => rw [force_eq] at h; exact did_value (by unfold execOp; simp [ho]) h (fun _ _ => rfl)
  case pick c a b =>
    split at h
    · rename_i t hc
      split at h
      · rename_i x y ha hb
        refine did_value ?_ h (fun _ _ => rfl)
        unfold execOp
        cases t <;> simp [ho, hc, asBool, ha, hb]
      · cases t with
        | true => exact did_value (by unfold execOp; simp [ho, hc, asBool]) (show K (opd ρ a) w from h) (fun _ _ => rfl)
        | false => exact did_value (by unfold execOp; simp [ho, hc, asBool]) (show K (opd ρ b) w from h) (fun _ _ => rfl)
    · exact h.elim
  case alloc elem =>
    have go : ∀ z, (P.info? elem).bind (·.zero) = some z → K (.pointer (some ⟨w.heap.size, 0, none⟩)) (w.alloc (.cells z.cells elem)) → Did P q o ρ w K := fun z hz h => by
      cases hi : P.info? elem with
      | none => simp [hi] at hz
      | some i =>
        simp only [hi, Option.bind_some] at hz
        refine did_value ?_ h (fun _ e => by simp [quietKind, ho] at e)
        unfold execOp
        simp [ho, Instr.alloc, zeroValue, run_info hi, hz, newVar, newRow]
    split at h
    · rename_i cs hz; exact go _ hz h
    · rename_i z _ hz; exact go _ hz h
    · exact h.elim
  case box elem x =>
    rw [force_eq] at h
    have h' : K (.pointer (some ⟨w.heap.size, 0, none⟩)) (w.alloc (.cells (opd ρ x).cells elem)) := by
      split at h
      · rename_i cs hx; rw [hx]; exact h
      · exact h
    refine did_value ?_ h' (fun _ e => by simp [quietKind, ho] at e)
    unfold execOp
    simp [ho, Instr.box, newVar, newRow]
  case build t parts =>
    rw [forceL_eq] at h
    obtain ⟨v, hr, hk⟩ := vBuild_run h
    rw [zip_parts] at hr
    exact did_value (by unfold execOp; simp only [ho]; exact run_v hr) hk (fun _ _ => rfl)
  case buildSlice t n parts =>
    rw [forceL_eq] at h
    obtain ⟨v, w', hr, hk⟩ := vBuildSlice_run h
    rw [zip_parts] at hr
    exact did_value (by unfold execOp; simp only [ho]; exact run_v hr) hk (fun _ e => by simp [quietKind, ho] at e)
  case load t a =>
    split at h
    · rename_i p hp
      obtain ⟨v, w', hr, hk, hq⟩ := h.un
      refine did_value (w' := w') (v := v) ?_ hk (fun e _ => hq e)
      unfold execOp
      simp only [ho]
      exact run_v (by simp only [Instr.loadAt, hp, Instr.sureAddr, Sem.run_bind, Sem.run_pure, Result.andThen_ok]; exact hr)
    · exact h.elim
  case store t a x =>
    split at h
    · rename_i p hp
      rw [force_eq] at h
      obtain ⟨u, w', hr, hk⟩ := h.un
      refine .inr (.inl ⟨w', ?_, hk, by simp [quietKind, ho]⟩)
      unfold execOp
      simp only [ho]
      exact run_u (u := u) (by simp only [Instr.storeAt, hp, Instr.sureAddr, Sem.run_bind, Sem.run_pure, Result.andThen_ok]; exact hr)
    · exact h.elim
  case nilCheck x =>
    split at h
    · rename_i p hp
      exact did_value (by unfold execOp; simp only [ho, hp]; rfl) h (fun _ _ => rfl)
    · exact h.elim
  case binOp op t x y yt =>
    obtain ⟨v, w', hr, hk, hq⟩ := vBin_run h
    exact did_value (by unfold execOp; simp only [ho]; exact run_v hr) hk (fun e _ => hq e)
  case unOp op t x =>
    obtain ⟨v, w', hr, hk, hq⟩ := vUn_run h
    exact did_value (by unfold execOp; simp only [ho]; exact run_v hr) hk (fun e _ => hq e)
  case convert src dst x =>
    obtain ⟨v, w', hr, hk, hq⟩ := vConv_run h
    exact did_value (by unfold execOp; simp only [ho]; exact run_v hr) hk (fun e _ => hq e)
  case makeFunc fn first captured =>
    simp only [vArgs, forceL_eq] at h
    refine did_value ?_ h (fun _ _ => rfl)
    unfold execOp
    simp [ho, Instr.makeFunc, map_opd']
  case makeMap t r =>
    rw [forceO_eq] at h
    obtain ⟨v, w', hr, hk, hq⟩ := h.un
    exact did_value (by unfold execOp; simp only [ho]; exact run_v hr) hk (fun e _ => hq e)
  case makeSlice t l c =>
    simp only [force_eq] at h
    obtain ⟨v, w', hr, hk, hq⟩ := h.un
    exact did_value (by unfold execOp; simp only [ho]; exact run_v hr) hk (fun e _ => hq e)
  case slice t x lo hi mx =>
    simp only [force_eq, forceO_eq] at h
    obtain ⟨v, w', hr, hk, hq⟩ := h.un
    exact did_value (by unfold execOp; simp only [ho]; exact run_v hr) hk (fun e _ => hq e)
  case fieldAddr s x f =>
    split at h
    · rename_i p hp
      obtain ⟨v, hr, hk⟩ := vFieldAddr_run h
      exact did_value (by unfold execOp; simp only [ho, hp]; exact run_v hr) hk (fun _ _ => rfl)
    · exact h.elim
  case field t x f =>
    split at h
    · rename_i cs hc
      obtain ⟨v, hr, hk⟩ := vField_run h
      exact did_value (by unfold execOp; simp only [ho, hc]; exact run_v hr) hk (fun _ _ => rfl)
    · exact h.elim
  case indexAddr t x i =>
    simp only [force_eq] at h
    obtain ⟨v, w', hr, hk, hq⟩ := h.un
    exact did_value (by unfold execOp; simp only [ho]; exact run_v hr) hk (fun e _ => hq e)
  case index t x i =>
    simp only [force_eq] at h
    obtain ⟨v, w', hr, hk, hq⟩ := h.un
    exact did_value (by unfold execOp; simp only [ho]; exact run_v hr) hk (fun e _ => hq e)
  case lookup t x i ok =>
    simp only [force_eq] at h
    obtain ⟨v, w', hr, hk, hq⟩ := h.un
    exact did_value (by unfold execOp; simp only [ho]; exact run_v hr) hk (fun e _ => hq e)
  case mapUpdate t m k x =>
    simp only [force_eq] at h
    obtain ⟨u, w', hr, hk⟩ := h.un
    exact .inr (.inl ⟨w', by unfold execOp; simp only [ho]; exact run_u (u := u) hr, hk, by simp [quietKind, ho]⟩)
  case range t x =>
    simp only [force_eq] at h
    obtain ⟨v, w', hr, hk, hq⟩ := h.un
    exact did_value (by unfold execOp; simp only [ho]; exact run_v hr) hk (fun e _ => hq e)
  case next it s =>
    simp only [force_eq] at h
    obtain ⟨v, w', hr, hk, hq⟩ := h.un
    exact did_value (by unfold execOp; simp only [ho]; exact run_v hr) hk (fun e _ => hq e)
  case entry it =>
    simp only [force_eq] at h
    obtain ⟨v, w', hr, hk, hq⟩ := h.un
    exact did_value (by unfold execOp; simp only [ho]; exact run_v hr) hk (fun e _ => hq e)
  case extract t i =>
    split at h
    · rename_i vs hv
      split at h
      · rename_i v hi
        have hi' : vs[i]? = some v := by rw [← hi]; simp
        exact did_value (by unfold execOp; simp only [ho, hv]; exact run_v (by simp [Instr.extract, hi'])) h (fun _ _ => rfl)
      · exact h.elim
    · exact h.elim
  case call c => exact vCall_did ho h
  all_goals exact h.elim

end Go.Proofs.YtmhpfadbmpipkaaGreat.Vc
