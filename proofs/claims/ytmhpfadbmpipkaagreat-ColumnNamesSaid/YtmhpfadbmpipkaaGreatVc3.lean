/- The reckoner over regions (in the text's order, and in any order that the edges allow), over code, loops and whole functions, with its soundness. No condition. -/
import Derived.Test.YtmhpfadbmpipkaaGreatVc2
set_option linter.unusedVariables false
set_option linter.unusedSimpArgs false
namespace Go.Proofs.YtmhpfadbmpipkaaGreat.Vc
open Go Go.RowKit

def slotOf (all : List Oper) (g : Nat) : Option Nat := match all[g]? with | some o => o.dst | none => none

def vGuard (P : Program) (q : Bool) (all : List Oper) (o : Oper) (ρ : Regs) (w : World) (K : Regs → Value → World → Prop) (K₀ : Regs → Prop) : Prop :=
  match o.guard with
  | none => vOp P q o ρ w fun v w' => K ρ v w'
  | some (g, want) => (match slotOf all g with
    | some s => (match ρ s with
      | .bool t => vif t
          (bif want then vOp P q o (upd ρ s (.bool true)) w fun v w' => K (upd ρ s (.bool true)) v w' else K₀ (upd ρ s (.bool true)))
          (bif want then K₀ (upd ρ s (.bool false)) else vOp P q o (upd ρ s (.bool false)) w fun v w' => K (upd ρ s (.bool false)) v w')
      | _ => K₀ ρ)
    | none => K₀ ρ)

def vOps (P : Program) (all : List Oper) (l : List Oper) (ρ : Regs) (w : World) (K : Regs → World → Prop) : Prop :=
  match l with
  | [] => K ρ w
  | o :: rest => vGuard P false all o ρ w (fun ρ' v w' => vOps P all rest (updO ρ' o.dst v) w' K) fun ρ' => vOps P all rest (updO ρ' o.dst undef) w K

theorem upd_self {ρ : Regs} {s : Nat} {v : Value} (h : ρ s = v) : upd ρ s v = ρ := by
  funext n
  unfold upd
  cases hb : Nat.beq n s with
  | false => rfl
  | true => rw [Nat.eq_of_beq_eq_true hb]; exact h.symm

theorem yielded_eq {N : Nat} {ρ : Regs} {a : Act} {ops : Array Oper} (hf : Fits N ρ a) (g : Nat) :
    yielded ops a.tmps g = (match slotOf ops.toList g with | some s => (match ρ s with | .bool b => some b | _ => none) | none => none) := by
  unfold yielded slotOf
  rw [← Array.getElem?_toList]
  cases ops.toList[g]? with
  | none => rfl
  | some o =>
    simp only [Option.bind_some]
    cases hd : o.dst with
    | none => rfl
    | some s =>
      simp only [Option.bind_some]
      have h1 := hf.get s
      by_cases hs : s < a.tmps.size
      · simp only [Array.getD, hs, dif_pos] at h1
        rw [Array.getElem?_eq_getElem hs]
        have h2 : a.tmps[s] = ρ s := h1
        rw [h2]
        cases ρ s <;> rfl
      · simp only [Array.getD, hs, dif_neg, not_false_eq_true] at h1
        rw [Array.getElem?_eq_none (Nat.le_of_not_lt hs), ← h1]
        rfl

theorem vGuard_cases {P : Program} {q : Bool} {N : Nat} {ρ : Regs} {a : Act} {ops : Array Oper} {o : Oper} {w : World} {K : Regs → Value → World → Prop} {K₀ : Regs → Prop}
    (hf : Fits N ρ a) (h : vGuard P q ops.toList o ρ w K K₀) :
    (Region.wanted o (yielded ops a.tmps) = true ∧ vOp P q o ρ w fun v w' => K ρ v w') ∨
    (Region.wanted o (yielded ops a.tmps) = false ∧ K₀ ρ) := by
  unfold vGuard at h
  unfold Region.wanted
  split at h
  · rename_i hg; rw [hg]; exact .inl ⟨rfl, h⟩
  · rename_i g want hg
    rw [hg]
    simp only [yielded_eq hf g]
    split at h
    · rename_i s hs
      cases hv : ρ s with
      | bool t =>
        have hu : upd ρ s (.bool t) = ρ := upd_self hv
        rw [hv] at h
        cases t <;> cases want <;> simp only [vif, cond_true, cond_false] at h <;> rw [hu] at h
        · exact .inl ⟨rfl, h⟩
        · exact .inr ⟨rfl, h⟩
        · exact .inr ⟨rfl, h⟩
        · exact .inl ⟨rfl, h⟩
      | _ => rw [hv] at h; exact .inr ⟨rfl, h⟩
    · exact .inr ⟨rfl, h⟩

def opOK (N : Nat) (W : Nat → Bool) (o : Oper) : Bool := match o.dst with | some d => Nat.blt d N && W d | none => true
def Same (W : Nat → Bool) (ρ ρ' : Regs) : Prop := ∀ n, W n = false → ρ' n = ρ n

theorem opOK_lt {N : Nat} {W : Nat → Bool} {o : Oper} (h : opOK N W o = true) : ∀ t, o.dst = some t → t < N := by
  intro t ht
  simp only [opOK, ht, Bool.and_eq_true] at h
  exact Nat.le_of_ble_eq_true h.1
theorem Same.updO {W : Nat → Bool} {N : Nat} {o : Oper} {ρ₀ ρ : Regs} {v : Value} (h : Same W ρ₀ ρ) (ho : opOK N W o = true) : Same W ρ₀ (updO ρ o.dst v) := by
  intro n hn
  cases hd : o.dst with
  | none => exact h n hn
  | some d =>
    simp only [Vc.updO, upd]
    cases hb : Nat.beq n d with
    | false => exact h n hn
    | true =>
      have := Nat.eq_of_beq_eq_true hb
      subst this
      simp only [opOK, hd, Bool.and_eq_true] at ho
      rw [hn] at ho
      exact absurd ho.2 (by simp)

theorem vOps_sound {P : Program} {N : Nat} {W : Nat → Bool} {ops : Array Oper} {Q : Exit → Act → World → Prop} {K : Regs → World → Prop} {ρ₀ : Regs}
    (hK : ∀ ρ' a' w', Fits N ρ' a' → Same W ρ₀ ρ' → K ρ' w' → Q .normal a' w') :
    ∀ (l : List Oper) (k : Nat) (ρ : Regs) (a : Act) (w : World), (∀ j, l[j]? = ops.toList[k + j]?) → (∀ o ∈ l, opOK N W o = true) → Fits N ρ a → Same W ρ₀ ρ →
      vOps P ops.toList l ρ w K → wpOps P ops Q (List.range' k l.length) a w := by
  intro l
  induction l with
  | nil => intro k ρ a w _ _ hf hs h; exact hK _ _ _ hf hs h
  | cons o rest ih =>
    intro k ρ a w hl hok hf hs h
    have ho : ops[k]? = some o := by
      have := hl 0
      simp only [List.getElem?_cons_zero, Nat.add_zero] at this
      rw [← Array.getElem?_toList]; exact this.symm
    have ho1 : opOK N W o = true := hok o (by simp)
    have step : ∀ (v : Value) (w' : World), vOps P ops.toList rest (updO ρ o.dst v) w' K → wpOps P ops Q (List.range' (k + 1) rest.length) (a.put o.dst v) w' := fun v w' hv =>
      ih (k + 1) _ _ _ (fun j => by have := hl (j + 1); simp only [List.getElem?_cons_succ] at this; rw [this]; congr 1; omega) (fun o' ho' => hok o' (by simp [ho']))
        (hf.put o.dst v (opOK_lt ho1)) (hs.updO ho1) hv
    simp only [List.length_cons, List.range'_succ]
    simp only [wpOps, ho]
    rcases vGuard_cases hf h with ⟨hw, hv⟩ | ⟨hw, hv⟩
    · simp only [hw, if_true]
      exact .inl ((vOp_did hv).wp hf.eval fun v w' hk => step v w' hk)
    · simp only [hw, Bool.false_eq_true, if_false]
      exact step undef w hv

/-! regions that draw their order -/
inductive Plan where
  | done
  | take (i : Nat) (p : Plan)
  | one (i : Nat) (p : Plan)
  | two (i : Nat) (p : Plan) (j : Nat) (r : Plan)
  | three (i : Nat) (p : Plan) (j : Nat) (r : Plan) (k : Nat) (q : Plan)
  | sink (i : Nat)
  | post (i : Nat) (p : Plan)

def vPend (pure : Bool) (S : World → Prop) (P : Program) (o : Oper) (ρ : Regs) (v : Value) (k : Prop) : Prop :=
  match pure with
  | true => k
  | false => VPend (∀ w', S w' → vOp P true o ρ w' fun v' _ => v' = v) k
/-- behind an operation that changes the world: what the readings still to come may lean on -/
structure VNext (S : World → Prop) (w : World) (k : (World → Prop) → Prop) : Prop where
  ex : ∃ S' : World → Prop, (∀ u, S' u → S u) ∧ S' w ∧ k S'
theorem VNext.keep {S : World → Prop} {w : World} {k : (World → Prop) → Prop} (h : S w) (hk : k S) : VNext S w k := ⟨S, fun _ h => h, h, hk⟩
theorem VNext.below {w₀ w : World} {k : (World → Prop) → Prop} (h : Below w₀.heap.size w₀ w) (hk : k fun u => Below w.heap.size w u) : VNext (fun u => Below w₀.heap.size w₀ u) w k :=
  ⟨fun u => Below w.heap.size w u, fun _ hu => h.trans (hu.mono h.size), Below.refl _ _, hk⟩

def vD (P : Program) (all : List Oper) (eqm : Bool) (p : Plan) (S : World → Prop) (ρ : Regs) (w : World) (K : Regs → World → Prop) : Prop :=
  match p with
  | .done => K ρ w
  | .take i p => (match all[i]? with
    | some o => vGuard P true all o ρ w (fun ρ' v w' => vPend (eqm || pureKind o) S P o ρ' v (vD P all eqm p S (updO ρ' o.dst v) w' K)) fun ρ' => vD P all eqm p S (updO ρ' o.dst undef) w K
    | none => False)
  | .one i p => (match all[i]? with
    | some o => vGuard P false all o ρ w (fun ρ' v w' => VNext S w' fun S' => vD P all eqm p S' (updO ρ' o.dst v) w' K) fun ρ' => vD P all eqm p S (updO ρ' o.dst undef) w K
    | none => False)
  | .two i p j r => (match all[i]?, all[j]? with
    | some o, some o' =>
      (vGuard P false all o ρ w (fun ρ' v w' => VNext S w' fun S' => vD P all eqm p S' (updO ρ' o.dst v) w' K) fun ρ' => vD P all eqm p S (updO ρ' o.dst undef) w K) ∧
      (vGuard P false all o' ρ w (fun ρ' v w' => VNext S w' fun S' => vD P all eqm r S' (updO ρ' o'.dst v) w' K) fun ρ' => vD P all eqm r S (updO ρ' o'.dst undef) w K)
    | _, _ => False)
  | .three i p j r k q => (match all[i]?, all[j]?, all[k]? with
    | some o, some o', some o'' =>
      (vGuard P false all o ρ w (fun ρ' v w' => VNext S w' fun S' => vD P all eqm p S' (updO ρ' o.dst v) w' K) fun ρ' => vD P all eqm p S (updO ρ' o.dst undef) w K) ∧
      (vGuard P false all o' ρ w (fun ρ' v w' => VNext S w' fun S' => vD P all eqm r S' (updO ρ' o'.dst v) w' K) fun ρ' => vD P all eqm r S (updO ρ' o'.dst undef) w K) ∧
      (vGuard P false all o'' ρ w (fun ρ' v w' => VNext S w' fun S' => vD P all eqm q S' (updO ρ' o''.dst v) w' K) fun ρ' => vD P all eqm q S (updO ρ' o''.dst undef) w K)
    | _, _, _ => False)
  | .sink i => (match all[i]? with
    | some o => vGuard P false all o ρ w (fun ρ' v w' => K (updO ρ' o.dst v) w') fun ρ' => K (updO ρ' o.dst undef) w
    | none => False)
  | .post _ _ => False

/-- what an operation waits for, directly or through others -/
inductive Anc (ops : Array Oper) (i : Nat) : Nat → Prop
  | one {o : Oper} {e : Edge} (h : ops[i]? = some o) (he : e ∈ o.after) (hb : Region.binds .any e = true) : Anc ops i e.on
  | more {j : Nat} {o : Oper} {e : Edge} (ha : Anc ops i j) (h : ops[j]? = some o) (he : e ∈ o.after) (hb : Region.binds .any e = true) : Anc ops i e.on
def preds (ops : Array Oper) (i : Nat) : List Nat :=
  match ops[i]? with
  | some o => (o.after.toList.filter fun e => Region.binds .any e).map (·.on)
  | none => []
def addAll (l m : List Nat) : List Nat := m.foldl (fun acc x => if acc.contains x then acc else x :: acc) l
def clos (ops : Array Oper) : Nat → List Nat → List Nat
  | 0, l => l
  | n + 1, l => clos ops n (l.foldl (fun acc j => addAll acc (preds ops j)) l)
theorem mem_preds {ops : Array Oper} {i k : Nat} (h : k ∈ preds ops i) : ∃ o e, ops[i]? = some o ∧ e ∈ o.after ∧ Region.binds .any e = true ∧ e.on = k := by
  unfold preds at h
  split at h
  · rename_i o ho
    simp only [List.mem_map, List.mem_filter] at h
    obtain ⟨e, ⟨he, hb⟩, hk⟩ := h
    exact ⟨o, e, ho, by simpa using he, hb, hk⟩
  · cases h
theorem mem_addAll {k : Nat} : ∀ (m l : List Nat), k ∈ addAll l m → k ∈ l ∨ k ∈ m := by
  intro m
  induction m with
  | nil => intro l h; exact .inl h
  | cons x r ih =>
    intro l h
    rcases ih _ h with h | h
    · simp only at h
      split at h
      · exact .inl h
      · rcases List.mem_cons.1 h with rfl | h
        · exact .inr (by simp)
        · exact .inl h
    · exact .inr (by simp [h])
theorem mem_grow {ops : Array Oper} {k : Nat} : ∀ (m l : List Nat), k ∈ m.foldl (fun acc j => addAll acc (preds ops j)) l → k ∈ l ∨ ∃ j ∈ m, k ∈ preds ops j := by
  intro m
  induction m with
  | nil => intro l h; exact .inl h
  | cons x r ih =>
    intro l h
    rcases ih _ h with h | ⟨j, hj, hk⟩
    · rcases mem_addAll _ _ h with h | h
      · exact .inl h
      · exact .inr ⟨x, by simp, h⟩
    · exact .inr ⟨j, by simp [hj], hk⟩
theorem clos_anc {ops : Array Oper} {i k : Nat} : ∀ (n : Nat) (l : List Nat), (∀ x ∈ l, Anc ops i x) → k ∈ clos ops n l → Anc ops i k := by
  intro n
  induction n with
  | zero => intro l h hk; exact h k hk
  | succ n ih =>
    intro l h hk
    refine ih _ (fun x hx => ?_) hk
    rcases mem_grow _ _ hx with hx | ⟨j, hj, hx⟩
    · exact h x hx
    · obtain ⟨o, e, ho, he, hb, rfl⟩ := mem_preds hx
      exact .more (h j hj) ho he hb
/-- an operation that waits for every other one -/
def sinkAt (ops : Array Oper) (i : Nat) : Bool :=
  (List.range ops.size).all fun j => j == i || (clos ops ops.size (preds ops i)).contains j
theorem sinkAt_anc {ops : Array Oper} {i j : Nat} (h : sinkAt ops i = true) (hj : j < ops.size) (hne : j ≠ i) : Anc ops i j := by
  simp only [sinkAt, List.all_eq_true, List.mem_range, Bool.or_eq_true, beq_iff_eq] at h
  rcases h j hj with e | e
  · exact absurd e hne
  · refine clos_anc ops.size (preds ops i) (fun x hx => ?_) (by simpa using e)
    obtain ⟨o, e, ho, he, hb, rfl⟩ := mem_preds hx
    exact .one ho he hb
def Down (ops : Array Oper) (listed : Array Bool) : Prop :=
  ∀ j o, ops[j]? = some o → listed.getD j false = true → ∀ e ∈ o.after, Region.binds .any e = true → listed.getD e.on false = true
theorem Down.set {ops : Array Oper} {listed : Array Bool} {i : Nat} (h : Down ops listed) (hi : i ∈ Region.ready .any ops listed) : Down ops (listed.setIfInBounds i true) := by
  intro j o ho hl e he hb
  by_cases hji : i = j
  · subst hji
    obtain ⟨_, o', ho', hall⟩ := mem_ready.1 hi
    rw [ho] at ho'
    injection ho' with ho'
    subst ho'
    exact getD_set_true (hall e he hb)
  · rw [getD_set_ne false hji] at hl
    exact getD_set_true (h j o ho hl e he hb)
theorem Down.anc {ops : Array Oper} {listed : Array Bool} {i k : Nat} (h : Down ops listed) (hi : i ∈ Region.ready .any ops listed) (ha : Anc ops i k) : listed.getD k false = true := by
  induction ha with
  | one ho he hb =>
    obtain ⟨_, o', ho', hall⟩ := mem_ready.1 hi
    rw [ho] at ho'
    injection ho' with ho'
    subst ho'
    exact hall _ he hb
  | more ha ho he hb ih => exact h _ _ ho ih _ he hb
def planOK (ops : Array Oper) : Plan → Array Bool → Bool
  | .done, listed => (Region.ready .any ops listed).isEmpty
  | .take i p, listed => (match ops[i]? with | some o => quietKind o | none => false) && (Region.ready .any ops listed).contains i && Region.free .any ops listed i && planOK ops p (listed.setIfInBounds i true)
  | .one i p, listed => (Region.ready .any ops listed == [i]) && planOK ops p (listed.setIfInBounds i true)
  | .two i p j r, listed => (Region.ready .any ops listed == [i, j]) && planOK ops p (listed.setIfInBounds i true) && planOK ops r (listed.setIfInBounds j true)
  | .three i p j r k q, listed => (Region.ready .any ops listed == [i, j, k]) && planOK ops p (listed.setIfInBounds i true) && planOK ops r (listed.setIfInBounds j true) && planOK ops q (listed.setIfInBounds k true)
  | .sink i, listed => (Region.ready .any ops listed == [i]) && sinkAt ops i && (Region.ready .any ops (listed.setIfInBounds i true)).isEmpty
  | .post i p, listed => (Region.ready .any ops listed == [i]) && planOK ops p (listed.setIfInBounds i true)

def Plan.depth : Plan → Nat
  | .done => 0
  | .take _ p => p.depth + 1
  | .one _ p => p.depth + 1
  | .two _ p _ r => max p.depth r.depth + 1
  | .three _ p _ r _ q => max (max p.depth r.depth) q.depth + 1
  | .sink _ => 1
  | .post _ p => p.depth + 1
def drawOK (ops : Array Oper) (p : Plan) : Bool := Region.noSelect ops && Nat.ble p.depth ops.size && planOK ops p (Array.replicate ops.size false)

section
variable {P : Program} {ops : Array Oper} {Q : Exit → Act → World → Prop} {S : World → Prop}
/-- Whatever order is picked from here on, and S holds behind every operation but one that waits for all others. -/
def wpAnyG (P : Program) (ops : Array Oper) (Q : Exit → Act → World → Prop) (S : World → Prop) : Nat → Array Bool → Act → World → Prop
  | 0, listed, a, w => Region.ready .any ops listed = [] ∧ Q .normal a w
  | fuel + 1, listed, a, w =>
    (Region.ready .any ops listed = [] → Q .normal a w) ∧
    ∀ i ∈ Region.ready .any ops listed, wpOp P ops Q i (fun a' w' => (sinkAt ops i = true ∨ S w') ∧ wpAnyG P ops Q S fuel (listed.setIfInBounds i true) a' w') a w
theorem wpAny_of_G : ∀ (fuel : Nat) (listed : Array Bool) (a : Act) (w : World), wpAnyG P ops Q S fuel listed a w → wpAny P .any ops Q fuel listed a w
  | 0, _, _, _, h => h
  | fuel + 1, _, _, _, h => ⟨h.1, fun i hi => wpOp_mono (fun a' w' h' => wpAny_of_G fuel _ a' w' h'.2) (h.2 i hi)⟩
theorem wpAnyG_mono {S' : World → Prop} (h : ∀ u, S' u → S u) : ∀ (fuel : Nat) (listed : Array Bool) (a : Act) (w : World), wpAnyG P ops Q S' fuel listed a w → wpAnyG P ops Q S fuel listed a w
  | 0, _, _, _, hh => hh
  | fuel + 1, _, _, _, hh => ⟨hh.1, fun i hi => wpOp_mono (fun a' w' h' => ⟨h'.1.imp id (h w'), wpAnyG_mono h fuel _ a' w' h'.2⟩) (hh.2 i hi)⟩
theorem wpAnyG_first {i : Nat} {oi : Oper} {v : Value} (hi : ops[i]? = some oi) (hsel : ∀ (j : Nat) (o : Oper) cs b, ops[j]? = some o → o.op ≠ .select cs b)
    (hQ : ∀ c a w, Q (.panic c) (a.put oi.dst v) w → Q (.panic c) a w) :
    ∀ (fuel : Nat) (listed : Array Bool) (a : Act) (w : World),
      (∀ j oj, ops[j]? = some oj → j ≠ i → listed.getD j true = false → (∀ e ∈ oj.after, Region.binds .any e = true → e.on ≠ i) → oi.apart ops oj = true) →
      Down ops listed → i ∈ Region.ready .any ops listed → YieldsIf P ops S oi v a → S w →
      wpAnyG P ops Q S fuel (listed.setIfInBounds i true) (a.put oi.dst v) w → wpAnyG P ops Q S (fuel + 1) listed a w := by
  intro fuel
  induction fuel with
  | zero =>
    intro listed a w _ _ hr hy hS H
    refine ⟨fun h => (by rw [h] at hr; cases hr), fun j hj => ?_⟩
    by_cases hji : j = i
    · subst hji; exact hy.wpOp hi hS ⟨.inr hS, H⟩
    · have := ready_mono hj hji
      rw [H.1] at this
      cases this
  | succ fuel ih =>
    intro listed a w hfree hdown hr hy hS H
    refine ⟨fun h => (by rw [h] at hr; cases hr), fun j hj => ?_⟩
    by_cases hji : j = i
    · subst hji; exact hy.wpOp hi hS ⟨.inr hS, H⟩
    · have h1 := H.2 j (ready_mono hj hji)
      obtain ⟨hjun, oj, hoj, hall⟩ := mem_ready.1 hj
      have hnot : ∀ e ∈ oj.after, Region.binds .any e = true → e.on ≠ i := fun e he hb heq => by
        have h1 := hall e he hb
        have h0 := (mem_ready.1 hr).1
        rw [heq] at h1
        rcases Nat.lt_or_ge i listed.size with h' | h'
        · simp [h'] at h0 h1; rw [h0] at h1; cases h1
        · simp [Array.getElem?_eq_none h'] at h1
      have h2 := wpOp_putIf hoj (hfree j oj hoj hji hjun hnot) (fun cs b => hsel i oi cs b hi) (fun cs b => hsel j oj cs b hoj) hQ hy h1
      have hfree' : ∀ k ok, ops[k]? = some ok → k ≠ i → (listed.setIfInBounds j true).getD k true = false →
          (∀ e ∈ ok.after, Region.binds .any e = true → e.on ≠ i) → oi.apart ops ok = true := fun k ok hk hki hun hno => by
        refine hfree k ok hk hki ?_ hno
        by_cases hjk : j = k
        · subst hjk; exact hjun
        · rw [getD_set_ne true hjk] at hun; exact hun
      have hri : i ∈ Region.ready .any ops (listed.setIfInBounds j true) := ready_mono hr (Ne.symm hji)
      have hilt : i < ops.size := (Array.getElem?_eq_some_iff.1 hi).1
      have hns : sinkAt ops j = true → False := fun hsk => by
        have h1 := hdown.anc hj (sinkAt_anc hsk hilt (Ne.symm hji))
        have h0 := (mem_ready.1 hr).1
        rcases Nat.lt_or_ge i listed.size with h' | h'
        · simp [h'] at h0 h1; rw [h0] at h1; cases h1
        · simp [Array.getElem?_eq_none h'] at h1
      refine wpOp_mono (fun a' w' h3 => ?_) h2
      have hSw : S w' := h3.2.1.resolve_left hns
      refine ⟨.inr hSw, ih (listed.setIfInBounds j true) a' w' hfree' (hdown.set hj) hri h3.1 hSw ?_⟩
      rw [Array.setIfInBounds_comm _ _ hji]
      exact h3.2.2
end

end Go.Proofs.YtmhpfadbmpipkaaGreat.Vc
