/- Contracts proved over plain values, for walks over abstract ones. No condition. -/
import Derived.Test.YtmhpfadbmpipkaaGreatAx6
set_option linter.unusedVariables false
set_option linter.unusedSimpArgs false
namespace Go.Proofs.YtmhpfadbmpipkaaGreat.Ax
open Go Go.RowKit Go.Proofs.YtmhpfadbmpipkaaGreat.Vc

theorem sEqI (a b : ByteArray) : sEq a b = true ↔ a = b := by
  unfold sEq
  rw [← MapKept.bytes_beq a b]
  have : (a == b) = (a.toList == b.toList) := by
    rw [Go.ByteArray.toList_eq, Go.ByteArray.toList_eq]
    obtain ⟨⟨x⟩⟩ := a
    obtain ⟨⟨y⟩⟩ := b
    show ((⟨x⟩ : Array UInt8) == ⟨y⟩) = (x == y)
    simp
  rw [this]
theorem sEqD (a b : ByteArray) : sEq a b = decide (a = b) := by
  rw [Bool.eq_iff_iff, sEqI]; simp
theorem map_v_eq {n : Nat} {σ : Nat → Loc} {F : Nat → Prop} {w : World} : ∀ {l vs : List Value}, RepL n σ F w (l.map .v) vs → vs = l := by
  intro l
  induction l with
  | nil => intro vs r; cases vs with
    | nil => rfl
    | cons _ _ => exact r.elim
  | cons x l ih => intro vs r; cases vs with
    | nil => exact r.elim
    | cons v vs => rw [r.1.v_eq, ih r.2]
section
variable {P : Program} {G : Glob}
/-- a function of plain values to plain values -/
theorem afn_of_ret {f : FuncId} {l : List Value} {x : Value} (h : ∀ w, G.holds w → Ret P f l.toArray w fun v w' => v = x ∧ Below w.heap.size w w') : AFn P G f (l.map .v) 0 [] (Is (.v x)) := by
  intro w σ F vs st r
  rw [map_v_eq r]
  refine (h w st.glob).mono fun v w' ⟨e, hB⟩ => ?_
  subst e
  have hE : Ext 0 σ F w 0 σ F w' := ⟨Nat.le_refl _, fun _ _ => rfl, fun b hb => ⟨hb, hB.block b (st.fsub b hb).1⟩, hB.size⟩
  exact ⟨_, 0, σ, F, [], ⟨rfl, rfl, rfl⟩, ⟨Glob.chg st.glob hB.size fun b hb => hB.block b (Nat.lt_of_lt_of_le hb st.glob.1), (Chg.ofBelow0 hB).mono fun _ _ h => h.elim, fun b hb => ⟨Nat.lt_of_lt_of_le (st.fsub b hb).1 hB.size, .inl hb⟩,
    (fun ell b h => by cases h), (fun ell b g h => by cases h), (fun ell ell' b b' g h => by cases h), (fun ell b h => by cases h)⟩, hE, .v _⟩
theorem app_ok {l by_ : Nat} (h : l ≤ 4194304) (h2 : Nat.ble (4194304 * by_) 140737488355328 = true) : l * by_ ≤ 140737488355328 ∧ l ≤ maxLen :=
  ⟨Nat.le_trans (Nat.mul_le_mul_right _ h) (Nat.le_of_ble_eq_true h2), by unfold maxLen; omega⟩
theorem AAr.in {k : IntKind} {x : Int} {K : Int → Prop} (h : k.wrap x = x) (c : K x) : AAr k x K := ⟨by rw [h]; exact c⟩
theorem AAr.i64 {x : Int} {K : Int → Prop} (h : -9223372036854775808 ≤ x ∧ x ≤ 9223372036854775807) (c : K x) : AAr .i64 x K := .in (IntWalk.i64_in _ h) c
theorem AIn.mk' {x : Int} {n : Nat} {K : Nat → Prop} (i : Nat) (e : x = i) (h : i < n) (c : K i) : AIn x n K := ⟨i, e, h, c⟩
theorem ABd.mk' {x y : Int} {n : Nat} {K : Nat → Nat → Prop} (i j : Nat) (e1 : x = i) (e2 : y = j) (h1 : i ≤ j) (h2 : j ≤ n) (c : K i j) : ABd x y n K := ⟨i, j, e1, e2, h1, h2, c⟩
theorem ARd.map {α : Type} {enc : α → List FV} {xs : List α} {i : Nat} {K : List FV → Prop} (h : i < xs.length) (c : K (enc xs[i])) : ARd (xs.map enc) i K := ⟨_, by rw [List.getElem?_map, List.getElem?_eq_getElem h]; rfl, c⟩
theorem ARd.at {l : List (List FV)} {i : Nat} {row : List FV} {K : List FV → Prop} (h : l[i]? = some row) (c : K row) : ARd l i K := ⟨row, h, c⟩
theorem ARd.mapAt {α : Type} {enc : α → List FV} {xs : List α} {i : Nat} {a : α} {K : List FV → Prop} (h : xs[i]? = some a) (c : K (enc a)) : ARd (xs.map enc) i K := ⟨_, by rw [List.getElem?_map, h]; rfl, c⟩
theorem ARd.set {l : List (List FV)} {i : Nat} {row : List FV} {K : List FV → Prop} (h : i < l.length) (c : K row) : ARd (l.set i row) i K := ⟨row, List.getElem?_set_self h, c⟩
theorem AMk.mk' {x y : Int} {by_ : Nat} {K : Nat → Prop} (n : Nat) (e1 : x = n) (e2 : y = n) (h : by_ * n ≤ 140737488355328 ∧ n ≤ maxLen) (c : K n) : AMk x y by_ K := ⟨n, n, e1, e2, Nat.le_refl _, h.1, h.2, c⟩
theorem AMk.cap {x y : Int} {by_ : Nat} {K : Nat → Prop} (n m : Nat) (e1 : x = n) (e2 : y = m) (hnm : n ≤ m) (h : by_ * m ≤ 140737488355328 ∧ m ≤ maxLen) (c : K n) : AMk x y by_ K := ⟨n, m, e1, e2, hnm, h.1, h.2, c⟩
theorem adraw {id : Nat} {ops : Array Oper} {K : ARegs → Nat → AHeap → Prop} {ρ : ARegs} {n : Nat} {H : AHeap} (pl : Nat → Plan) (D : List Nat) (hp : drawOKA ops (pl id) = true) (h : aD P G ops.toList D (pl id) ρ n H K) : ADraw P G id ops K ρ n H := ⟨.inl ⟨pl id, D, hp, h⟩⟩
/-- a drawn region whose end is told: the orders need only show that they come to it -/
theorem adrawC {id : Nat} {ops : Array Oper} {K : ARegs → Nat → AHeap → Prop} {ρ : ARegs} {n : Nat} {H : AHeap} (pl : Nat → Plan) (D : List Nat) (ws : List (Nat × Nat)) (nl : Nat) (sl : List (Nat × AV)) (H' : AHeap) (hp : drawOKA ops (pl id) = true)
    (hw : ((ops.toList.all fun o => match o.dst with | some d => memb ws d | none => true) && Nat.ble n nl && (sl.map (·.1)).all (memb ws)) = true)
    (h : aD P G ops.toList D (pl id) ρ n H fun ρ₁ n₁ H₁ => ARbD (Reb G (memb ws) n ρ₁ n₁ H₁ (aFrm sl ws ρ) nl H')) (k : K (aFrm sl ws ρ) nl H') : ADraw P G id ops K ρ n H := by
  simp only [Bool.and_eq_true] at hw
  refine ⟨.inr ⟨pl id, D, memb ws, aFrm sl ws ρ, nl, H', hp, hw.1.1, Nat.le_of_ble_eq_true hw.1.2, fun s hs => ?_, h, k⟩⟩
  unfold aFrm
  cases hl : aLook sl s with
  | none => simp only [hs, cond_false]
  | some a =>
    have := List.all_eq_true.1 hw.2 s (aLook_mem hl)
    rw [hs] at this
    cases this
/-- an order's end -/
theorem arbD {ws : List (Nat × Nat)} {sl : List (Nat × AV)} {ρ ρ₁ : ARegs} {nb n₁ nl : Nat} {H₁ H' : AHeap} (θ : List (Nat × Src)) (Z : List Nat) (hwf : wfB nb nl θ Z H' = true) (hH : coH H₁ θ Z nb H') (hs : coS H₁ θ Z nb sl ρ₁) : ARbD (Reb G (memb ws) nb ρ₁ n₁ H₁ (aFrm sl ws ρ) nl H') := ⟨reb_of θ Z hwf hH hs⟩
/-- a loop that keeps the heap at its head -/
theorem aloopH {X : Type} {body : Code} {B : (Ex → ARegs → Nat → AHeap → Prop) → ARegs → Nat → AHeap → Prop} {Q : Ex → ARegs → Nat → AHeap → Prop} {ρ : ARegs} {n : Nat} {H : AHeap}
    (ws : List (Nat × Nat)) (ks : List Nat) (sl : X → List (Nat × AV)) (J : X → Prop) (μ : X → Nat) (x₀ : X)
    (hw : (writesIn (memb ws) body && Nat.ble n n && ks.all (memb ws)) = true) (hsl : ∀ x, (sl x).map (·.1) = ks) (hwf : wfB n n [] [] H = true) (hJ : J x₀) (hH : coH H [] [] n H) (hs : coS H [] [] n (sl x₀) ρ)
    (hr : ∀ x, J x → B (aLoopQ (fun ρ'' n'' H'' => ABack (∃ m', m' < μ x ∧ ∃ ρ₁ H₁, LI ws sl (fun _ => H) J μ ρ m' ρ₁ H₁ ∧ Reb G (memb ws) n ρ'' n'' H'' ρ₁ n H₁)) Q) (aFrm (sl x) ws ρ) n H) :
    ALoop G body B Q ρ n H := aloop ws n ks sl (fun _ => H) J μ [] [] x₀ hw hsl hwf hJ hH hs hr
end
end Go.Proofs.YtmhpfadbmpipkaaGreat.Ax
