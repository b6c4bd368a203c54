/- The reckoner's soundness at regions that draw their order; code, loops, whole functions. No condition. -/
import Derived.Test.YthnncehddnfjmaaDoorVc3
set_option linter.unusedVariables false
set_option linter.unusedSimpArgs false
namespace Go.Proofs.YthnncehddnfjmaaDoor.Vc
open Go Go.RowKit

theorem vOp_pure {P : Program} {o : Oper} {ρ : Regs} {w : World} {K : Value → World → Prop} (hp : pureKind o = true) (h : vOp P true o ρ w K) :
    ∃ v, (∀ w', (execOp (opd ρ) o).run P w' = .ok (.value v) w') ∧ K v w := by
  unfold vOp at h
  unfold pureKind at hp
  cases ho : o.op <;> simp only [ho] at h hp <;> try cases hp
  case move x => rw [force_eq] at h; exact ⟨_, fun w' => by unfold execOp; simp [ho], h⟩
  case assign x => rw [force_eq] at h; exact ⟨_, fun w' => by unfold execOp; simp [ho], h⟩
  case makeFunc fn first captured =>
    simp only [vArgs, forceL_eq] at h
    exact ⟨_, fun w' => by unfold execOp; simp [ho, Instr.makeFunc, map_opd'], h⟩
  case nilCheck x =>
    split at h
    · rename_i p hp'
      exact ⟨_, fun w' => by unfold execOp; simp only [ho, hp']; rfl, h⟩
    · exact h.elim
  case extract t i =>
    split at h
    · rename_i vs hv
      split at h
      · rename_i v hi
        have hi' : vs[i]? = some v := by rw [← hi]; simp
        exact ⟨_, fun w' => by unfold execOp; simp only [ho, hv]; exact run_v (by simp [Instr.extract, hi']), h⟩
      · exact h.elim
    · exact h.elim

section
variable {P : Program} {N : Nat} {ds : List Deferred} {W : Nat → Bool} {ops : Array Oper} {K : Regs → World → Prop} {ρ₀ : Regs} {eqm : Bool}
/-- what stands behind a region -/
def RQ (N : Nat) (ds : List Deferred) (W : Nat → Bool) (ρ₀ : Regs) (K : Regs → World → Prop) : Exit → Act → World → Prop
  | .normal, a, w => ∃ ρ', Fits N ds ρ' a ∧ Same W ρ₀ ρ' ∧ K ρ' w
  | _, _, _ => False

theorem wpOp_of {Q : Exit → Act → World → Prop} {i : Nat} {o : Oper} {ρ : Regs} {a : Act} {w : World} {G : Act → World → Prop} {K₁ : Regs → Value → World → Prop} {K₀ : Regs → Prop}
    (hi : ops[i]? = some o) (hf : Fits N ds ρ a) (h : vGuard P false ops.toList o ρ w K₁ K₀)
    (h1 : ∀ v w', K₁ ρ v w' → G (a.put o.dst v) w') (h0 : K₀ ρ → G (a.put o.dst undef) w) : wpOp P ops Q i G a w := by
  unfold Go.wpOp
  simp only [hi]
  rcases vGuard_cases hf h with ⟨hw, hv⟩ | ⟨hw, hv⟩
  · simp only [hw, if_true]
    exact .inl ((vOp_did hv).wp hf.eval fun v w' hk => h1 v w' hk)
  · simp only [hw, Bool.false_eq_true, if_false]
    exact h0 hv

theorem vD_sound (hsel : Region.noSelect ops = true) (hok : ∀ o ∈ ops.toList, opOK N W o = true) (w₀ : World) :
    ∀ (p : Plan) (S : World → Prop) (_ : eqm = true → ∀ w', S w' → w' = w₀) (listed : Array Bool) (ρ : Regs) (a : Act) (w : World), planOK ops p listed = true → Down ops listed → Fits N ds ρ a → Same W ρ₀ ρ → S w →
      vD P ops.toList eqm p S ρ w K → ∀ fuel, p.depth ≤ fuel → wpAnyG P ops (RQ N ds W ρ₀ K) S fuel listed a w := by
  have mem : ∀ {i : Nat} {o : Oper}, ops.toList[i]? = some o → ops[i]? = some o ∧ opOK N W o = true := fun {i o} h =>
    ⟨by rw [← Array.getElem?_toList]; exact h, hok o (List.mem_of_getElem? h)⟩
  have fin : ∀ {S : World → Prop} {listed : Array Bool} {ρ : Regs} {a : Act} {w : World}, Region.ready .any ops listed = [] → Fits N ds ρ a → Same W ρ₀ ρ → K ρ w →
      ∀ fuel, wpAnyG P ops (RQ N ds W ρ₀ K) S fuel listed a w := by
    intro S listed ρ a w hr hf hs h fuel
    cases fuel with
    | zero => exact ⟨hr, ρ, hf, hs, h⟩
    | succ n => exact ⟨fun _ => ⟨ρ, hf, hs, h⟩, by rw [hr]; simp⟩
  intro p
  induction p with
  | done =>
    intro S hS listed ρ a w hp hdn hf hs _ h fuel _
    exact fin (by simpa [planOK] using hp) hf hs h fuel
  | take i p ih =>
    intro S hS listed ρ a w hp hdn hf hs hSw h fuel hfu
    simp only [planOK, Bool.and_eq_true] at hp
    obtain ⟨⟨⟨hq, hr⟩, hfree⟩, hp'⟩ := hp
    simp only [vD] at h
    split at h
    · rename_i o hio
      obtain ⟨hi, ho⟩ := mem hio
      simp only [hi] at hq
      cases fuel with
      | zero => simp [Plan.depth] at hfu
      | succ fuel =>
        have hfu' : p.depth ≤ fuel := by simp only [Plan.depth] at hfu; omega
        have go : ∀ v, YieldsIf P ops S o v a → vD P ops.toList eqm p S (updO ρ o.dst v) w K → wpAnyG P ops (RQ N ds W ρ₀ K) S (fuel + 1) listed a w := fun v hy hv =>
          wpAnyG_first hi (Region.noSelect_spec hsel) (fun c a w hq => hq) fuel listed a w (Region.free_spec hi hfree) hdn (by simpa using hr) hy hSw
            (ih S hS _ _ _ _ hp' (hdn.set (by simpa using hr)) (hf.put o.dst v (opOK_lt ho)) (hs.updO ho) hSw hv fuel hfu')
        rcases vGuard_cases hf h with ⟨hw, hv⟩ | ⟨hw, hv⟩
        · obtain ⟨v, hrun, hk⟩ := (vOp_did hv).quiet hq
          cases hc : (eqm || pureKind o) with
          | true =>
            rw [hc] at hk
            refine go v (.inl ⟨hw, fun w' hw' => ?_⟩) hk
            rw [hf.eval]
            cases he : eqm with
            | true =>
              have e1 := hS he w' hw'
              have e2 := hS he w hSw
              rw [e1, ← e2]; exact hrun
            | false =>
              rw [he, Bool.false_or] at hc
              obtain ⟨u, hu, _⟩ := vOp_pure hc hv
              have : u = v := by have := hu w; rw [hrun] at this; injection this with h1 h2; injection h1 with h1; exact h1.symm
              subst this
              exact hu w'
          | false =>
            rw [hc] at hk
            refine go v (.inl ⟨hw, fun w' hw' => ?_⟩) hk.go
            rw [hf.eval]
            obtain ⟨u, hu, he⟩ := (vOp_did (hk.req w' hw')).quiet hq
            rw [hu, he]
        · exact go undef (.inr ⟨hw, rfl⟩) hv
    · exact h.elim
  | one i p ih =>
    intro S hS listed ρ a w hp hdn hf hs hSw h fuel hfu
    simp only [planOK, Bool.and_eq_true, beq_iff_eq] at hp
    obtain ⟨hr, hp'⟩ := hp
    simp only [vD] at h
    split at h
    · rename_i o hio
      obtain ⟨hi, ho⟩ := mem hio
      cases fuel with
      | zero => simp [Plan.depth] at hfu
      | succ fuel =>
        have hfu' : p.depth ≤ fuel := by simp only [Plan.depth] at hfu; omega
        refine ⟨fun e => (by rw [hr] at e; cases e), fun j hj => ?_⟩
        rw [hr] at hj
        simp only [List.mem_singleton] at hj
        subst hj
        have hdn' := hdn.set (i := j) (by rw [hr]; simp)
        exact wpOp_of hi hf h (fun v w' hk => by
            obtain ⟨S', h1, h2, h3⟩ := hk.ex
            exact ⟨.inr (h1 _ h2), wpAnyG_mono h1 _ _ _ _ (ih S' (fun he u hu => hS he u (h1 u hu)) _ _ _ _ hp' hdn' (hf.put o.dst v (opOK_lt ho)) (hs.updO ho) h2 h3 fuel hfu')⟩)
          (fun hk => ⟨.inr hSw, ih S hS _ _ _ _ hp' hdn' (hf.put o.dst undef (opOK_lt ho)) (hs.updO ho) hSw hk fuel hfu'⟩)
    · exact h.elim
  | two i p j r ihp ihr =>
    intro S hS listed ρ a w hp hdn hf hs hSw h fuel hfu
    simp only [planOK, Bool.and_eq_true, beq_iff_eq] at hp
    obtain ⟨⟨hr, hp'⟩, hr'⟩ := hp
    simp only [vD] at h
    split at h
    · rename_i o o' hio hjo
      obtain ⟨hi, ho⟩ := mem hio
      obtain ⟨hj, ho'⟩ := mem hjo
      obtain ⟨ha, hb⟩ := h
      cases fuel with
      | zero => simp [Plan.depth] at hfu
      | succ fuel =>
        have hfu1 : p.depth ≤ fuel := by simp only [Plan.depth] at hfu; omega
        have hfu2 : r.depth ≤ fuel := by simp only [Plan.depth] at hfu; omega
        refine ⟨fun e => (by rw [hr] at e; cases e), fun k hk => ?_⟩
        rw [hr] at hk
        simp only [List.mem_cons, List.not_mem_nil, or_false] at hk
        rcases hk with rfl | rfl
        · have hdn' := hdn.set (i := k) (by rw [hr]; simp)
          exact wpOp_of hi hf ha (fun v w' hk => by
              obtain ⟨S', h1, h2, h3⟩ := hk.ex
              exact ⟨.inr (h1 _ h2), wpAnyG_mono h1 _ _ _ _ (ihp S' (fun he u hu => hS he u (h1 u hu)) _ _ _ _ hp' hdn' (hf.put o.dst v (opOK_lt ho)) (hs.updO ho) h2 h3 fuel hfu1)⟩)
            (fun hk => ⟨.inr hSw, ihp S hS _ _ _ _ hp' hdn' (hf.put o.dst undef (opOK_lt ho)) (hs.updO ho) hSw hk fuel hfu1⟩)
        · have hdn' := hdn.set (i := k) (by rw [hr]; simp)
          exact wpOp_of hj hf hb (fun v w' hk => by
              obtain ⟨S', h1, h2, h3⟩ := hk.ex
              exact ⟨.inr (h1 _ h2), wpAnyG_mono h1 _ _ _ _ (ihr S' (fun he u hu => hS he u (h1 u hu)) _ _ _ _ hr' hdn' (hf.put o'.dst v (opOK_lt ho')) (hs.updO ho') h2 h3 fuel hfu2)⟩)
            (fun hk => ⟨.inr hSw, ihr S hS _ _ _ _ hr' hdn' (hf.put o'.dst undef (opOK_lt ho')) (hs.updO ho') hSw hk fuel hfu2⟩)
    · exact h.elim
  | three i p j r k q ihp ihr ihq =>
    intro S hS listed ρ a w hp hdn hf hs hSw h fuel hfu
    simp only [planOK, Bool.and_eq_true, beq_iff_eq] at hp
    obtain ⟨⟨⟨hr, hp'⟩, hr'⟩, hq'⟩ := hp
    simp only [vD] at h
    split at h
    · rename_i o o' o'' hio hjo hko
      obtain ⟨hi, ho⟩ := mem hio
      obtain ⟨hj, ho'⟩ := mem hjo
      obtain ⟨hk3, ho''⟩ := mem hko
      obtain ⟨ha, hb, hc⟩ := h
      cases fuel with
      | zero => simp [Plan.depth] at hfu
      | succ fuel =>
        have hfu1 : p.depth ≤ fuel := by simp only [Plan.depth] at hfu; omega
        have hfu2 : r.depth ≤ fuel := by simp only [Plan.depth] at hfu; omega
        have hfu3 : q.depth ≤ fuel := by simp only [Plan.depth] at hfu; omega
        refine ⟨fun e => (by rw [hr] at e; cases e), fun k hk => ?_⟩
        rw [hr] at hk
        simp only [List.mem_cons, List.not_mem_nil, or_false] at hk
        rcases hk with rfl | rfl | rfl
        · have hdn' := hdn.set (i := k) (by rw [hr]; simp)
          exact wpOp_of hi hf ha (fun v w' hk => by
              obtain ⟨S', h1, h2, h3⟩ := hk.ex
              exact ⟨.inr (h1 _ h2), wpAnyG_mono h1 _ _ _ _ (ihp S' (fun he u hu => hS he u (h1 u hu)) _ _ _ _ hp' hdn' (hf.put o.dst v (opOK_lt ho)) (hs.updO ho) h2 h3 fuel hfu1)⟩)
            (fun hk => ⟨.inr hSw, ihp S hS _ _ _ _ hp' hdn' (hf.put o.dst undef (opOK_lt ho)) (hs.updO ho) hSw hk fuel hfu1⟩)
        · have hdn' := hdn.set (i := k) (by rw [hr]; simp)
          exact wpOp_of hj hf hb (fun v w' hk => by
              obtain ⟨S', h1, h2, h3⟩ := hk.ex
              exact ⟨.inr (h1 _ h2), wpAnyG_mono h1 _ _ _ _ (ihr S' (fun he u hu => hS he u (h1 u hu)) _ _ _ _ hr' hdn' (hf.put o'.dst v (opOK_lt ho')) (hs.updO ho') h2 h3 fuel hfu2)⟩)
            (fun hk => ⟨.inr hSw, ihr S hS _ _ _ _ hr' hdn' (hf.put o'.dst undef (opOK_lt ho')) (hs.updO ho') hSw hk fuel hfu2⟩)
        · have hdn' := hdn.set (i := k) (by rw [hr]; simp)
          exact wpOp_of hk3 hf hc (fun v w' hk => by
              obtain ⟨S', h1, h2, h3⟩ := hk.ex
              exact ⟨.inr (h1 _ h2), wpAnyG_mono h1 _ _ _ _ (ihq S' (fun he u hu => hS he u (h1 u hu)) _ _ _ _ hq' hdn' (hf.put o''.dst v (opOK_lt ho'')) (hs.updO ho'') h2 h3 fuel hfu3)⟩)
            (fun hk => ⟨.inr hSw, ihq S hS _ _ _ _ hq' hdn' (hf.put o''.dst undef (opOK_lt ho'')) (hs.updO ho'') hSw hk fuel hfu3⟩)
    · exact h.elim
  | sink i =>
    intro S hS listed ρ a w hp hdn hf hs hSw h fuel hfu
    simp only [planOK, Bool.and_eq_true, beq_iff_eq] at hp
    obtain ⟨⟨hr, hsk⟩, he⟩ := hp
    simp only [vD] at h
    split at h
    · rename_i o hio
      obtain ⟨hi, ho⟩ := mem hio
      cases fuel with
      | zero => simp [Plan.depth] at hfu
      | succ fuel =>
        refine ⟨fun e => (by rw [hr] at e; cases e), fun j hj => ?_⟩
        rw [hr] at hj
        simp only [List.mem_singleton] at hj
        subst hj
        have he' : Region.ready .any ops (listed.setIfInBounds j true) = [] := by simpa using he
        exact wpOp_of hi hf h (fun v w' hk => ⟨.inl hsk, fin he' (hf.put o.dst v (opOK_lt ho)) (hs.updO ho) hk fuel⟩)
          (fun hk => ⟨.inl hsk, fin he' (hf.put o.dst undef (opOK_lt ho)) (hs.updO ho) hk fuel⟩)
    · exact h.elim
  | post i p ih => intro S hS listed ρ a w hp hdn hf hs hSw h; exact (show False from h).elim
end

structure VDraw (P : Program) (id : Nat) (ops : Array Oper) (K : Regs → World → Prop) (ρ : Regs) (w : World) : Prop where
  ex : ∃ (p : Plan) (eqm : Bool) (S : World → Prop), drawOK ops p = true ∧ (eqm = true → ∀ w', S w' → w' = w.drew) ∧ S w.drew ∧ vD P ops.toList eqm p S ρ w.drew K
theorem vdraw {P : Program} {id : Nat} {ops : Array Oper} {K : Regs → World → Prop} {ρ : Regs} {w : World} (p : Plan) (hp : drawOK ops p = true)
    (h : vD P ops.toList true p (fun w' => w' = w.drew) ρ w.drew K) : VDraw P id ops K ρ w :=
  ⟨p, true, _, hp, fun _ _ e => e, rfl, h⟩
theorem vdrawAt {P : Program} {id : Nat} {ops : Array Oper} {K : Regs → World → Prop} {ρ : Regs} {w : World} (pl : Nat → Plan) (hp : drawOK ops (pl id) = true)
    (h : vD P ops.toList true (pl id) (fun w' => w' = w.drew) ρ w.drew K) : VDraw P id ops K ρ w := vdraw (pl id) hp h
theorem vdrawB {P : Program} {id : Nat} {ops : Array Oper} {K : Regs → World → Prop} {ρ : Regs} {w : World} (pl : Nat → Plan) (hp : drawOK ops (pl id) = true)
    (h : vD P ops.toList false (pl id) (fun u => Below w.drew.heap.size w.drew u) ρ w.drew K) : VDraw P id ops K ρ w := ⟨pl id, false, _, hp, (fun e => absurd e (by simp)), Below.refl _ _, h⟩
theorem vdrawSAt {P : Program} {id : Nat} {ops : Array Oper} {K : Regs → World → Prop} {ρ : Regs} {w : World} (pl : Nat → Plan) (hp : drawOK ops (pl id) = true) (S : World → Prop) (hS : S w.drew)
    (h : vD P ops.toList false (pl id) S ρ w.drew K) : VDraw P id ops K ρ w := ⟨pl id, false, S, hp, (fun e => absurd e (by simp)), hS, h⟩
theorem vdrawS {P : Program} {id : Nat} {ops : Array Oper} {K : Regs → World → Prop} {ρ : Regs} {w : World} (p : Plan) (hp : drawOK ops p = true) (S : World → Prop) (hS : S w.drew)
    (h : vD P ops.toList false p S ρ w.drew K) : VDraw P id ops K ρ w :=
  ⟨p, false, S, hp, (fun e => absurd e (by simp)), hS, h⟩
theorem getD_rep (m j : Nat) : (Array.replicate m false).getD j false = false := by
  rw [Array.getD_eq_getD_getElem?]
  by_cases h : j < m <;> simp [h]
theorem VDraw.sound {P : Program} {id : Nat} {N : Nat} {ds : List Deferred} {W : Nat → Bool} {ops : Array Oper} {K : Regs → World → Prop} {ρ ρ₀ : Regs} {a : Act} {w : World}
    (hm : P.follows .mixedOrders = true) (hok : ∀ o ∈ ops.toList, opOK N W o = true) (hf : Fits N ds ρ a) (hs : Same W ρ₀ ρ) (h : VDraw P id ops K ρ w) :
    (Code.region id ops true).wp P (RQ N ds W ρ₀ K) a w := by
  obtain ⟨p, eqm, S, hd, he, hS, hv⟩ := h.ex
  simp only [drawOK, Bool.and_eq_true] at hd
  obtain ⟨⟨hsel, hdep⟩, hp⟩ := hd
  exact wp_region_any hm (wpAny_of_G _ _ _ _ (vD_sound hsel hok w.drew p S he _ ρ a w.drew hp (fun j o _ hl => by rw [getD_rep] at hl; cases hl) hf hs hS hv ops.size (Nat.le_of_ble_eq_true hdep)))

/-! code -/
inductive Ex where
  | normal
  | exit (id : Nat)
  | ret

def codeIn (N : Nat) (W : Nat → Bool) : Code → Bool
  | .region _ ops _ => ops.toList.all (opOK N W)
  | .seq a b => codeIn N W a && codeIn N W b
  | .cond _ a b => codeIn N W a && codeIn N W b
  | .block _ b => codeIn N W b
  | .loop b => codeIn N W b
  | .skip | .exit _ | .ret => true
  | _ => false
def opIn (W : Nat → Bool) (o : Oper) : Bool := match o.dst with | some d => W d | none => true
def writesIn (W : Nat → Bool) : Code → Bool
  | .region _ ops _ => ops.toList.all (opIn W)
  | .seq a b => writesIn W a && writesIn W b
  | .cond _ a b => writesIn W a && writesIn W b
  | .block _ b => writesIn W b
  | .loop b => writesIn W b
  | .skip | .exit _ | .ret => true
  | .rangeFunc _ _ _ _ => true
  | _ => false
theorem codeIn_inter {N : Nat} {W ws : Nat → Bool} : ∀ c : Code, codeIn N W c = true → writesIn ws c = true → codeIn N (fun k => W k && ws k) c = true := by
  intro c
  induction c with
  | region id ops d =>
    intro h1 h2
    simp only [codeIn, writesIn, List.all_eq_true] at *
    intro o ho
    have a1 := h1 o ho
    have a2 := h2 o ho
    unfold opOK at *
    unfold opIn at a2
    cases hd : o.dst with
    | none => rfl
    | some d => simp only [hd, Bool.and_eq_true] at a1 a2 ⊢; exact ⟨a1.1, a1.2, a2⟩
  | seq a b iha ihb => intro h1 h2; simp only [codeIn, writesIn, Bool.and_eq_true] at *; exact ⟨iha h1.1 h2.1, ihb h1.2 h2.2⟩
  | cond c a b iha ihb => intro h1 h2; simp only [codeIn, writesIn, Bool.and_eq_true] at *; exact ⟨iha h1.1 h2.1, ihb h1.2 h2.2⟩
  | block id b ih => intro h1 h2; simp only [codeIn, writesIn] at *; exact ih h1 h2
  | loop b ih => intro h1 h2; simp only [codeIn, writesIn] at *; exact ih h1 h2
  | skip => intro _ _; rfl
  | exit id => intro _ _; rfl
  | ret => intro _ _; rfl
  | _ => intro h1 _; simp [codeIn] at h1

/-! what follows: each names its own Q once, so that a goal's size does not double from level to level -/
def qSeq (V : (Ex → Regs → World → Prop) → Regs → World → Prop) (Q : Ex → Regs → World → Prop) (e : Ex) (ρ : Regs) (w : World) : Prop :=
  match e with
  | .normal => V Q ρ w
  | .exit id => Q (.exit id) ρ w
  | .ret => Q .ret ρ w
def qBlk (id : Nat) (Q : Ex → Regs → World → Prop) (e : Ex) (ρ : Regs) (w : World) : Prop :=
  match e with
  | .normal => Q .normal ρ w
  | .exit j => Q (bif Nat.beq j id then .normal else .exit j) ρ w
  | .ret => Q .ret ρ w
def qLoop (R : Regs → World → Prop) (Q : Ex → Regs → World → Prop) (e : Ex) (ρ : Regs) (w : World) : Prop :=
  match e with
  | .normal => R ρ w
  | .exit id => Q (.exit id) ρ w
  | .ret => Q .ret ρ w
structure VBack (p : Prop) : Prop where
  holds : p
structure VLoop (body : Code) (B : (Ex → Regs → World → Prop) → Regs → World → Prop) (Q : Ex → Regs → World → Prop) (ρ : Regs) (w : World) : Prop where
  ex : ∃ (ws : Nat → Bool) (I : Nat → Regs → World → Prop) (n : Nat), writesIn ws body = true ∧ I n ρ w ∧
    ∀ n ρ' w', I n ρ' w' → Same ws ρ ρ' → B (qLoop (fun ρ'' w'' => VBack (∃ m, m < n ∧ I m ρ'' w'')) Q) ρ' w'

def vC (P : Program) (c : Code) (Q : Ex → Regs → World → Prop) (ρ : Regs) (w : World) : Prop :=
  match c with
  | .skip => Q .normal ρ w
  | .region id ops draw => (match draw with
    | false => vOps P ops.toList ops.toList ρ w (Q .normal)
    | true => VDraw P id ops (Q .normal) ρ w)
  | .seq a b => vC P a (qSeq (vC P b) Q) ρ w
  | .cond c t e => (match opd ρ c with
    | .bool b => vif b (vC P t Q ρ w) (vC P e Q ρ w)
    | _ => False)
  | .block id body => vC P body (qBlk id Q) ρ w
  | .loop body => VLoop body (vC P body) Q ρ w
  | .exit id => Q (.exit id) ρ w
  | .ret => Q .ret ρ w
  | _ => False

def CQ (N : Nat) (ds : List Deferred) (W : Nat → Bool) (ρ₀ : Regs) (Q : Ex → Regs → World → Prop) : Exit → Act → World → Prop
  | .normal, a, w => ∃ ρ', Fits N ds ρ' a ∧ Same W ρ₀ ρ' ∧ Q .normal ρ' w
  | .exit id, a, w => ∃ ρ', Fits N ds ρ' a ∧ Same W ρ₀ ρ' ∧ Q (.exit id) ρ' w
  | .ret, a, w => ∃ ρ', Fits N ds ρ' a ∧ Same W ρ₀ ρ' ∧ Q .ret ρ' w
  | _, _, _ => False

theorem wp_loop_ix {P : Program} {c : Code} {Q : Exit → Act → World → Prop} {a : Act} {w : World} (I : Nat → Act → World → Prop) (n : Nat) (h₀ : I n a w)
    (round : ∀ n a w, I n a w → c.wp P (Exit.then (fun a' w' => ∃ m, m < n ∧ I m a' w') Q) a w) : (Code.loop c).wp P Q a w := by
  intro b k cs
  have key : ∀ n a w, I n a w → ∃ e a' w', Q e a' w' ∧ Arrives P (lone (b.at a (.code c :: .inLoop c :: k)) cs w) b k cs e a' w' := by
    intro n
    induction n using Nat.strongRecOn with
    | _ n ih =>
      intro a w hI
      obtain ⟨e, a₁, w₁, hq, harr⟩ := round n a w hI b (.inLoop c :: k) cs
      cases e with
      | normal =>
        obtain ⟨m, hlt, hI₁⟩ := hq
        obtain ⟨e₂, a₂, w₂, hq₂, harr₂⟩ := ih m hlt a₁ w₁ hI₁
        exact ⟨e₂, a₂, w₂, hq₂, .of_steps (Steps.trans harr (.one step_inLoop)) harr₂⟩
      | exit id => exact ⟨_, a₁, w₁, hq, .pass (x := .inLoop c) rfl (fun _ _ => .inl (by simp)) harr⟩
      | goto l => exact ⟨_, a₁, w₁, hq, .pass (x := .inLoop c) rfl (fun _ _ => .inl (by simp)) harr⟩
      | ret => exact ⟨_, a₁, w₁, hq, .pass (x := .inLoop c) rfl (fun _ _ => .inl (by simp)) harr⟩
      | panic ch => exact ⟨_, a₁, w₁, hq, .pass (x := .inLoop c) rfl (fun _ _ => .inl (by simp)) harr⟩
      | outgrown => exact ⟨_, a₁, w₁, hq, .pass (x := .inLoop c) rfl (fun _ _ => .inl (by simp)) harr⟩
  obtain ⟨e, a', w', hq, harr⟩ := key n a w h₀
  exact ⟨e, a', w', hq, .of_steps (.one step_loop) harr⟩

theorem Same.trans {W : Nat → Bool} {a b c : Regs} (h : Same W a b) (k : Same W b c) : Same W a c := fun n hn => (k n hn).trans (h n hn)
theorem Same.refl (W : Nat → Bool) (a : Regs) : Same W a a := fun _ _ => rfl

theorem vC_sound {P : Program} (hm : P.follows .mixedOrders = true) {N : Nat} {ds : List Deferred} : ∀ (c : Code) (W : Nat → Bool) (Q : Ex → Regs → World → Prop) (ρ ρ₀ : Regs) (a : Act) (w : World),
    codeIn N W c = true → Fits N ds ρ a → Same W ρ₀ ρ → vC P c Q ρ w → c.wp P (CQ N ds W ρ₀ Q) a w := by
  intro c
  induction c with
  | skip => intro W Q ρ ρ₀ a w _ hf hs h; exact wp_skip ⟨ρ, hf, hs, h⟩
  | region id ops draw =>
    intro W Q ρ ρ₀ a w hc hf hs h
    have hok : ∀ o ∈ ops.toList, opOK N W o = true := by simpa only [codeIn, List.all_eq_true] using hc
    have mono : ∀ e a w, RQ N ds W ρ₀ (Q .normal) e a w → CQ N ds W ρ₀ Q e a w := fun e a w hq => by cases e <;> first | exact hq | exact hq.elim
    cases draw with
    | false =>
      refine Go.wp_mono (wp_region ?_) mono
      have hlen : ops.toList.length = ops.size := by simp
      rw [List.range_eq_range', ← hlen]
      exact vOps_sound (K := Q .normal) (Q := RQ N ds W ρ₀ (Q .normal)) (fun ρ' a' w' hf' hs' hk => ⟨ρ', hf', hs', hk⟩) ops.toList 0 ρ a w (fun j => by rw [Nat.zero_add]) hok hf hs h
    | true => exact Go.wp_mono (VDraw.sound hm hok hf hs h) mono
  | seq x y ihx ihy =>
    intro W Q ρ ρ₀ a w hc hf hs h
    simp only [codeIn, Bool.and_eq_true] at hc
    refine wp_seq (Go.wp_mono (ihx W _ ρ ρ₀ a w hc.1 hf hs h) fun e a' w' hq => ?_)
    cases e with
    | normal =>
      obtain ⟨ρ', hf', hs', hv⟩ := hq
      exact ihy W Q ρ' ρ₀ a' w' hc.2 hf' hs' hv
    | exit id => exact hq
    | ret => exact hq
    | goto l => exact hq
    | panic ch => exact hq
    | outgrown => exact hq
  | cond c x y ihx ihy =>
    intro W Q ρ ρ₀ a w hc hf hs h
    simp only [codeIn, Bool.and_eq_true] at hc
    simp only [vC] at h
    split at h
    · rename_i b hb
      refine wp_cond (t := b) (by rw [hf.eval]; exact hb) ?_
      cases b with
      | true => exact ihx W Q ρ ρ₀ a w hc.1 hf hs h
      | false => exact ihy W Q ρ ρ₀ a w hc.2 hf hs h
    · exact h.elim
  | block id b ih =>
    intro W Q ρ ρ₀ a w hc hf hs h
    refine wp_block (Go.wp_mono (ih W _ ρ ρ₀ a w hc hf hs h) fun e a' w' hq => ?_)
    cases e with
    | normal => exact hq
    | exit j =>
      obtain ⟨ρ', hf', hs', hv⟩ := hq
      simp only [qBlk] at hv
      simp only [Exit.inBlock]
      by_cases hj : j = id
      · subst hj
        rw [Nat.beq_refl, cond_true] at hv
        simp only [if_true]
        exact ⟨ρ', hf', hs', hv⟩
      · have hb : Nat.beq j id = false := by
          cases hb : Nat.beq j id with
          | false => rfl
          | true => exact absurd (Nat.eq_of_beq_eq_true hb) hj
        rw [hb, cond_false] at hv
        rw [if_neg hj]
        exact ⟨ρ', hf', hs', hv⟩
    | ret => exact hq
    | goto l => exact hq
    | panic ch => exact hq
    | outgrown => exact hq
  | loop b ih =>
    intro W Q ρ ρ₀ a w hc hf hs h
    obtain ⟨ws, I, n, hw, h₀, hr⟩ := h.ex
    have hc' := codeIn_inter b hc hw
    refine wp_loop_ix (fun n a' w' => ∃ ρ', I n ρ' w' ∧ Fits N ds ρ' a' ∧ Same (fun k => W k && ws k) ρ ρ') n ⟨ρ, h₀, hf, Same.refl _ _⟩ fun n a' w' ⟨ρ', hI, hf', hs'⟩ => ?_
    have hsw : Same ws ρ ρ' := fun k hk => hs' k (by simp [hk])
    refine Go.wp_mono (ih (fun k => W k && ws k) _ ρ' ρ a' w' hc' hf' hs' (hr n ρ' w' hI hsw)) fun e a'' w'' hq => ?_
    have up : ∀ {ρ''}, Same (fun k => W k && ws k) ρ ρ'' → Same W ρ₀ ρ'' := fun h' => hs.trans fun k hk => h' k (by simp [hk])
    cases e with
    | normal =>
      obtain ⟨ρ'', hf'', hs'', ⟨m, hlt, hI'⟩⟩ := hq
      exact ⟨m, hlt, ρ'', hI', hf'', hs''⟩
    | exit id => obtain ⟨ρ'', hf'', hs'', hv⟩ := hq; exact ⟨ρ'', hf'', up hs'', hv⟩
    | ret => obtain ⟨ρ'', hf'', hs'', hv⟩ := hq; exact ⟨ρ'', hf'', up hs'', hv⟩
    | goto l => exact hq
    | panic ch => exact hq
    | outgrown => exact hq
  | exit id => intro W Q ρ ρ₀ a w _ hf hs h; exact Go.wp_exit ⟨ρ, hf, hs, h⟩
  | ret => intro W Q ρ ρ₀ a w _ hf hs h; exact Go.wp_ret ⟨ρ, hf, hs, h⟩
  | _ => intro W Q ρ ρ₀ a w hc; simp [codeIn] at hc

/-! a function -/
structure VEnd (p : Prop) : Prop where
  holds : p
def vRes (P : Program) (rs : List ResultVar) (ρ : Regs) (w : World) (k : List Value → Prop) : Prop :=
  match rs with
  | [] => k []
  | .tmp t :: r => force (ρ t) fun v => vRes P r ρ w fun vs => k (v :: vs)
  | .cell a t :: r => (match ρ a with
    | .pointer (some a) => VSem P (loadVar t a) w (wr true w fun v _ => vRes P r ρ w fun vs => k (v :: vs))
    | _ => False)
def tup (vs : List Value) : Value := match vs with | [v] => v | vs => .tuple vs.toArray
def fin (P : Program) (fn : Func) (R : Value → World → Prop) (e : Ex) (ρ : Regs) (w : World) : Prop :=
  match e with
  | .normal => vRes P fn.results.toList ρ w fun vs => VEnd (R (tup vs) w)
  | .ret => vRes P fn.results.toList ρ w fun vs => VEnd (R (tup vs) w)
  | .exit _ => False
def nth (l : List Value) (n : Nat) : Value :=
  match l, n with
  | [], _ => undef
  | v :: _, 0 => v
  | _ :: r, n + 1 => nth r n
def frame0 (args : Array Value) : Regs := fun n => nth args.toList n

theorem nth_getD (l : List Value) : ∀ n, nth l n = l.getD n undef := by
  induction l with
  | nil => intro n; simp [nth]
  | cons v r ih => intro n; cases n with
    | zero => simp [nth]
    | succ n => simp [nth, ih]

def resOf (tmps : Array Value) (r : ResultVar) : Sem Value :=
  match r with
  | .tmp t => pure (tmps.getD t undef)
  | .cell a t => do loadVar t (← asAddr (tmps.getD a undef))
theorem results_eq (fn : Func) (tmps : Array Value) : results fn tmps = (do
    let vs ← fn.results.mapM (resOf tmps)
    pure (if h : vs.size = 1 then vs[0] else .tuple vs)) := by
  unfold results
  rfl
theorem vRes_run {P : Program} {w : World} {ρ : Regs} {tmps : Array Value} (hg : ∀ t, tmps.getD t undef = ρ t) : ∀ (rs : List ResultVar) (k : List Value → Prop),
    vRes P rs ρ w k → ∃ vs, (rs.mapM (resOf tmps)).run P w = .ok vs w ∧ k vs := by
  intro rs
  induction rs with
  | nil => intro k h; exact ⟨[], by simp, h⟩
  | cons r rs ih =>
    intro k h
    cases r with
    | tmp t =>
      simp only [vRes, force_eq] at h
      obtain ⟨vs, hr, hk⟩ := ih _ h
      refine ⟨_, ?_, hk⟩
      have h1 : (resOf tmps (.tmp t)).run P w = .ok (ρ t) w := by simp only [resOf, hg]; rfl
      rw [List.mapM_cons, Sem.run_bind, h1]
      simp only [Result.andThen_ok, Sem.run_bind, hr, Sem.run_pure]
    | cell a t =>
      simp only [vRes] at h
      split at h
      · rename_i p hp
        obtain ⟨v, hv, hk⟩ := h.same
        obtain ⟨vs, hr, hk⟩ := ih _ hk
        refine ⟨_, ?_, hk⟩
        have h1 : (resOf tmps (.cell a t)).run P w = .ok v w := by
          simp only [resOf, hg, hp, Sem.run_bind]
          have h2 : (asAddr (Value.pointer (some p))).run P w = .ok p w := rfl
          rw [h2, Result.andThen_ok, hv]
        rw [List.mapM_cons, Sem.run_bind, h1]
        simp only [Result.andThen_ok, Sem.run_bind, hr, Sem.run_pure]
      · exact h.elim

theorem calls_of_vc {P : Program} {f : FuncId} {fn : Func} {c : Code} {args : Array Value} {w : World} {R : Value → World → Prop}
    (hf : P.funcs[f]? = some fn) (hb : fn.body = some c) (hm : P.follows .mixedOrders = true) (hN : args.size ≤ fn.ntmps) (hok : codeIn fn.ntmps (fun _ => true) c = true)
    (h : vC P c (fin P fn R) (frame0 args) w) : Calls P f args w fun e w' => ∃ v, e = .returned v ∧ R v w' := by
  refine calls_of_wp hf hb ?_
  have hfit : Fits fn.ntmps [] (frame0 args) { tmps := args ++ Array.replicate (fn.ntmps - args.size) undef, defers := [] } := by
    refine ⟨by simp; omega, fun t => ?_, rfl⟩
    simp only [frame0, nth_getD]
    rw [Array.getD_eq_getD_getElem?, List.getD_eq_getElem?_getD, Array.getElem?_append]
    by_cases ht : t < args.size
    · simp [ht]
    · simp only [ht, if_false, Array.getElem?_toList]
      rw [Array.getElem?_eq_none (Nat.le_of_not_lt ht)]
      by_cases h2 : t - args.size < fn.ntmps - args.size
      · simp [h2]
      · simp [h2]
  refine Go.wp_mono (vC_sound hm c (fun _ => true) _ _ _ _ w hok hfit (Same.refl _ _) h) fun e a' w' hq => ?_
  have res : ∀ {ρ' : Regs}, Fits fn.ntmps [] ρ' a' → (vRes P fn.results.toList ρ' w' fun vs => VEnd (R (tup vs) w')) →
      a'.defers = [] ∧ ∃ v, (results fn a'.tmps).run P w' = .ok v w' ∧ ∃ u, Ending.returned v = .returned u ∧ R u w' := by
    intro ρ' hf' hv
    obtain ⟨vs, hr, hk⟩ := vRes_run hf'.get _ _ hv
    refine ⟨hf'.defers, tup vs, ?_, tup vs, rfl, hk.holds⟩
    rw [results_eq, Sem.run_bind, Array.mapM_eq_mapM_toList, Sem.run_map]
    rw [hr]
    simp only [Result.andThen_ok, Sem.run_pure]
    congr 1
    match vs with
    | [] => rfl
    | [v] => rfl
    | v :: u :: r => simp [tup]
  cases e with
  | normal => obtain ⟨ρ', hf', _, hv⟩ := hq; exact res hf' hv
  | ret => obtain ⟨ρ', hf', _, hv⟩ := hq; exact res hf' hv
  | exit id => obtain ⟨ρ', hf', _, hv⟩ := hq; exact hv.elim
  | goto l => exact hq.elim
  | panic ch => exact hq.elim
  | outgrown => exact hq.elim

/-! the loop's rule for a prover: the slots that hold at the head, what the round writes -/
def look (l : List (Nat × Value)) (n : Nat) : Option Value :=
  match l with
  | [] => none
  | p :: r => bif Nat.beq n p.1 then some p.2 else look r n
/-- a set of slots, as ranges -/
def memb (l : List (Nat × Nat)) (n : Nat) : Bool :=
  match l with
  | [] => false
  | p :: r => bif Nat.ble p.1 n && Nat.ble n p.2 then true else memb r n
def frm (sl : List (Nat × Value)) (ws : List (Nat × Nat)) (j ρ : Regs) : Regs := fun n =>
  match look sl n with
  | some v => v
  | none => bif memb ws n then j n else ρ n
def hold (sl : List (Nat × Value)) (ρ : Regs) : Prop :=
  match sl with
  | [] => True
  | p :: r => ρ p.1 = p.2 ∧ hold r ρ
theorem hold_look {sl : List (Nat × Value)} {ρ : Regs} {n : Nat} {v : Value} (h : hold sl ρ) (hl : look sl n = some v) : ρ n = v := by
  induction sl with
  | nil => cases hl
  | cons p r ih =>
    simp only [look] at hl
    cases hb : Nat.beq n p.1 with
    | true =>
      rw [hb, cond_true] at hl
      rw [Nat.eq_of_beq_eq_true hb]
      injection hl with hl
      rw [← hl]
      exact h.1
    | false => rw [hb, cond_false] at hl; exact ih h.2 hl
theorem frm_eq {sl : List (Nat × Value)} {ws : List (Nat × Nat)} {ρ ρ' : Regs} (h : hold sl ρ') (hs : Same (memb ws) ρ ρ') : ρ' = frm sl ws ρ' ρ := by
  funext n
  unfold frm
  cases hl : look sl n with
  | some v => exact hold_look h hl
  | none =>
    cases hm : memb ws n with
    | true => rfl
    | false => exact hs n hm
theorem vloop {X : Type} {body : Code} {B : (Ex → Regs → World → Prop) → Regs → World → Prop} {Q : Ex → Regs → World → Prop} {ρ : Regs} {w : World}
    (ws : List (Nat × Nat)) (sl : X → List (Nat × Value)) (J : X → World → Prop) (μ : X → Nat) (x₀ : X)
    (hw : writesIn (memb ws) body = true) (h₀ : hold (sl x₀) ρ) (hJ : J x₀ w)
    (hr : ∀ x w' j, J x w' → B (qLoop (fun ρ'' w'' => VBack (∃ m, m < μ x ∧ ∃ x', μ x' = m ∧ hold (sl x') ρ'' ∧ J x' w'')) Q) (frm (sl x) ws j ρ) w') :
    VLoop body B Q ρ w :=
  ⟨memb ws, fun n ρ' w' => ∃ x, μ x = n ∧ hold (sl x) ρ' ∧ J x w', μ x₀, hw, ⟨x₀, rfl, h₀, hJ⟩, fun n ρ' w' ⟨x, hx, hh, hJ'⟩ hs => by
    subst hx
    have h1 := hr x w' ρ' hJ'
    rw [← frm_eq hh hs] at h1
    exact h1⟩
theorem vback {X : Type} {n : Nat} {sl : X → List (Nat × Value)} {J : X → World → Prop} {μ : X → Nat} {ρ : Regs} {w : World} (x' : X) (h : hold (sl x') ρ) (hJ : J x' w) (hlt : μ x' < n) :
    VBack (∃ m, m < n ∧ ∃ x', μ x' = m ∧ hold (sl x') ρ ∧ J x' w) := ⟨μ x', hlt, x', rfl, h, hJ⟩

end Go.Proofs.YthnncehddnfjmaaDoor.Vc
