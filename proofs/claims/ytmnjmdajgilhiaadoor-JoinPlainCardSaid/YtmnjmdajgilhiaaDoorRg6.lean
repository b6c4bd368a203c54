/- Walks of iterators: the reckoner over worlds with a rule for yield. No condition. A closure whose variables change no more. No condition. A contract over no variables of the program holds over any; loops over iterators for a prover. No condition. -/
import Derived.Test.YtmnjmdajgilhiaaDoorRg3
set_option linter.unusedVariables false
set_option linter.unusedSimpArgs false
namespace Go.Proofs.YtmnjmdajgilhiaaDoor.Ax
open Go Go.RowKit Go.Proofs.YtmnjmdajgilhiaaDoor.Vc

/-- the loop's body is run with these values -/
structure VYield (P : Program) (l : Nat) (args : Array Value) (w : World) (K : Value → World → Prop) : Prop where
  runs : YieldAt (Fen none) 0 P l args w fun e w' => ∃ v, e = .returned v ∧ K v w'
def vOpY (P : Program) (o : Oper) (ρ : Regs) (w : World) (K : Value → World → Prop) : Prop :=
  match o.op with
  | .call c => (match c.callee with
    | .value f => (match opd ρ f with
      | .func (.yield l) first _ => VYield P l (first.toList ++ c.args.toList.map (opd ρ)).toArray w K
      | _ => vOp P false o ρ w K)
    | _ => vOp P false o ρ w K)
  | _ => vOp P false o ρ w K
def vGuardY (P : Program) (all : List Oper) (o : Oper) (ρ : Regs) (w : World) (K : Regs → Value → World → Prop) (K₀ : Regs → Prop) : Prop :=
  match o.guard with
  | none => vOpY P o ρ w fun v w' => K ρ v w'
  | some (g, want) => (match slotOf all g with
    | some s => (match ρ s with
      | .bool t => vif t
          (bif want then vOpY P o (upd ρ s (.bool true)) w fun v w' => K (upd ρ s (.bool true)) v w' else K₀ (upd ρ s (.bool true)))
          (bif want then K₀ (upd ρ s (.bool false)) else vOpY P o (upd ρ s (.bool false)) w fun v w' => K (upd ρ s (.bool false)) v w')
      | _ => K₀ ρ)
    | none => K₀ ρ)
def vOpsY (P : Program) (all : List Oper) (l : List Oper) (ρ : Regs) (w : World) (K : Regs → World → Prop) : Prop :=
  match l with
  | [] => K ρ w
  | o :: rest => vGuardY P all o ρ w (fun ρ' v w' => vOpsY P all rest (updO ρ' o.dst v) w' K) fun ρ' => vOpsY P all rest (updO ρ' o.dst undef) w K
section
variable {P : Program}
theorem vOpY_in {o : Oper} {ρ : Regs} {a : Act} {w : World} {K : Value → World → Prop} {next : Act → World → Prop} {Q : Exit → Act → World → Prop} (hd : noDefer o = true) (he : a.eval = opd ρ) (h : vOpY P o ρ w K) (hk : ∀ v w', K v w' → next (a.put o.dst v) w') : o.wpIn (Fen none) 0 P a w next Q := by
  have plain : vOp P false o ρ w K → o.wpIn (Fen none) 0 P a w next Q := fun h => wp_toIn (Q := Q) hd (fun _ _ h => h) ((vOp_did h).wp he hk)
  unfold vOpY at h
  split at h
  · rename_i c ho
    split at h
    · rename_i f hc
      split at h
      · rename_i l first cap hf
        obtain ⟨fn, tmps, assign, body, hy, hR⟩ := h.runs
        refine ⟨fun _ _ => trivial, ?_⟩
        have e : o.semAt (Fen none).round a.eval = execOp a.eval o := Oper.semAt_plain (Fen none) _ o (noDefer_ne hd)
        rw [e, he]
        have ea : (first.toList ++ c.args.toList.map (opd ρ)).toArray = first ++ c.args.map (opd ρ) := by apply Array.ext'; simp
        rw [ea] at hy
        have hrun : (execOp (opd ρ) o).run P w = .ok (.round l fn tmps assign body) w := by
          simp only [execOp, ho, resolve, hc, hf]
          simp [go_sem, Deferred.ofValue, invoke, hy]
        rw [hrun]
        exact ⟨fun h => (by cases h), RoundIn.mono hR fun e w' ⟨v, hv, k⟩ => by subst hv; exact hk _ _ k⟩
      · exact plain h
    · exact plain h
  · exact plain h
theorem vGuardY_cases {N : Nat} {ds : List Deferred} {ρ : Regs} {a : Act} {ops : Array Oper} {o : Oper} {w : World} {K : Regs → Value → World → Prop} {K₀ : Regs → Prop}
    (hf : Fits N ds ρ a) (h : vGuardY P ops.toList o ρ w K K₀) :
    (Region.wanted o (yielded ops a.tmps) = true ∧ vOpY P o ρ w fun v w' => K ρ v w') ∨
    (Region.wanted o (yielded ops a.tmps) = false ∧ K₀ ρ) := by
  unfold vGuardY at h
  unfold Region.wanted
  split at h
  · rename_i hg; rw [hg]; exact .inl ⟨rfl, h⟩
  · rename_i g want hg
    rw [hg]
    simp only [yielded_eq hf g]
    split at h
    · rename_i s hs
      simp only [hs]
      cases hv : ρ s with
      | bool t =>
        have hu : upd ρ s (.bool t) = ρ := upd_self hv
        rw [hv] at h
        cases t <;> cases want <;> simp only [vif, cond_true, cond_false] at h <;> rw [hu] at h
        · exact .inl ⟨rfl, h⟩
        · exact .inr ⟨rfl, h⟩
        · exact .inr ⟨rfl, h⟩
        · exact .inl ⟨rfl, h⟩
      | _ => rw [hv] at h; exact .inr ⟨rfl, h⟩
    · rename_i hs; simp only [hs]; exact .inr ⟨rfl, h⟩
theorem vOpsY_sound {N : Nat} {ds : List Deferred} {W : Nat → Bool} {ops : Array Oper} {Q : Exit → Act → World → Prop} {K : Regs → World → Prop} {ρ₀ : Regs}
    (hK : ∀ ρ' a' w', Fits N ds ρ' a' → Same W ρ₀ ρ' → K ρ' w' → Q .normal a' w') :
    ∀ (l : List Oper) (k : Nat) (ρ : Regs) (a : Act) (w : World), (∀ j, l[j]? = ops.toList[k + j]?) → (∀ o ∈ l, opOK N W o = true ∧ noDefer o = true) → Fits N ds ρ a → Same W ρ₀ ρ →
      vOpsY P ops.toList l ρ w K → wpOpsIn (Fen none) 0 P ops Q (List.range' k l.length) a w := by
  intro l
  induction l with
  | nil => intro k ρ a w _ _ hf hs h; exact hK _ _ _ hf hs h
  | cons o rest ih =>
    intro k ρ a w hl hok hf hs h
    have ho : ops[k]? = some o := by
      have := hl 0
      simp only [List.getElem?_cons_zero, Nat.add_zero] at this
      rw [← Array.getElem?_toList]; exact this.symm
    obtain ⟨ho1, ho2⟩ := hok o (by simp)
    have step : ∀ (v : Value) (w' : World), vOpsY P ops.toList rest (updO ρ o.dst v) w' K → wpOpsIn (Fen none) 0 P ops Q (List.range' (k + 1) rest.length) (a.put o.dst v) w' := fun v w' hv =>
      ih (k + 1) _ _ _ (fun j => by have := hl (j + 1); simp only [List.getElem?_cons_succ] at this; rw [this]; congr 1; omega) (fun o' ho' => hok o' (by simp [ho']))
        (hf.put o.dst v (opOK_lt ho1)) (hs.updO ho1) hv
    simp only [List.length_cons, List.range'_succ]
    simp only [wpOpsIn, ho]
    rcases vGuardY_cases hf h with ⟨hw, hv⟩ | ⟨hw, hv⟩
    · simp only [hw, if_true]
      exact vOpY_in ho2 hf.eval hv step
    · simp only [hw, Bool.false_eq_true, if_false]
      exact ⟨fun _ _ => trivial, step undef w hv⟩
def vY (P : Program) (c : Code) (Q : Ex → Regs → World → Prop) (ρ : Regs) (w : World) : Prop :=
  match c with
  | .skip => Q .normal ρ w
  | .region id ops draw => (match draw with
    | false => vOpsY P ops.toList ops.toList ρ w (Q .normal)
    | true => VDraw P id ops (Q .normal) ρ w)
  | .seq a b => vY P a (qSeq (vY P b) Q) ρ w
  | .cond c t e => (match opd ρ c with
    | .bool b => vif b (vY P t Q ρ w) (vY P e Q ρ w)
    | _ => False)
  | .block id body => vY P body (qBlk id Q) ρ w
  | .loop body => VLoop body (vY P body) Q ρ w
  | .exit id => Q (.exit id) ρ w
  | .ret => Q .ret ρ w
  | _ => False
theorem VDraw.soundIn {id : Nat} {N : Nat} {ds : List Deferred} {W : Nat → Bool} {ops : Array Oper} {K : Regs → World → Prop} {ρ ρ₀ : Regs} {a : Act} {w : World} {r : Option Nat}
    (hm : P.follows .mixedOrders = true) (hok : ∀ o ∈ ops.toList, opOK N W o = true) (hnd : ∀ (i : Nat) (o : Oper), ops[i]? = some o → noDefer o = true) (hf : Fits N ds ρ a) (hs : Same W ρ₀ ρ) (h : VDraw P id ops K ρ w) :
    (Code.region id ops true).wpIn (Fen r) 0 P (RQ N ds W ρ₀ K) a w := by
  obtain ⟨p, eqm, S, hd, he, hS, hv⟩ := h.ex
  simp only [drawOK, Bool.and_eq_true] at hd
  obtain ⟨⟨hsel, hdep⟩, hp⟩ := hd
  exact wpIn_region_any hm (any_toIn (fun ⟨_, _, h⟩ => h) hnd _ _ _ _ (wpAny_of_G _ _ _ _ (vD_sound hsel hok w.drew p S he _ ρ a w.drew hp (fun j o _ hl => by rw [getD_rep] at hl; cases hl) hf hs hS hv ops.size (Nat.le_of_ble_eq_true hdep))))
theorem vY_sound (hm : P.follows .mixedOrders = true) {N : Nat} : ∀ (c : Code) (W : Nat → Bool) (Q : Ex → Regs → World → Prop) (ρ ρ₀ : Regs) (a : Act) (w : World),
    codeY false N W c = true → Fits N [] ρ a → Same W ρ₀ ρ → vY P c Q ρ w → c.wpIn (Fen none) 0 P (CQ N [] W ρ₀ Q) a w := by
  intro c
  induction c with
  | skip => intro W Q ρ ρ₀ a w _ hf hs h; exact wpIn_skip ⟨ρ, hf, hs, h⟩
  | region id ops draw =>
    intro W Q ρ ρ₀ a w hc hf hs h
    have hok0 : ∀ o ∈ ops.toList, (opOK N W o = true ∧ hiOK o = true) ∧ noDefer o = true := by simpa only [codeY, List.all_eq_true, Bool.and_eq_true] using hc
    have hok : ∀ o ∈ ops.toList, opOK N W o = true := fun o ho => (hok0 o ho).1.1
    have hnd : ∀ (i : Nat) (o : Oper), ops[i]? = some o → noDefer o = true := fun i o ho => (hok0 o (by rw [← Array.getElem?_toList] at ho; exact List.mem_of_getElem? ho)).2
    have mono : ∀ e a w, RQ N [] W ρ₀ (Q .normal) e a w → CQ N [] W ρ₀ Q e a w := fun e a w hq => by cases e <;> first | exact hq | exact hq.elim
    cases draw with
    | false =>
      refine Go.wpIn_mono (wpIn_region ?_) mono
      have hlen : ops.toList.length = ops.size := by simp
      rw [List.range_eq_range', ← hlen]
      exact vOpsY_sound (K := Q .normal) (Q := RQ N [] W ρ₀ (Q .normal)) (fun ρ' a' w' hf' hs' hk => ⟨ρ', hf', hs', hk⟩) ops.toList 0 ρ a w (fun j => by rw [Nat.zero_add]) (fun o ho => ⟨hok o ho, (hok0 o ho).2⟩) hf hs h
    | true => exact Go.wpIn_mono (VDraw.soundIn hm hok hnd hf hs h) mono
  | seq x y ihx ihy =>
    intro W Q ρ ρ₀ a w hc hf hs h
    simp only [codeY, Bool.and_eq_true] at hc
    refine wpIn_seq (Go.wpIn_mono (ihx W _ ρ ρ₀ a w hc.1 hf hs h) fun e a' w' hq => ?_)
    cases e with
    | normal =>
      obtain ⟨ρ', hf', hs', hv⟩ := hq
      exact ihy W Q ρ' ρ₀ a' w' hc.2 hf' hs' hv
    | exit id => exact hq
    | ret => exact hq
    | goto l => exact hq
    | panic ch => exact hq
    | outgrown => exact hq
  | cond c x y ihx ihy =>
    intro W Q ρ ρ₀ a w hc hf hs h
    simp only [codeY, Bool.and_eq_true] at hc
    simp only [vY] at h
    split at h
    · rename_i b hb
      refine wpIn_cond (t := b) (by rw [hf.eval]; exact hb) ?_
      cases b with
      | true => exact ihx W Q ρ ρ₀ a w hc.1 hf hs h
      | false => exact ihy W Q ρ ρ₀ a w hc.2 hf hs h
    · exact h.elim
  | block id b ih =>
    intro W Q ρ ρ₀ a w hc hf hs h
    refine wpIn_block (Go.wpIn_mono (ih W _ ρ ρ₀ a w hc hf hs h) fun e a' w' hq => ?_)
    cases e with
    | normal => exact hq
    | exit j =>
      obtain ⟨ρ', hf', hs', hv⟩ := hq
      simp only [qBlk] at hv
      simp only [Exit.inBlock]
      by_cases hj : j = id
      · subst hj
        rw [Nat.beq_refl, cond_true] at hv
        simp only [if_true]
        exact ⟨ρ', hf', hs', hv⟩
      · have hb : Nat.beq j id = false := by
          cases hb : Nat.beq j id with
          | false => rfl
          | true => exact absurd (Nat.eq_of_beq_eq_true hb) hj
        rw [hb, cond_false] at hv
        rw [if_neg hj]
        exact ⟨ρ', hf', hs', hv⟩
    | ret => exact hq
    | goto l => exact hq
    | panic ch => exact hq
    | outgrown => exact hq
  | loop b ih =>
    intro W Q ρ ρ₀ a w hc hf hs h
    obtain ⟨ws, I, n, hw, h₀, hr⟩ := h.ex
    have hc' := codeY_inter b hc hw
    refine wpIn_loop_ix (fun n a' w' => ∃ ρ', I n ρ' w' ∧ Fits N [] ρ' a' ∧ Same (fun k => W k && ws k) ρ ρ') n ⟨ρ, h₀, hf, Same.refl _ _⟩ fun n a' w' ⟨ρ', hI, hf', hs'⟩ => ?_
    have hsw : Same ws ρ ρ' := fun k hk => hs' k (by simp [hk])
    refine Go.wpIn_mono (ih (fun k => W k && ws k) _ ρ' ρ a' w' hc' hf' hs' (hr n ρ' w' hI hsw)) fun e a'' w'' hq => ?_
    have up : ∀ {ρ''}, Same (fun k => W k && ws k) ρ ρ'' → Same W ρ₀ ρ'' := fun h' => hs.trans fun k hk => h' k (by simp [hk])
    cases e with
    | normal =>
      obtain ⟨ρ'', hf'', hs'', ⟨m, hlt, hI'⟩⟩ := hq
      exact ⟨m, hlt, ρ'', hI', hf'', hs''⟩
    | exit id => obtain ⟨ρ'', hf'', hs'', hv⟩ := hq; exact ⟨ρ'', hf'', up hs'', hv⟩
    | ret => obtain ⟨ρ'', hf'', hs'', hv⟩ := hq; exact ⟨ρ'', hf'', up hs'', hv⟩
    | goto l => exact hq
    | panic ch => exact hq
    | outgrown => exact hq
  | exit id => intro W Q ρ ρ₀ a w _ hf hs h; exact Go.wpIn_exit ⟨ρ, hf, hs, h⟩
  | ret => intro W Q ρ ρ₀ a w _ hf hs h; exact Go.wpIn_ret ⟨ρ, hf, hs, h⟩
  | _ => intro W Q ρ ρ₀ a w hc; simp [codeY] at hc
/-- what stands at the end of an iterator -/
def finI (K : World → Prop) (e : Ex) (_ : Regs) (w : World) : Prop :=
  match e with
  | .normal => VEnd (K w)
  | .ret => VEnd (K w)
  | .exit _ => False
theorem calls_of_vy {f : FuncId} {fn : Func} {c : Code} {args : Array Value} {w : World} {K : World → Prop}
    (hf : P.funcs[f]? = some fn) (hb : fn.body = some c) (hm : P.follows .mixedOrders = true) (hN : args.size ≤ fn.ntmps) (hres : fn.results = #[]) (hok : codeY false fn.ntmps (fun _ => true) c = true)
    (h : vY P c (finI K) (frame0 args) w) : CallsIn (Fen none) 0 P f args w fun e w' => (∃ v, e = .returned v) ∧ K w' := by
  refine callsIn_of_wp hf hb trivial ?_
  have hfit : Fits fn.ntmps [] (frame0 args) { tmps := args ++ Array.replicate (fn.ntmps - args.size) undef, defers := [] } := by
    refine ⟨by simp; omega, fun t => ?_, rfl⟩
    simp only [frame0, nth_getD]
    rw [Array.getD_eq_getD_getElem?, List.getD_eq_getElem?_getD, Array.getElem?_append]
    by_cases ht : t < args.size
    · simp [ht]
    · simp only [ht, if_false, Array.getElem?_toList]
      rw [Array.getElem?_eq_none (Nat.le_of_not_lt ht)]
      by_cases h2 : t - args.size < fn.ntmps - args.size
      · simp [h2]
      · simp [h2]
  refine Go.wpIn_mono (vY_sound hm c (fun _ => true) _ _ _ _ w hok hfit (Same.refl _ _) h) fun e a' w' hq => ?_
  have res : ∀ {ρ' : Regs}, Fits fn.ntmps [] ρ' a' → K w' → a'.defers = [] ∧ ∃ v, (results fn a'.tmps).run P w' = .ok v w' ∧ (∃ u, Ending.returned v = .returned u) ∧ K w' := by
    intro ρ' hf' hk
    refine ⟨hf'.defers, .tuple #[], ?_, ⟨_, rfl⟩, hk⟩
    rw [results_eq, hres]
    simp
  cases e with
  | normal => obtain ⟨ρ', hf', _, hv⟩ := hq; exact res hf' hv.holds
  | ret => obtain ⟨ρ', hf', _, hv⟩ := hq; exact res hf' hv.holds
  | exit id => obtain ⟨ρ', hf', _, hv⟩ := hq; exact hv.elim
  | goto l => exact hq.elim
  | panic ch => exact hq.elim
  | outgrown => exact hq.elim
end
end Go.Proofs.YtmnjmdajgilhiaaDoor.Ax

namespace Go.Proofs.YtmnjmdajgilhiaaDoor.Ax
open Go Go.RowKit Go.Proofs.YtmnjmdajgilhiaaDoor.Vc
theorem FRep.down {n : Nat} {σ : Nat → Loc} {F : Nat → Prop} {w : World} {a : FV} {v : Value} (h : ARep n σ F w a.up v) : FRep F w a v := by
  cases a with
  | top => exact .top v
  | v x => cases h; exact .v _
  | lst sz l => cases h with | lst h => exact h
  | fp cs o => cases h with | fp h => exact h
  | fm M => cases h with | fm h => exact h
/-- the end of a function that hands back a closure over variables that it has laid and that nobody writes any more -/
theorem aendClo {G : Glob} {n : Nat} {H : AHeap} {R : AV → Nat → AHeap → Prop} {f : Fn} (ls : List (Nat × TypeId × List FV)) (k : R (.fn f [] (ls.map fun p => .fp p.2.2 0)) 0 [])
    (hl : ∀ p ∈ ls, look H p.1 = some (.var p.2.1 (p.2.2.map FV.up))) : AEnd G 0 R (.fn f [] (ls.map fun p => .ptr p.1 0)) n H := by
  refine ⟨_, 0, [], k, Nat.le_refl _, fun w₀ M₀ F₀ σ F w v st ra => ?_⟩
  have hsub : ∀ b, (F b ∨ ∃ p ∈ ls, (σ p.1).b = some b) → b < w.heap.size ∧ (F₀ b ∨ w₀.heap.size ≤ b ∨ M₀ b) := fun b hb => by
    rcases hb with hb | ⟨p, hp, hb⟩
    · exact st.fsub b hb
    · obtain ⟨_, _, h3, h4⟩ := st.mu _ _ b (hl p hp) rfl (.inl hb)
      exact ⟨h3, h4.elim (fun h => .inr (.inr h)) fun h => .inr (.inl h)⟩
  refine ⟨σ, fun b => F b ∨ ∃ p ∈ ls, (σ p.1).b = some b, ⟨st.glob, st.chg, hsub, (fun _ _ h => by cases h), (fun _ _ _ h => by cases h), (fun _ _ _ _ _ h => by cases h), (fun _ _ h => by cases h)⟩, ?_, fun _ h => absurd h (Nat.not_lt_zero _), fun b hb => .inl hb⟩
  cases ra with
  | fn _ _ _ us vs hx hy rx ry =>
    refine .fn f [] _ us vs hx (by simpa using hy) (fun j a v h => by simp at h) fun j a v h1 h2 => ?_
    rw [List.getElem?_map] at h1
    cases hp : ls[j]? with
    | none => rw [hp] at h1; cases h1
    | some p =>
      rw [hp] at h1
      injection h1 with h1
      subst h1
      have hm := List.mem_of_getElem? hp
      have r := ry j (.ptr p.1 0) v (by rw [List.getElem?_map, hp]; rfl) h2
      cases r with
      | ptr _ _ b hlt hb =>
        obtain ⟨g, xs, hg, hblk, hr, hone⟩ := st.blk _ _ (hl p hm)
        rw [hb] at hg
        injection hg with hg
        subst hg
        have hlen := hr.len
        rw [List.length_map] at hlen
        refine .fp (.fp p.2.2 0 b 0 (.inr ⟨p, hm, hb⟩) (fun j hj => ?_) fun j a v h1 h3 => ?_)
        · have hj' : j < xs.length := by omega
          exact ⟨xs[j], by rw [Nat.zero_add, hblk.cell, List.getElem?_eq_getElem hj'], hone _ (List.getElem_mem hj')⟩
        · rw [Nat.zero_add, hblk.cell] at h3
          exact (FRep.down (hr.at j a.up v (by rw [List.getElem?_map, h1]; rfl) h3)).mono fun b hb => ⟨.inl hb, rfl⟩
end Go.Proofs.YtmnjmdajgilhiaaDoor.Ax

namespace Go.Proofs.YtmnjmdajgilhiaaDoor.Ax
open Go Go.RowKit Go.Proofs.YtmnjmdajgilhiaaDoor.Vc
theorem AFn.up {P : Program} {f : FuncId} {args : List AV} {n : Nat} {H : AHeap} {R : AV → Nat → AHeap → Prop} (h : AFn P ⟨0, fun _ => none⟩ f args n H R) (G : Glob) : AFn P G f args n H R := by
  intro w σ F vs st r
  have st0 : St ⟨0, fun _ => none⟩ w (Mut w σ H) F n σ F H w :=
    ⟨⟨Nat.zero_le _, fun _ _ h => by cases h⟩, st.chg, st.fsub, st.lab, fun ell b g h1 h2 h3 => ⟨(st.mu ell b g h1 h2 h3).1, Nat.zero_le _, (st.mu ell b g h1 h2 h3).2.2⟩, st.inj, st.blk⟩
  refine (h w σ F vs st0 r).mono fun v w' ⟨a, n', σ', F', H', hR, s, x, ra⟩ => ⟨a, n', σ', F', H', hR, ?_, x, ra⟩
  have hnb := st.glob.1
  refine ⟨Glob.chg st.glob s.chg.size fun b hb => s.chg.block b (by omega) fun ⟨ell, blk, h1, h2, h3⟩ => by have := (st.mu ell blk b h1 h2 h3).2.1; omega, s.chg, s.fsub, s.lab, fun ell b g h1 h2 h3 => ?_, s.inj, s.blk⟩
  obtain ⟨a1, a2, a3, a4⟩ := s.mu ell b g h1 h2 h3
  refine ⟨a1, ?_, a3, a4⟩
  rcases a4 with ⟨ell', blk', e1, e2, e3⟩ | h4
  · exact (st.mu ell' blk' g e1 e2 e3).2.1
  · omega
section
variable {P : Program} {G : Glob}
theorem arange {gv : AV} {ps : Array Tmp} {A B : (Ex → ARegs → Nat → AHeap → Prop) → ARegs → Nat → AHeap → Prop} {Q : Ex → ARegs → Nat → AHeap → Prop} {ρ : ARegs} {n : Nat} {H : AHeap}
    {gf : FuncId} {caps : List AV} {xs : List (List AV)} (hit : AIt P G gf caps xs) (nl : Nat) (Hs : Nat → AHeap) (θ : List (Nat × Src)) (Z : List Nat) (hg : gv = .fn (.func gf) [] caps) (hc : callable P gf = true) (hle : Nat.ble n nl = true) (hx : ∀ x ∈ xs, x.length = ps.size)
    (hw : wfB n nl θ Z (Hs 0) = true) (hH : coH H θ Z n (Hs 0))
    (hbody : ∀ i x, xs[i]? = some x → A (yThen (B (yThen fun ρ' n' H' => ABack (Reb G (fun _ => false) n ρ' n' H' ρ nl (Hs (i + 1)))))) (setPs ρ ps.toList x) nl (Hs i))
    (hdone : Q .normal ρ nl (Hs xs.length)) : ARange P G gv ps A B Q ρ n H :=
  ⟨⟨gf, caps, xs, nl, Hs, hg, hc, hit, Nat.le_of_ble_eq_true hle, hx, reb_of (ws := []) (sl := []) θ Z hw hH trivial, hbody, hdone⟩⟩
theorem arback {ρ ρ' : ARegs} {nb nl n' : Nat} {H' H₁ : AHeap} (θ : List (Nat × Src)) (Z : List Nat) (hw : wfB nb nl θ Z H₁ = true) (hH : coH H' θ Z nb H₁) : ABack (Reb G (fun _ => false) nb ρ' n' H' ρ nl H₁) :=
  ⟨reb_of (ws := []) (sl := []) θ Z hw hH trivial⟩
/-- the end of a callee entered in place -/
theorem aendE {n n1 : Nat} {H1 : AHeap} {a : AV} {K : AV → Nat → AHeap → Prop} (a' : AV) (k : spine (lowH n H1) fun H0 => K a' n H0) (hwf : wfB n n [] [] (lowH n H1) = true) (hH : coH H1 [] [] n (lowH n H1)) (hc : co H1 [] [] n a' a) : AEnd G n K a n1 H1 :=
  aend a' n _ [] [] (by rw [spine_eq] at k; exact k) hwf hH hc
end
end Go.Proofs.YtmnjmdajgilhiaaDoor.Ax
