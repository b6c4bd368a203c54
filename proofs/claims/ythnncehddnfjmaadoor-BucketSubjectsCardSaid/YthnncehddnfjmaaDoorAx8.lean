/- Contracts proved over plain values, for walks over abstract ones. No condition. Calls of functions that return memory of the caller's own; contracts proved over plain values and lists of records. No condition. -/
import Derived.Test.YthnncehddnfjmaaDoorAx6
set_option linter.unusedVariables false
set_option linter.unusedSimpArgs false
namespace Go.Proofs.YthnncehddnfjmaaDoor.Ax
open Go Go.RowKit Go.Proofs.YthnncehddnfjmaaDoor.Vc

theorem sEqI (a b : ByteArray) : sEq a b = true ↔ a = b := by
  unfold sEq
  rw [← MapKept.bytes_beq a b]
  have : (a == b) = (a.toList == b.toList) := by
    rw [Go.ByteArray.toList_eq, Go.ByteArray.toList_eq]
    obtain ⟨⟨x⟩⟩ := a
    obtain ⟨⟨y⟩⟩ := b
    show ((⟨x⟩ : Array UInt8) == ⟨y⟩) = (x == y)
    simp
  rw [this]
theorem sEqD (a b : ByteArray) : sEq a b = decide (a = b) := by
  rw [Bool.eq_iff_iff, sEqI]; simp
theorem map_v_eq {n : Nat} {σ : Nat → Loc} {F : Nat → Prop} {w : World} : ∀ {l vs : List Value}, RepL n σ F w (l.map .v) vs → vs = l := by
  intro l
  induction l with
  | nil => intro vs r; cases vs with
    | nil => rfl
    | cons _ _ => exact r.elim
  | cons x l ih => intro vs r; cases vs with
    | nil => exact r.elim
    | cons v vs => rw [r.1.v_eq, ih r.2]
/-- lengths -/
theorem ln : (∀ {α β : Type} (f : α → β) (l : List α), (l.map f).length = l.length) ∧ (∀ {α : Type} (a b : List α), (a ++ b).length = a.length + b.length) ∧ (∀ {α : Type} (x : α) (l : List α), (x :: l).length = l.length + 1) ∧ (∀ {α : Type}, ([] : List α).length = 0) ∧ (∀ {α : Type} (n : Nat) (l : List α), (l.take n).length = min n l.length) ∧ (∀ {α : Type} (n : Nat) (l : List α), (l.drop n).length = l.length - n) ∧ (∀ {α : Type} (l : List α) (i : Nat) (x : α), (l.set i x).length = l.length) ∧ (∀ {α : Type} (n : Nat) (x : α), (List.replicate n x).length = n) :=
  ⟨fun _ _ => List.length_map _, fun _ _ => List.length_append, fun _ _ => List.length_cons, List.length_nil, fun _ _ => List.length_take, fun _ _ => List.length_drop, fun _ _ _ => List.length_set, fun _ _ => List.length_replicate⟩
/-- conditions -/
theorem bl : (∀ a b : ByteArray, sEq a b = decide (a = b)) ∧ (∀ {α : Type} (a b : α), (bif true then a else b) = a) ∧ (∀ {α : Type} (a b : α), (bif false then a else b) = b) ∧ (∀ b : Bool, ((!b) = true) = (b = false)) ∧ (∀ b : Bool, ((!b) = false) = (b = true)) ∧ (∀ (p : Prop) [Decidable p], (decide p = true) = p) ∧ (∀ (p : Prop) [Decidable p], (decide p = false) = ¬ p) ∧ (∀ a b : Int, ((a == b) = true) = (a = b)) ∧ (∀ a b : Int, ((a != b) = true) = ¬ (a = b)) ∧ (∀ a b : Int, ((a == b) = false) = ¬ (a = b)) ∧ (∀ a b : Int, ((a != b) = false) = (a = b)) ∧ (∀ a b : Bool, ((a == b) = true) = (a = b)) ∧ (∀ a b : Bool, ((a != b) = true) = ¬ (a = b)) ∧ (∀ a b : Bool, ((a == b) = false) = ¬ (a = b)) ∧ (∀ a b : Bool, ((a != b) = false) = (a = b)) ∧ ((!true) = false) ∧ ((!false) = true) ∧ ((false = true) = False) ∧ ((true = false) = False) ∧ (∀ (p : Prop), (¬ ¬ p) = p) ∧ (∀ a b : Int, (a > b) = (b < a)) ∧ (∀ a b : Int, (a ≥ b) = (b ≤ a)) ∧ (∀ a b : Int, (¬ a < b) = (b ≤ a)) ∧ (∀ a b : Int, (¬ a ≤ b) = (b < a)) :=
  ⟨sEqD, by simp⟩
section
variable {P : Program} {G : Glob}
/-- a function of plain values to plain values -/
theorem afn_of_ret {f : FuncId} {l : List Value} {x : Value} (h : ∀ w, G.holds w → Ret P f l.toArray w fun v w' => v = x ∧ Below w.heap.size w w') : AFn P G f (l.map .v) 0 [] (Is (.v x)) := by
  intro w σ F vs st r
  rw [map_v_eq r]
  refine (h w st.glob).mono fun v w' ⟨e, hB⟩ => ?_
  subst e
  have hE : Ext 0 σ F w 0 σ F w' := ⟨Nat.le_refl _, fun _ _ => rfl, fun b hb => ⟨hb, hB.block b (st.fsub b hb).1⟩, hB.size⟩
  exact ⟨_, 0, σ, F, [], ⟨rfl, rfl, rfl⟩, ⟨Glob.chg st.glob hB.size fun b hb => hB.block b (Nat.lt_of_lt_of_le hb st.glob.1), (Chg.ofBelow0 hB).mono fun _ _ h => h.elim, fun b hb => ⟨Nat.lt_of_lt_of_le (st.fsub b hb).1 hB.size, .inl hb⟩,
    (fun ell b h => by cases h), (fun ell b g h => by cases h), (fun ell ell' b b' g h => by cases h), (fun ell b h => by cases h)⟩, hE, .v _⟩
theorem app_ok {l by_ : Nat} (h : l ≤ 4194304) (h2 : Nat.ble (4194304 * by_) 140737488355328 = true) : l * by_ ≤ 140737488355328 ∧ l ≤ maxLen :=
  ⟨Nat.le_trans (Nat.mul_le_mul_right _ h) (Nat.le_of_ble_eq_true h2), by unfold maxLen; omega⟩
theorem AAr.in {k : IntKind} {x : Int} {K : Int → Prop} (h : k.wrap x = x) (c : K x) : AAr k x K := ⟨by rw [h]; exact c⟩
theorem AAr.i64 {x : Int} {K : Int → Prop} (h : -9223372036854775808 ≤ x ∧ x ≤ 9223372036854775807) (c : K x) : AAr .i64 x K := .in (IntWalk.i64_in _ h) c
theorem AIn.mk' {x : Int} {n : Nat} {K : Nat → Prop} (i : Nat) (e : x = i) (h : i < n) (c : K i) : AIn x n K := ⟨i, e, h, c⟩
theorem ABd.mk' {x y : Int} {n : Nat} {K : Nat → Nat → Prop} (i j : Nat) (e1 : x = i) (e2 : y = j) (h1 : i ≤ j) (h2 : j ≤ n) (c : K i j) : ABd x y n K := ⟨i, j, e1, e2, h1, h2, c⟩
theorem ARd.map {α : Type} {enc : α → List FV} {xs : List α} {i : Nat} {K : List FV → Prop} (h : i < xs.length) (c : K (enc xs[i])) : ARd (xs.map enc) i K := ⟨_, by rw [List.getElem?_map, List.getElem?_eq_getElem h]; rfl, c⟩
theorem ARd.at {l : List (List FV)} {i : Nat} {row : List FV} {K : List FV → Prop} (h : l[i]? = some row) (c : K row) : ARd l i K := ⟨row, h, c⟩
theorem ARd.mapAt {α : Type} {enc : α → List FV} {xs : List α} {i : Nat} {a : α} {K : List FV → Prop} (h : xs[i]? = some a) (c : K (enc a)) : ARd (xs.map enc) i K := ⟨_, by rw [List.getElem?_map, h]; rfl, c⟩
theorem ARd.set {l : List (List FV)} {i : Nat} {row : List FV} {K : List FV → Prop} (h : i < l.length) (c : K row) : ARd (l.set i row) i K := ⟨row, List.getElem?_set_self h, c⟩
theorem AMk.mk' {x y : Int} {by_ : Nat} {K : Nat → Prop} (n : Nat) (e1 : x = n) (e2 : y = n) (h : by_ * n ≤ 140737488355328 ∧ n ≤ maxLen) (c : K n) : AMk x y by_ K := ⟨n, n, e1, e2, Nat.le_refl _, h.1, h.2, c⟩
theorem AMk.cap {x y : Int} {by_ : Nat} {K : Nat → Prop} (n m : Nat) (e1 : x = n) (e2 : y = m) (hnm : n ≤ m) (h : by_ * m ≤ 140737488355328 ∧ m ≤ maxLen) (c : K n) : AMk x y by_ K := ⟨n, m, e1, e2, hnm, h.1, h.2, c⟩
theorem adraw {id : Nat} {ops : Array Oper} {K : ARegs → Nat → AHeap → Prop} {ρ : ARegs} {n : Nat} {H : AHeap} (pl : Nat → Plan) (D : List Nat) (hp : drawOKA ops (pl id) = true) (h : aD P G ops.toList D (pl id) ρ n H K) : ADraw P G id ops K ρ n H := ⟨.inl ⟨pl id, D, hp, h⟩⟩
/-- a drawn region whose end is told: the orders need only show that they come to it -/
theorem adrawC {id : Nat} {ops : Array Oper} {K : ARegs → Nat → AHeap → Prop} {ρ : ARegs} {n : Nat} {H : AHeap} (pl : Nat → Plan) (D : List Nat) (ws : List (Nat × Nat)) (nl : Nat) (sl : List (Nat × AV)) (H' : AHeap) (hp : drawOKA ops (pl id) = true)
    (hw : ((ops.toList.all fun o => match o.dst with | some d => memb ws d | none => true) && Nat.ble n nl && (sl.map (·.1)).all (memb ws)) = true)
    (h : aD P G ops.toList D (pl id) ρ n H fun ρ₁ n₁ H₁ => ARbD (Reb G (memb ws) n ρ₁ n₁ H₁ (aFrm sl ws ρ) nl H')) (k : K (aFrm sl ws ρ) nl H') : ADraw P G id ops K ρ n H := by
  simp only [Bool.and_eq_true] at hw
  refine ⟨.inr (.inl ⟨pl id, D, memb ws, aFrm sl ws ρ, nl, H', hp, hw.1.1, Nat.le_of_ble_eq_true hw.1.2, fun s hs => ?_, h, k⟩)⟩
  unfold aFrm
  cases hl : aLook sl s with
  | none => simp only [hs, cond_false]
  | some a =>
    have := List.all_eq_true.1 hw.2 s (aLook_mem hl)
    rw [hs] at this
    cases this
/-- an order's end -/
theorem arbD {ws : List (Nat × Nat)} {sl : List (Nat × AV)} {ρ ρ₁ : ARegs} {nb n₁ nl : Nat} {H₁ H' : AHeap} (θ : List (Nat × Src)) (Z : List Nat) (hwf : wfB nb nl θ Z H' = true) (hH : coH H₁ θ Z nb H') (hs : coS H₁ θ Z nb sl ρ₁) : ARbD (Reb G (memb ws) nb ρ₁ n₁ H₁ (aFrm sl ws ρ) nl H') := ⟨reb_of θ Z hwf hH hs⟩
/-- a region whose orders meet again: states with labels of their own choosing (new labels, registers, heap), and what each operation does between them -/
def nsAt (sts : List (Nat × List (Nat × AV) × AHeap)) (ws : List (Nat × Nat)) (ρ : ARegs) (n : Nat) (k : Nat) : NS :=
  match sts[k]? with
  | some s => ⟨aFrm s.2.1 ws ρ, s.1, s.2.2⟩
  | none => ⟨ρ, n, []⟩
def netSs (P : Program) (G : Glob) (all : List Oper) (ws : List (Nat × Nat)) (nb : Nat) (A : Nat → NS) (k : Nat) : List (Nat × Nat) → Prop
  | [] => True
  | s :: r => netAt P G all (memb ws) nb A k s ∧ netSs P G all ws nb A k r
def netNs (P : Program) (G : Glob) (all : List Oper) (ws : List (Nat × Nat)) (nb : Nat) (A : Nat → NS) : Nat → List Nd → Prop
  | _, [] => True
  | k, nd :: r => netSs P G all ws nb A k nd.succ ∧ netNs P G all ws nb A (k + 1) r
def netEs (P : Program) (G : Glob) (all : List Oper) (D : List Nat) (p : Plan) (Hh : AHeap) (A : Nat → NS) (K : ARegs → Nat → AHeap → Prop) : Nat → List Nd → Prop
  | _, [] => True
  | k, nd :: r => (match nd.succ with | [] => aD P G all D p (A k).ρ (A k).n ((A k).H ++ Hh) K | _ :: _ => True) ∧ netEs P G all D p Hh A K (k + 1) r
theorem netSs_of {P : Program} {all : List Oper} {ws : List (Nat × Nat)} {nb : Nat} {A : Nat → NS} {k : Nat} : ∀ {l : List (Nat × Nat)}, netSs P G all ws nb A k l → ∀ s ∈ l, netAt P G all (memb ws) nb A k s
  | _ :: _, h, _, .head _ => h.1
  | _ :: _, h, _, .tail _ hm => netSs_of h.2 _ hm
theorem netNs_of {P : Program} {all : List Oper} {ws : List (Nat × Nat)} {nb : Nat} {A : Nat → NS} : ∀ {l : List Nd} {b : Nat}, netNs P G all ws nb A b l → ∀ k nd, l[k]? = some nd → ∀ s ∈ nd.succ, netAt P G all (memb ws) nb A (b + k) s := by
  intro l
  induction l with
  | nil => intro b _ k nd h; cases h
  | cons x r ih =>
    intro b h k nd hk
    cases k with
    | zero => cases hk; exact netSs_of h.1
    | succ k =>
      have := ih h.2 k nd hk
      rwa [show b + 1 + k = b + (k + 1) by omega] at this
theorem netEs_of {P : Program} {all : List Oper} {D : List Nat} {p : Plan} {Hh : AHeap} {A : Nat → NS} {K : ARegs → Nat → AHeap → Prop} : ∀ {l : List Nd} {b : Nat}, netEs P G all D p Hh A K b l → ∀ k nd, l[k]? = some nd → nd.succ = [] → aD P G all D p (A (b + k)).ρ (A (b + k)).n ((A (b + k)).H ++ Hh) K := by
  intro l
  induction l with
  | nil => intro b _ k nd h; cases h
  | cons x r ih =>
    intro b h k nd hk hn
    cases k with
    | zero =>
      cases hk
      have := h.1
      rw [hn] at this
      exact this
    | succ k =>
      have := ih h.2 k nd hk hn
      rwa [show b + 1 + k = b + (k + 1) by omega] at this
theorem anet {id : Nat} {ops : Array Oper} {K : ARegs → Nat → AHeap → Prop} {ρ : ARegs} {n : Nat} {H : AHeap} (T ts : List Nat) (ns : List Nd) (p : Plan) (e : Nat) (D : List Nat) (ws : List (Nat × Nat)) (sts : List (Nat × List (Nat × AV) × AHeap)) (hp : netDrawOK ops T ts ns p e = true)
    (hw : ((ops.toList.all fun o => match o.dst with | some d => memb ws d | none => true) && sts.all fun s => Nat.ble n s.1 && (s.2.1.map (·.1)).all (memb ws)) = true)
    (h0 : aDT P G ops.toList (hidH D H) H ts ρ fun ρ' => ARbD (Reb G (memb ws) n ρ' n (visH D H) (nsAt sts ws ρ n 0).ρ (nsAt sts ws ρ n 0).n (nsAt sts ws ρ n 0).H))
    (hs : netNs P G ops.toList ws n (nsAt sts ws ρ n) 0 ns) (he : netEs P G ops.toList D p (hidH D H) (nsAt sts ws ρ n) K 0 ns) : ADraw P G id ops K ρ n H := by
  simp only [Bool.and_eq_true] at hw
  have hall : ∀ (k : Nat) (s : Nat × List (Nat × AV) × AHeap), sts[k]? = some s → n ≤ s.1 ∧ (s.2.1.map (·.1)).all (memb ws) = true := fun k s h => by
    have := List.all_eq_true.1 hw.2 s (List.mem_of_getElem? h)
    simp only [Bool.and_eq_true] at this
    exact ⟨Nat.le_of_ble_eq_true this.1, this.2⟩
  refine ⟨.inr (.inr ⟨T, ts, ns, p, e, D, memb ws, nsAt sts ws ρ n, hp, hw.1, fun j => ?_, fun j s hsw => ?_, h0, fun k nd hk s hm => ?_, fun k nd hk hn => ?_⟩)⟩
  · unfold nsAt
    cases h : sts[j]? with
    | none => exact Nat.le_refl _
    | some s => exact (hall j s h).1
  · unfold nsAt
    cases h : sts[j]? with
    | none => rfl
    | some x =>
      show aFrm x.2.1 ws ρ s = ρ s
      unfold aFrm
      cases hl : aLook x.2.1 s with
      | none => simp only [hsw, cond_false]
      | some a =>
        have := List.all_eq_true.1 (hall j x h).2 s (aLook_mem hl)
        rw [hsw] at this
        cases this
  · have := netNs_of hs k nd hk s hm
    rwa [Nat.zero_add] at this
  · have := netEs_of he k nd hk hn
    rwa [Nat.zero_add] at this
/-- a loop that keeps the heap at its head -/
theorem aloopH {X : Type} {body : Code} {B : (Ex → ARegs → Nat → AHeap → Prop) → ARegs → Nat → AHeap → Prop} {Q : Ex → ARegs → Nat → AHeap → Prop} {ρ : ARegs} {n : Nat} {H : AHeap}
    (ws : List (Nat × Nat)) (ks : List Nat) (sl : X → List (Nat × AV)) (J : X → Prop) (μ : X → Nat) (x₀ : X)
    (hw : (writesIn (memb ws) body && Nat.ble n n && ks.all (memb ws)) = true) (hsl : ∀ x, (sl x).map (·.1) = ks) (hwf : wfB n n [] [] H = true) (hJ : J x₀) (hH : coH H [] [] n H) (hs : coS H [] [] n (sl x₀) ρ)
    (hr : ∀ x, J x → B (aLoopQ (fun ρ'' n'' H'' => ABack (∃ m', m' < μ x ∧ ∃ ρ₁ H₁, LI ws sl (fun _ => H) J μ ρ m' ρ₁ H₁ ∧ Reb G (memb ws) n ρ'' n'' H'' ρ₁ n H₁)) Q) (aFrm (sl x) ws ρ) n H) :
    ALoop G body B Q ρ n H := aloop ws n ks sl (fun _ => H) J μ [] [] x₀ hw hsl hwf hJ hH hs hr
end
end Go.Proofs.YthnncehddnfjmaaDoor.Ax

namespace Go.Proofs.YthnncehddnfjmaaDoor.Ax
open Go Go.RowKit Go.Proofs.YthnncehddnfjmaaDoor.Vc

mutual
def shA (n : Nat) : AV → AV
  | .ptr e o => .ptr (n + e) o
  | .ep e i o => .ep (n + e) i o
  | .own e => .own (n + e)
  | .sub e o k => .sub (n + e) o k
  | .mp e => .mp (n + e)
  | .fn f xs ys => .fn f (shL n xs) (shL n ys)
  | .agg cs => .agg (shL n cs)
  | .tup cs => .tup (shL n cs)
  | .top => .top
  | .v x => .v x
  | .lst sz l => .lst sz l
  | .fp cs o => .fp cs o
  | .fm M => .fm M
def shL (n : Nat) : List AV → List AV
  | [] => []
  | a :: r => shA n a :: shL n r
end
def shB (n : Nat) : ABlk → ABlk
  | .var t cs => .var t (shL n cs)
  | .tree t sz l (some (i, j, e)) => .tree t sz l (some (i, j, n + e))
  | b => b
def shH (n : Nat) : AHeap → AHeap
  | [] => []
  | p :: r => (n + p.1, shB n p.2) :: shH n r
theorem shL_eq (n : Nat) : ∀ l : List AV, shL n l = l.map (shA n) := by
  intro l
  induction l with
  | nil => rfl
  | cons a r ih => simp [shL, ih]
theorem shB_own (n : Nat) (b : ABlk) : (shB n b).own = b.own := by
  cases b with
  | tree t sz l h => cases h <;> rfl
  | _ => rfl
theorem shB_occ {n : Nat} {b : ABlk} {w : World} {L : Loc} {g : Nat} (h : Occ w L (shB n b) g) : Occ w L b g := by
  cases b with
  | tree t sz l o => cases o <;> exact h
  | _ => exact h
section
variable {n m : Nat} {σ σ' : Nat → Loc} {F : Nat → Prop} {w : World}
theorem sh_rep (hs : ∀ k, k < m → σ' (n + k) = σ k) {a : AV} {v : Value} (r : ARep m σ F w a v) : ARep (n + m) σ' F w (shA n a) v := by
  induction r with
  | top x => exact .top x
  | v x => exact .v x
  | lst h => exact .lst h
  | fp h => exact .fp h
  | fm h => exact .fm h
  | ptr l o b hl hb => exact .ptr _ o b (by omega) (by rw [hs l hl]; exact hb)
  | ep l i o b hl hb => rw [← hs l hl]; exact .ep _ i o b (by omega) (by rw [hs l hl]; exact hb)
  | own l hl => rw [← hs l hl]; exact .own _ (by omega)
  | ownz l oa hl hn hc => exact .ownz _ oa (by omega) (by rw [hs l hl]; exact hn) (by rw [hs l hl]; exact hc)
  | sub l o k oa c hl hk hc hnil ho => exact .sub _ o k oa c (by omega) (by rw [hs l hl]; exact hk) hc hnil (by rw [hs l hl]; exact ho)
  | mp l b hl hb => exact .mp _ b (by omega) (by rw [hs l hl]; exact hb)
  | fn f xs ys us vs hx hy _ _ ih1 ih2 =>
    simp only [shA, shL_eq]
    refine .fn f _ _ us vs (by simp [hx]) (by simp [hy]) (fun j a v h1 h2 => ?_) (fun j a v h1 h2 => ?_)
    · rw [List.getElem?_map] at h1
      cases hx : xs[j]? with
      | none => rw [hx] at h1; cases h1
      | some x => rw [hx] at h1; injection h1 with h1; rw [← h1]; exact ih1 j x v hx h2
    · rw [List.getElem?_map] at h1
      cases hy : ys[j]? with
      | none => rw [hy] at h1; cases h1
      | some y => rw [hy] at h1; injection h1 with h1; rw [← h1]; exact ih2 j y v hy h2
  | agg xs us hx _ ih =>
    simp only [shA, shL_eq]
    refine .agg _ us (by simp [hx]) (fun j a v h1 h2 => ?_)
    rw [List.getElem?_map] at h1
    cases hx : xs[j]? with
    | none => rw [hx] at h1; cases h1
    | some x => rw [hx] at h1; injection h1 with h1; rw [← h1]; exact ih j x v hx h2
  | tup xs us hx _ ih =>
    simp only [shA, shL_eq]
    refine .tup _ us (by simp [hx]) (fun j a v h1 h2 => ?_)
    rw [List.getElem?_map] at h1
    cases hx : xs[j]? with
    | none => rw [hx] at h1; cases h1
    | some x => rw [hx] at h1; injection h1 with h1; rw [← h1]; exact ih j x v hx h2
theorem shL_rep (hs : ∀ k, k < m → σ' (n + k) = σ k) {l : List AV} {vs : List Value} (r : RepL m σ F w l vs) : RepL (n + m) σ' F w (shL n l) vs := by
  rw [shL_eq]
  refine .of (by simp [r.len]) fun j a v h1 h2 => ?_
  rw [List.getElem?_map] at h1
  cases hx : l[j]? with
  | none => rw [hx] at h1; cases h1
  | some x => rw [hx] at h1; injection h1 with h1; rw [← h1]; exact sh_rep hs (r.at j x v hx h2)
theorem shB_rep (hs : ∀ k, k < m → σ' (n + k) = σ k) {L : Loc} {b : ABlk} (r : BRep m σ F w L b) : BRep (n + m) σ' F w L (shB n b) := by
  cases b with
  | var t cs => obtain ⟨g, vs, h1, h2, h3, h4⟩ := r; exact ⟨g, vs, h1, h2, shL_rep hs h3, h4⟩
  | tree t sz l h =>
    cases h with
    | none => obtain ⟨h1, h2, xs, h3, h4, h5, _⟩ := r; exact ⟨h1, h2, xs, h3, h4, h5, fun _ _ _ h => by cases h⟩
    | some p =>
      obtain ⟨i, j, e⟩ := p
      obtain ⟨h1, h2, xs, h3, h4, h5, h6⟩ := r
      refine ⟨h1, h2, xs, h3, h4, h5, fun i' j' e' h => ?_⟩
      injection h with h
      injection h with e1 h
      injection h with e2 e3
      subst e1; subst e2; subst e3
      obtain ⟨a1, a2, a3, a4, v, a5, a6⟩ := h6 _ _ _ rfl
      exact ⟨by omega, a2, a3, a4, v, a5, sh_rep hs a6⟩
  | _ => exact r
theorem look_shH : ∀ {H : AHeap} {k : Nat} {b : ABlk}, look (shH n H) k = some b → ∃ j c, k = n + j ∧ look H j = some c ∧ b = shB n c := by
  intro H
  induction H with
  | nil => intro k b h; cases h
  | cons p r ih =>
    intro k b h
    obtain ⟨x, c⟩ := p
    simp only [shH] at h
    rw [look_cons] at h
    split at h
    · rename_i e
      injection h with h
      exact ⟨x, c, e.symm, by rw [look_cons, if_pos rfl], h.symm⟩
    · rename_i e
      obtain ⟨j, d, h1, h2, h3⟩ := ih h
      exact ⟨j, d, h1, by rw [look_cons, if_neg (by omega)]; exact h2, h3⟩
theorem look_frz {Z : List Nat} : ∀ {H : AHeap} {k : Nat} {b : ABlk}, look (frz Z H) k = some b → (look H k = some b ∧ (memN Z k = true → ∀ t sz l, b ≠ .rows t sz l)) ∨ (memN Z k = true ∧ ∃ t sz l, look H k = some (.rows t sz l) ∧ b = .fz sz l) := by
  intro H
  induction H with
  | nil => intro k b h; cases h
  | cons p r ih =>
    intro k b h
    obtain ⟨x, c⟩ := p
    rw [look_cons]
    have other : (∀ t sz l, c ≠ .rows t sz l) → frz Z ((x, c) :: r) = (x, c) :: frz Z r := fun hne => by
      cases c <;> first | rfl | exact absurd rfl (hne _ _ _)
    by_cases hc : ∃ t sz l, c = .rows t sz l
    · obtain ⟨t, sz, l, rfl⟩ := hc
      simp only [frz] at h
      cases hz : memN Z x with
      | true =>
        rw [hz, cond_true, look_cons] at h
        split at h
        · rename_i e
          subst e
          injection h with h
          rw [if_pos rfl]
          exact .inr ⟨hz, t, sz, l, rfl, h.symm⟩
        · rename_i e; rw [if_neg e]; exact ih h
      | false =>
        rw [hz, cond_false, look_cons] at h
        split at h
        · rename_i e
          subst e
          injection h with h
          rw [if_pos rfl]
          exact .inl ⟨by rw [h], fun hm => by rw [hz] at hm; cases hm⟩
        · rename_i e; rw [if_neg e]; exact ih h
    · have hne : ∀ t sz l, c ≠ .rows t sz l := fun t sz l e => hc ⟨t, sz, l, e⟩
      rw [other hne, look_cons] at h
      split at h
      · rename_i e
        subst e
        injection h with h
        rw [if_pos rfl]
        exact .inl ⟨by rw [h], fun _ t sz l e => hne t sz l (h.trans e)⟩
      · rename_i e; rw [if_neg e]; exact ih h
end
section
variable {P : Program} {G : Glob} {n : Nat} {H : AHeap}
/-- a call of a function that keeps to itself and may return memory of its own: what is the caller's own and lent is frozen -/
theorem acallF0 {f : FuncId} {args args' : List AV} {R : AV → Nat → AHeap → Prop} {K : AV → Nat → AHeap → Prop} (Z : List Nat) (hc : callable P f = true) (h : AFn P G f args' 0 [] R) (ha : coL H [] Z 0 args' args)
    (k : ∀ a m H', R a m H' → K (shA n a) (n + m) (shH n H' ++ frz Z H)) : ACall P G f args n H K := by
  refine ⟨hc, fun w σ F vs st hr => ?_⟩
  have s1 := rebase (H' := []) (θ := []) (Z := Z) (nb := 0) (n' := 0) st rfl trivial
  have r1 := coL_rep (n' := 0) (szs := szOf []) st rfl (Nat.le_refl 0) args' args vs ha hr
  refine (h w _ _ vs s1.start r1).mono fun v w' ⟨a, m, σ', F', H', hR, s, x, ra⟩ => ?_
  have hM : ∀ b, ¬ Mut w (σR [] σ (szOf [])) [] b := fun b ⟨k, c, e, _⟩ => by cases e
  let σn : Nat → Loc := fun l => if l < n then σ l else σ' (l - n)
  have hs : ∀ k, k < m → σn (n + k) = σ' k := fun k _ => by show (if n + k < n then _ else _) = _; rw [if_neg (by omega)]; congr 1; omega
  have ho : ∀ k, k < n → σn k = σ k := fun k hk => if_pos hk
  have hF : ∀ b, F b → F' b ∧ w'.heap[b]? = w.heap[b]? := fun b hb => ⟨(x.f b (.inl hb)).1, s.chg.block b (st.fsub b hb).1 (hM b)⟩
  have hE : Ext n σ F w (n + m) σn F' w' := ⟨by omega, ho, hF, x.sz⟩
  have old : ∀ k b g, look (frz Z H) k = some b → b.own = true → Occ w (σ k) b g → look H k = some b ∧ ¬ F' g ∧ G.nb ≤ g ∧ g < w.heap.size ∧ Mut w σ H g := by
    intro k b g hk hm hg
    rcases look_frz hk with ⟨h1, h2⟩ | ⟨_, t, sz, l, _, rfl⟩
    · obtain ⟨m1, m2, m3, m4⟩ := st.mu k b g h1 hm hg
      refine ⟨h1, fun hf => ?_, m2, m3, ⟨k, b, h1, hm, hg⟩⟩
      rcases (s.fsub g hf).2 with e | e | e
      · rcases e with e | ⟨k', t, sz, l, hz, hk', hg'⟩
        · exact m1 e
        · have := st.inj k k' b _ g h1 hk' hm rfl hg (.inl hg')
          subst this
          rw [h1] at hk'
          injection hk' with hk'
          exact h2 hz t sz l hk'
      · omega
      · exact hM g e
    · cases hm
  have new : ∀ k b g, look (shH n H') k = some b → b.own = true → Occ w' (σn k) b g → ∃ j c, k = n + j ∧ look H' j = some c ∧ c.own = true ∧ Occ w' (σ' j) c g ∧ ¬ F' g ∧ G.nb ≤ g ∧ g < w'.heap.size ∧ w.heap.size ≤ g := by
    intro k b g hk hm hg
    obtain ⟨j, c, rfl, hj, rfl⟩ := look_shH hk
    rw [shB_own] at hm
    rw [hs j (s.lab j c hj)] at hg
    have hg := shB_occ hg
    obtain ⟨m1, m2, m3, m4⟩ := s.mu j c g hj hm hg
    exact ⟨j, c, rfl, hj, hm, hg, m1, m2, m3, m4.resolve_left (hM g)⟩
  have bk : ∀ {k b g}, look (frz Z H) k = some b → b.own = true → Occ w' (σ k) b g → Occ w (σ k) b g := fun hk hm hg => hg.back fun y hy => s.chg.block y (old _ _ y hk hm (.inl hy)).2.2.2.1 (hM y)
  have labO : ∀ k b, look (frz Z H) k = some b → k < n := fun k b hk => by
    rcases look_frz hk with ⟨h1, _⟩ | ⟨_, t, sz, l, h1, _⟩
    · exact st.lab k _ h1
    · exact st.lab k _ h1
  have hst : St G w (Mut w σ H) F (n + m) σn F' (shH n H' ++ frz Z H) w' := by
    refine ⟨s.glob, ⟨s.chg.os, s.chg.tape, s.chg.output, x.sz, fun b hb _ => s.chg.block b hb (hM b)⟩, fun b hb => ⟨(s.fsub b hb).1, ?_⟩, fun k b hk => ?_, fun k b g hk hm hg => ?_, fun k k' b b' g hk hk' hm hm' hg hg' => ?_, fun k b hk => ?_⟩
    · rcases (s.fsub b hb).2 with e | e | e
      · rcases e with e | ⟨k', t, sz, l, hz, hk', hg'⟩
        · exact .inl e
        · exact .inr (.inr ⟨k', _, hk', rfl, .inl hg'⟩)
      · exact .inr (.inl e)
      · exact (hM b e).elim
    · rcases look_append hk with hk | ⟨_, hk⟩
      · obtain ⟨j, c, rfl, hj, _⟩ := look_shH hk
        have := s.lab j c hj
        omega
      · have := labO k b hk; omega
    · rcases look_append hk with hk | ⟨_, hk⟩
      · obtain ⟨j, c, _, _, _, _, m1, m2, m3, m4⟩ := new k b g hk hm hg
        exact ⟨m1, m2, m3, .inr m4⟩
      · rw [ho k (labO k b hk)] at hg
        obtain ⟨_, m1, m2, m3, m4⟩ := old k b g hk hm (bk hk hm hg)
        exact ⟨m1, m2, Nat.lt_of_lt_of_le m3 x.sz, .inl m4⟩
    · rcases look_append hk with hk | ⟨_, hk⟩
      · obtain ⟨j, c, e1, h1, h2, h3, _, _, _, h4⟩ := new k b g hk hm hg
        rcases look_append hk' with hk' | ⟨_, hk'⟩
        · obtain ⟨j', c', e1', h1', h2', h3', _⟩ := new k' b' g hk' hm' hg'
          have := s.inj j j' c c' g h1 h1' h2 h2' h3 h3'
          omega
        · rw [ho k' (labO k' b' hk')] at hg'
          have := (old k' b' g hk' hm' (bk hk' hm' hg')).2.2.2.1
          omega
      · rw [ho k (labO k b hk)] at hg
        have h5 := old k b g hk hm (bk hk hm hg)
        rcases look_append hk' with hk' | ⟨_, hk'⟩
        · obtain ⟨j', c', e1', h1', h2', h3', _, _, _, h4'⟩ := new k' b' g hk' hm' hg'
          have := h5.2.2.2.1
          omega
        · rw [ho k' (labO k' b' hk')] at hg'
          have h6 := old k' b' g hk' hm' (bk hk' hm' hg')
          exact st.inj k k' b b' g h5.1 h6.1 hm hm' (bk hk hm hg) (bk hk' hm' hg')
    · rcases look_append hk with hk | ⟨_, hk⟩
      · obtain ⟨j, c, rfl, hj, rfl⟩ := look_shH hk
        rw [hs j (s.lab j c hj)]
        exact shB_rep hs (s.blk j c hj)
      · rw [ho k (labO k b hk)]
        rcases look_frz hk with ⟨h1, _⟩ | ⟨hz, t, sz, l, h1, rfl⟩
        · exact (st.blk k b h1).mono hE fun hm g hg => s.chg.block g (st.mu k b g h1 hm hg).2.2.1 (hM g)
        · have hb := (st.blk k _ h1).mono hE fun hm g hg => s.chg.block g (st.mu k _ g h1 rfl hg).2.2.1 (hM g)
          exact fz_of_rows hb (fun _ h => h) fun g hg => (x.f g (.inr ⟨k, t, sz, l, hz, h1, hg⟩)).1
  exact ⟨shA n a, n + m, σn, F', _, k a m H' hR, hst, hE, sh_rep hs ra⟩

/-! contracts over plain values -/
theorem acallF {f : FuncId} {args args' : List AV} {R : AV → Nat → AHeap → Prop} {K : AV → Nat → AHeap → Prop} (Z : List Nat) (hc : callable P f = true) (h : AFn P G f args' 0 [] R) (ha : coL H [] Z 0 args' args)
    (k : ∀ a m H', R a m H' → frc (n + m) (shH n H' ++ frz Z H) fun n' H'' => K (shA n a) n' H'') : ACall P G f args n H K := acallF0 Z hc h ha fun a m H' hR => by have := k a m H' hR; rwa [frc_eq] at this
theorem afn_flat {f : FuncId} {args : List AV} {x : Value} (h : ∀ w σ F vs, G.holds w → (∀ b, F b → b < w.heap.size) → RepL 0 σ F w args vs → Ret P f vs.toArray w fun v w' => v = x ∧ Below w.heap.size w w') : AFn P G f args 0 [] (Is (.v x)) := by
  intro w σ F vs st r
  refine (h w σ F vs st.glob (fun b hb => (st.fsub b hb).1) r).mono fun v w' ⟨e, hB⟩ => ?_
  subst e
  have hE : Ext 0 σ F w 0 σ F w' := ⟨Nat.le_refl _, fun _ _ => rfl, fun b hb => ⟨hb, hB.block b (st.fsub b hb).1⟩, hB.size⟩
  exact ⟨_, 0, σ, F, [], ⟨rfl, rfl, rfl⟩, ⟨Glob.chg st.glob hB.size fun b hb => hB.block b (Nat.lt_of_lt_of_le hb st.glob.1), (Chg.ofBelow0 hB).mono fun _ _ h => h.elim, fun b hb => ⟨Nat.lt_of_lt_of_le (st.fsub b hb).1 hB.size, .inl hb⟩,
    (fun ell b h => by cases h), (fun ell b g h => by cases h), (fun ell ell' b b' g h => by cases h), (fun ell b h => by cases h)⟩, hE, .v _⟩
theorem repR_flat {α : Type} {F : Nat → Prop} {w : World} {sz : Nat} {enc : α → List FV} {c : α → List Value} (he : ∀ x, enc x = (c x).map .v) : ∀ {l : List α} {xs : List Value}, RepR F w sz (l.map enc) xs → xs = recs c l := by
  intro l
  induction l with
  | nil => intro xs r; have := r.2.1; simp at this; rw [this]; rfl
  | cons x l ih =>
    intro xs r
    have hx : (enc x).length = sz := r.1 _ (by simp)
    have hcx : (c x).length = sz := by rw [← hx, he]; simp
    have hlen := r.2.1
    simp only [List.map_cons, List.length_cons, List.length_map] at hlen
    rw [Nat.add_mul, Nat.one_mul] at hlen
    have e1 : xs.take sz = c x := by
      apply List.ext_getElem?
      intro j
      rw [List.getElem?_take]
      by_cases hj : j < sz
      · rw [if_pos hj]
        have h1 : (enc x)[j]? = some (.v (c x)[j]) := by rw [he, List.getElem?_map, List.getElem?_eq_getElem (by omega)]; rfl
        have h2 : xs[j]? = some xs[j] := List.getElem?_eq_getElem (by omega)
        have := r.2.2.2 0 j (enc x) _ xs[j] (by simp) h1 (by rw [Nat.zero_mul, Nat.zero_add]; exact h2)
        have key : ∀ {a b : Value}, FRep F w (.v a) b → b = a := fun h => by cases h; rfl
        rw [h2, List.getElem?_eq_getElem (by omega), key this]
      · rw [if_neg hj, List.getElem?_eq_none (by omega)]
    have e2 : xs.drop sz = recs c l := by
      refine ih ⟨fun row hr => r.1 row (by simp at hr ⊢; right; exact hr), by rw [List.length_drop, List.length_map]; omega, fun v hv => r.2.2.1 v (List.mem_of_mem_drop hv), fun i j row a v hi hj hv => ?_⟩
      rw [List.getElem?_drop] at hv
      refine r.2.2.2 (i + 1) j row a v (by simpa using hi) hj ?_
      rw [Nat.add_mul, Nat.one_mul, show i * sz + sz + j = sz + (i * sz + j) by omega]
      exact hv
    have e3 : recs c (x :: l) = c x ++ recs c l := rfl
    rw [e3, ← e1, ← e2, List.take_append_drop]
/-- a frozen list of flat records, as the first engine has it -/
theorem flat_src {α : Type} {σ : Nat → Loc} {F : Nat → Prop} {w : World} {sz : Nat} {enc : α → List FV} {c : α → List Value} (he : ∀ x, enc x = (c x).map .v) {l : List α} {v : Value} (h : ARep n σ F w (.lst sz (l.map enc)) v) (hF : ∀ b, F b → b < w.heap.size) :
    ∃ oa cap, v = .slice oa l.length cap ∧ l.length ≤ cap ∧ (oa = none → cap = 0) ∧ Row w oa (recs c l) := by
  cases h with
  | lst hf =>
    obtain ⟨oa, m, cap, news, h1, h2, h3, h4, h5, h6⟩ := lst_src hf hF
    rw [List.length_map] at h2
    subst h2
    rw [repR_flat he h6] at h5
    exact ⟨oa, cap, h1, h3, h4, h5⟩
/-- a callee entered in place, with the caller's heap -/
theorem acallI {f : FuncId} {args : List AV} {K : AV → Nat → AHeap → Prop} (hc : callable P f = true) (h : AFn P G f args n H K) : ACall P G f args n H K := ⟨hc, h⟩
/-- the end of a callee entered in place: the caller's labels stay, the callee's are forgotten -/
theorem aendI {n1 : Nat} {H1 H0 : AHeap} {a : AV} {K : AV → Nat → AHeap → Prop} (a' : AV) (k : K a' n H0) (hwf : wfB n n [] [] H0 = true) (hH : coH H1 [] [] n H0) (hc : co H1 [] [] n a' a) : AEnd G n K a n1 H1 :=
  aend a' n H0 [] [] k hwf hH hc
/-- the part of a heap below a label -/
def lowH (n : Nat) : AHeap → AHeap
  | [] => []
  | p :: r => bif Nat.blt p.1 n then p :: lowH n r else lowH n r
/-- the end of a callee entered in place, with a plain value -/
theorem aendV {n1 : Nat} {H1 : AHeap} {x : Value} {K : AV → Nat → AHeap → Prop} (k : spine (lowH n H1) fun H0 => K (.v x) n H0) (hwf : wfB n n [] [] (lowH n H1) = true) (hH : coH H1 [] [] n (lowH n H1)) : AEnd G n K (.v x) n1 H1 :=
  aend (.v x) n _ [] [] (by rw [spine_eq] at k; exact k) hwf hH rfl
/-- the results of a function that returns one list of its own -/
def Own1 (T sz : Nat) (l : List (List FV)) (a : AV) (n : Nat) (H : AHeap) : Prop := a = .own 0 ∧ n = 1 ∧ H = [(0, .rows T sz l)]
/-- memory of its own that a function returns, taken as frozen -/
theorem AFn.frz {f : FuncId} {args : List AV} {T sz : Nat} {l : List (List FV)} (h : AFn P G f args 0 [] (Own1 T sz l)) : AFn P G f args 0 [] (Is (.lst sz l)) := by
  intro w σ F vs st r
  refine (h w σ F vs st r).mono fun v w' ⟨a, m, σ', F', H', ⟨e1, e2, e3⟩, s, x, ra⟩ => ?_
  subst e1; subst e2; subst e3
  obtain ⟨a', n', H'', hR, _, hE⟩ := (aend (G := G) (nb := 0) (n := 1) (a := .own 0) (H := [(0, .rows T sz l)]) (R := Is (.lst sz l)) (.lst sz l) 0 [] [] [0] ⟨rfl, rfl, rfl⟩ rfl trivial ⟨rfl, rfl, rfl⟩).ex
  obtain ⟨σ'', F'', s2, r2, _, h4⟩ := hE w (Mut w σ []) F σ' F' w' v s ra
  exact ⟨a', n', σ'', F'', H'', hR, s2, ⟨Nat.zero_le _, fun _ h => absurd h (Nat.not_lt_zero _), fun b hb => ⟨h4 b (x.f b hb).1, (x.f b hb).2⟩, x.sz⟩, r2⟩
/-- a loop that keeps the heap at its head but for what one label holds -/
theorem aloopS {X : Type} {body : Code} {B : (Ex → ARegs → Nat → AHeap → Prop) → ARegs → Nat → AHeap → Prop} {Q : Ex → ARegs → Nat → AHeap → Prop} {ρ : ARegs}
    (ws : List (Nat × Nat)) (ks : List Nat) (sl : X → List (Nat × AV)) (ell : Nat) (blk : X → ABlk) (J : X → Prop) (μ : X → Nat) (x₀ : X)
    (hw : (writesIn (memb ws) body && Nat.ble n n && ks.all (memb ws)) = true) (hsl : ∀ x, (sl x).map (·.1) = ks) (hwf : wfB n n [] [] (setH H ell (blk x₀)) = true) (hJ : J x₀) (hH : coH H [] [] n (setH H ell (blk x₀))) (hs : coS H [] [] n (sl x₀) ρ)
    (hr : ∀ x, J x → B (aLoopQ (fun ρ'' n'' H'' => ABack (∃ m', m' < μ x ∧ ∃ ρ₁ H₁, LI ws sl (fun x => setH H ell (blk x)) J μ ρ m' ρ₁ H₁ ∧ Reb G (memb ws) n ρ'' n'' H'' ρ₁ n H₁)) Q) (aFrm (sl x) ws ρ) n (setH H ell (blk x))) :
    ALoop G body B Q ρ n H := aloop ws n ks sl (fun x => setH H ell (blk x)) J μ [] [] x₀ hw hsl hwf hJ hH hs hr
end
end Go.Proofs.YthnncehddnfjmaaDoor.Ax
