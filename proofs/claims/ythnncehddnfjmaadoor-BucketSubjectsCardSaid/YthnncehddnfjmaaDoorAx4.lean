/- The soundness of the operations that change memory. No condition. -/
import Derived.Test.YthnncehddnfjmaaDoorAx3b
set_option linter.unusedVariables false
set_option linter.unusedSimpArgs false
namespace Go.Proofs.YthnncehddnfjmaaDoor.Ax
open Go Go.RowKit Go.Proofs.YthnncehddnfjmaaDoor.Vc

def updL (σ : Nat → Loc) (n : Nat) (L : Loc) : Nat → Loc := fun k => if k = n then L else σ k
theorem updL_self (σ : Nat → Loc) (n : Nat) (L : Loc) : updL σ n L n = L := if_pos rfl
theorem updL_ne {σ : Nat → Loc} {n k : Nat} {L : Loc} (h : k ≠ n) : updL σ n L k = σ k := if_neg h
theorem look_cons {H : AHeap} {n k : Nat} {b : ABlk} : look ((n, b) :: H) k = if n = k then some b else look H k := by
  simp only [look]
  by_cases h : n = k
  · subst h; rw [Nat.beq_refl, cond_true, if_pos rfl]
  · have : Nat.beq n k = false := by
      cases hb : Nat.beq n k with
      | false => rfl
      | true => exact absurd (Nat.eq_of_beq_eq_true hb) h
    rw [this, cond_false, if_neg h]
theorem look_setH {H : AHeap} {ell k : Nat} {b b' : ABlk} (h : look H ell = some b) : look (setH H ell b') k = if k = ell then some b' else look H k := by
  induction H with
  | nil => cases h
  | cons p r ih =>
    obtain ⟨x, bx⟩ := p
    rw [look_cons] at h
    by_cases hx : x = ell
    · subst hx
      have e : setH ((x, bx) :: r) x b' = (x, b') :: r := by simp only [setH, Nat.beq_refl, cond_true]
      rw [e, look_cons, look_cons]
      by_cases hk : x = k
      · rw [if_pos hk, if_pos hk.symm]
      · rw [if_neg hk, if_neg (fun e => hk e.symm), if_neg hk]
    · rw [if_neg hx] at h
      have hb : Nat.beq x ell = false := by
        cases hb : Nat.beq x ell with
        | false => rfl
        | true => exact absurd (Nat.eq_of_beq_eq_true hb) hx
      have e : setH ((x, bx) :: r) ell b' = (x, bx) :: setH r ell b' := by simp only [setH, hb, cond_false]
      rw [e, look_cons, look_cons, ih h]
      by_cases hk : x = k
      · subst hk; rw [if_pos rfl, if_neg hx, if_pos rfl]
      · rw [if_neg hk, if_neg hk]
theorem look_rmH {H : AHeap} {ell k : Nat} {b : ABlk} (h : look (rmH H ell) k = some b) : k ≠ ell ∧ look H k = some b := by
  induction H with
  | nil => cases h
  | cons p r ih =>
    obtain ⟨x, bx⟩ := p
    by_cases hx : x = ell
    · subst hx
      have e : rmH ((x, bx) :: r) x = rmH r x := by simp only [rmH, Nat.beq_refl, cond_true]
      rw [e] at h
      obtain ⟨h1, h2⟩ := ih h
      refine ⟨h1, ?_⟩
      rw [look_cons, if_neg (fun e => h1 e.symm)]
      exact h2
    · have hb : Nat.beq x ell = false := by
        cases hb : Nat.beq x ell with
        | false => rfl
        | true => exact absurd (Nat.eq_of_beq_eq_true hb) hx
      have e : rmH ((x, bx) :: r) ell = (x, bx) :: rmH r ell := by simp only [rmH, hb, cond_false]
      rw [e, look_cons] at h
      by_cases hk : x = k
      · subst hk
        rw [if_pos rfl] at h
        exact ⟨hx, by rw [look_cons, if_pos rfl]; exact h⟩
      · rw [if_neg hk] at h
        obtain ⟨h1, h2⟩ := ih h
        exact ⟨h1, by rw [look_cons, if_neg hk]; exact h2⟩

/-- behind an operation -/
def Tgt (G : Glob) (w₀ : World) (M₀ F₀ : Nat → Prop) (n : Nat) (σ : Nat → Loc) (F : Nat → Prop) (w : World) (K : AV → Nat → AHeap → Prop) (v : Value) (w' : World) : Prop :=
  ∃ a n' σ' F' H', K a n' H' ∧ St G w₀ M₀ F₀ n' σ' F' H' w' ∧ Ext n σ F w n' σ' F' w' ∧ ARep n' σ' F' w' a v

section
variable {P : Program} {G : Glob} {w₀ : World} {M₀ F₀ : Nat → Prop} {n : Nat} {σ : Nat → Loc} {F : Nat → Prop} {H : AHeap} {w : World}
theorem St.hrep (st : St G w₀ M₀ F₀ n σ F H w) : HRep n σ F w H := st.blk
theorem St.new (st : St G w₀ M₀ F₀ n σ F H w) {w' : World} (hB : Chg (fun _ => False) w w') (L : Loc) (hL : ∀ g, L.b = some g → w.heap.size ≤ g ∧ g < w'.heap.size) (blk : ABlk) (hblk : BRep (n + 1) (updL σ n L) F w' L blk) (hfl : blk.flat = true := by rfl) :
    St G w₀ M₀ F₀ (n + 1) (updL σ n L) F ((n, blk) :: H) w' ∧ Ext n σ F w (n + 1) (updL σ n L) F w' := by
  have hE : Ext n σ F w (n + 1) (updL σ n L) F w' := ⟨by omega, fun k hk => updL_ne (by omega), fun b hb => ⟨hb, hB.block b (st.fsub b hb).1 id⟩, hB.size⟩
  have hnb := st.glob.1
  have hw0 := st.chg.size
  have bk : ∀ {ell b g}, look H ell = some b → b.own = true → Occ w' (σ ell) b g → Occ w (σ ell) b g := fun h hm hg => hg.back fun k hk => hB.block k (st.mu _ _ k h hm (.inl hk)).2.2.1 id
  refine ⟨⟨Glob.chg st.glob hB.size fun b hb => hB.block b (by omega) id, st.chg.trans hB (fun _ h => h.elim), fun b hb => ⟨Nat.lt_of_lt_of_le (st.fsub b hb).1 hB.size, (st.fsub b hb).2⟩, fun ell b h => ?_, fun ell b g h hm hg => ?_, fun ell ell' b b' g h h' hm hm' hg hg' => ?_, fun ell b h => ?_⟩, hE⟩
  · rw [look_cons] at h
    split at h
    · omega
    · have := st.lab ell b h; omega
  · rw [look_cons] at h
    split at h
    · rename_i e
      subst e
      injection h with h
      subst h
      rw [updL_self] at hg
      obtain ⟨h1, h2⟩ := hL g (hg.flat hfl)
      exact ⟨fun hf => by have := (st.fsub g hf).1; omega, by omega, h2, .inr (by omega)⟩
    · have hl := st.lab ell b h
      rw [updL_ne (by omega)] at hg
      have hg := bk h hm hg
      obtain ⟨h1, h2, h3, h4⟩ := st.mu ell b g h hm hg
      exact ⟨h1, h2, Nat.lt_of_lt_of_le h3 hB.size, h4⟩
  · rw [look_cons] at h h'
    split at h
    · rename_i e
      split at h'
      · rename_i e'; omega
      · have hl := st.lab ell' b' h'
        injection h with h
        subst h
        rw [← e, updL_self] at hg
        rw [updL_ne (by omega)] at hg'
        have := (hL g (hg.flat hfl)).1
        have := (st.mu ell' b' g h' hm' (bk h' hm' hg')).2.2.1
        omega
    · have hl := st.lab ell b h
      rw [updL_ne (by omega)] at hg
      split at h'
      · rename_i e'
        injection h' with h'
        subst h'
        rw [← e', updL_self] at hg'
        have := (hL g (hg'.flat hfl)).1
        have := (st.mu ell b g h hm (bk h hm hg)).2.2.1
        omega
      · have hl' := st.lab ell' b' h'
        rw [updL_ne (by omega)] at hg'
        exact st.inj ell ell' b b' g h h' hm hm' (bk h hm hg) (bk h' hm' hg')
  · rw [look_cons] at h
    split at h
    · rename_i e
      subst e
      injection h with h
      subst h
      rw [updL_self]
      exact hblk
    · have hl := st.lab ell b h
      rw [updL_ne (by omega)]
      exact (st.blk ell b h).mono hE fun hm g hg => hB.block g (st.mu ell b g h hm hg).2.2.1 id
theorem St.write (st : St G w₀ M₀ F₀ n σ F H w) {w' : World} {ell g : Nat} {blk : ABlk} (hk : look H ell = some blk) (hm : blk.own = true) (hg : (σ ell).b = some g) (hO : Only g w w') (blk' : ABlk) (hblk : BRep n σ F w (σ ell) blk → Ext n σ F w n σ F w' → BRep n σ F w' (σ ell) blk') (hfl : ∀ g', Occ w' (σ ell) blk' g' → Occ w (σ ell) blk g' := by exact fun _ h => .inl (h.flat rfl)) :
    St G w₀ M₀ F₀ n σ F (setH H ell blk') w' ∧ Ext n σ F w n σ F w' := by
  obtain ⟨m1, m2, m3, m4⟩ := st.mu ell blk g hk hm (.inl hg)
  have bk : ∀ {k b g'}, k ≠ ell → look H k = some b → b.own = true → Occ w' (σ k) b g' → Occ w (σ k) b g' := fun hne h hm' hg' => hg'.back fun x hx => hO.block x fun e => by
    subst e
    exact hne (st.inj _ ell _ blk x h hk hm' hm (.inl hx) (.inl hg))
  have hE : Ext n σ F w n σ F w' := ⟨Nat.le_refl _, fun _ _ => rfl, fun b hb => ⟨hb, hO.block b fun e => m1 (e ▸ hb)⟩, Nat.le_of_eq hO.size.symm⟩
  refine ⟨⟨Glob.chg st.glob (Nat.le_of_eq hO.size.symm) fun b hb => hO.block b (by omega), st.chg.trans (Chg.ofOnly hO) (fun b hb => by subst hb; exact m4), fun b hb => ⟨by rw [hO.size]; exact (st.fsub b hb).1, (st.fsub b hb).2⟩, fun k b h => ?_, fun k b g' h hm' hg' => ?_, fun k k' b b' g' h h' hm1 hm2 hg1 hg2 => ?_, fun k b h => ?_⟩, hE⟩
  · rw [look_setH hk] at h
    split at h
    · rename_i e; subst e; exact st.lab _ _ hk
    · exact st.lab k b h
  · rw [look_setH hk] at h
    rw [hO.size]
    split at h
    · rename_i e; subst e; injection h with h; subst h; exact st.mu _ _ g' hk hm (hfl g' hg')
    · rename_i e; exact st.mu k b g' h hm' (bk e h hm' hg')
  · rw [look_setH hk] at h h'
    have e1 : ∃ c, look H k = some c ∧ c.own = true ∧ Occ w (σ k) c g' := by
      split at h
      · rename_i e; subst e; injection h with h; subst h; exact ⟨_, hk, hm, hfl g' hg1⟩
      · rename_i e; exact ⟨_, h, hm1, bk e h hm1 hg1⟩
    have e2 : ∃ c, look H k' = some c ∧ c.own = true ∧ Occ w (σ k') c g' := by
      split at h'
      · rename_i e; subst e; injection h' with h'; subst h'; exact ⟨_, hk, hm, hfl g' hg2⟩
      · rename_i e; exact ⟨_, h', hm2, bk e h' hm2 hg2⟩
    obtain ⟨c1, x1, y1, z1⟩ := e1
    obtain ⟨c2, x2, y2, z2⟩ := e2
    exact st.inj k k' c1 c2 g' x1 x2 y1 y2 z1 z2
  · rw [look_setH hk] at h
    split at h
    · rename_i e
      subst e
      injection h with h
      subst h
      exact hblk (st.blk _ _ hk) hE
    · rename_i e
      refine (st.blk k b h).mono hE fun hm' g' hg' => hO.block g' fun e2 => ?_
      subst e2
      exact e (st.inj k ell b blk g' h hk hm' hm hg' (.inl hg))
theorem St.drop (st : St G w₀ M₀ F₀ n σ F H w) (ell : Nat) : St G w₀ M₀ F₀ n σ F (rmH H ell) w :=
  ⟨st.glob, st.chg, st.fsub, fun k b h => st.lab k b (look_rmH h).2, fun k b g h => st.mu k b g (look_rmH h).2, fun k k' b b' g h h' => st.inj k k' b b' g (look_rmH h).2 (look_rmH h').2, fun k b h => st.blk k b (look_rmH h).2⟩
theorem fz_of_rows {L : Loc} {F' : Nat → Prop} {t sz : Nat} {l : List (List FV)} (h : BRep n σ F w L (.rows t sz l)) (hF : ∀ b, F b → F' b) (hg : ∀ g, L.b = some g → F' g) : BRep n σ F' w L (.fz sz l) := by
  obtain ⟨h1, h2, xs, hO, hR⟩ := h
  have hm : ∀ b, F b → F' b ∧ w.heap[b]? = w.heap[b]? := fun b hb => ⟨hF b hb, rfl⟩
  refine ⟨h1, h2, ?_, ?_⟩
  · rw [h2]
    have hc : l.length ≤ L.c ∧ (L.oa = none → L.c = 0) := by
      rcases hO.2 with ⟨hv, h0⟩ | ⟨g, cap, cur, hv, _, _, hle, _⟩
      · injection hv with _ _ ec; exact ⟨by omega, fun _ => ec⟩
      · injection hv with eo _ ec; exact ⟨by omega, fun en => by rw [en] at eo; cases eo⟩
    rcases Nat.eq_zero_or_pos l.length with h0 | h0
    · have hl : l = [] := List.eq_nil_of_length_eq_zero h0
      subst hl
      exact .lst sz [] _ _ _ 0 0 rfl hc.1 hc.2 (fun h => absurd h (Nat.lt_irrefl 0)) (by simp) (fun i j hi => absurd hi (Nat.not_lt_zero i)) (fun i j row a v hi => by simp at hi)
    · obtain ⟨g, cur, hoa, _, hB, hle, _, hcl, htk⟩ := hO.blk h0
      have hcell : ∀ k, k < l.length * sz → w.cell? ⟨g, 0 + k, none⟩ = xs[k]? := fun k hk => by
        rw [Nat.zero_add, hB.cell, ← htk, List.getElem?_take, if_pos hk]
      have hlt : ∀ i j, i < l.length → j < sz → i * sz + j < l.length * sz := fun i j hi hj => by
        have : (i + 1) * sz ≤ l.length * sz := Nat.mul_le_mul_right _ hi
        rw [Nat.add_mul, Nat.one_mul] at this; omega
      refine .lst sz l _ _ _ g 0 rfl hc.1 hc.2 (fun _ => ⟨hoa, hg g (loc_oa hoa)⟩) hR.1 (fun i j hi hj => ?_) (fun i j row a v hi hj hv => ?_)
      · have hk := hlt i j hi hj
        rw [hcell _ hk]
        have hxl := hR.2.1
        exact ⟨xs[i * sz + j], List.getElem?_eq_getElem (by omega), hR.2.2.1 _ (List.getElem_mem _)⟩
      · have hil := (List.getElem?_eq_some_iff.1 hi).1
        have hjl := (List.getElem?_eq_some_iff.1 hj).1
        rw [hR.1 row (List.mem_of_getElem? hi)] at hjl
        rw [hcell _ (hlt i j hil hjl)] at hv
        exact (hR.2.2.2 i j row a v hi hj hv).mono hm
  · intro b o e
    unfold Loc.oa at e
    cases hb : L.b with
    | none => rw [hb] at e; cases e
    | some g => rw [hb] at e; simp only [Option.map_some, Option.some.injEq] at e; injection e with _ e; exact e.symm
theorem St.freeze (st : St G w₀ M₀ F₀ n σ F H w) {ell t sz : Nat} {l : List (List FV)} (hk : look H ell = some (.rows t sz l)) :
    St G w₀ M₀ F₀ n σ (fun b => F b ∨ (σ ell).b = some b) (setH H ell (.fz sz l)) w ∧ Ext n σ F w n σ (fun b => F b ∨ (σ ell).b = some b) w := by
  have hE : Ext n σ F w n σ (fun b => F b ∨ (σ ell).b = some b) w := ⟨Nat.le_refl _, fun _ _ => rfl, fun b hb => ⟨.inl hb, rfl⟩, Nat.le_refl _⟩
  refine ⟨⟨st.glob, st.chg, fun b hb => ?_, fun k b h => ?_, fun k b g' h hm' hg' => ?_, fun k k' b b' g' h h' hm1 hm2 hg1 hg2 => ?_, fun k b h => ?_⟩, hE⟩
  · rcases hb with hb | hb
    · exact st.fsub b hb
    · obtain ⟨_, _, h3, h4⟩ := st.mu ell _ b hk rfl (.inl hb)
      exact ⟨h3, h4.elim (fun h => .inr (.inr h)) fun h => .inr (.inl h)⟩
  · rw [look_setH hk] at h
    split at h
    · rename_i e; subst e; exact st.lab _ _ hk
    · exact st.lab k b h
  · rw [look_setH hk] at h
    split at h
    · injection h with h; subst h; cases hm'
    · rename_i e
      obtain ⟨h1, h2⟩ := st.mu k b g' h hm' hg'
      refine ⟨fun hf => hf.elim h1 fun hf => e (st.inj k ell b _ g' h hk hm' rfl hg' (.inl hf)), h2⟩
  · rw [look_setH hk] at h h'
    split at h
    · injection h with h; subst h; cases hm1
    · split at h'
      · injection h' with h'; subst h'; cases hm2
      · exact st.inj k k' b b' g' h h' hm1 hm2 hg1 hg2
  · rw [look_setH hk] at h
    split at h
    · rename_i e
      subst e
      injection h with h
      subst h
      exact fz_of_rows (st.blk _ _ hk) (fun b hb => .inl hb) fun g hg => .inr hg
    · exact (st.blk k b h).mono hE fun _ _ _ => rfl

theorem St.freezeM (st : St G w₀ M₀ F₀ n σ F H w) {ell : Nat} {M : ByteArray → Option Value} (hk : look H ell = some (.map M)) :
    St G w₀ M₀ F₀ n σ (fun b => F b ∨ (σ ell).b = some b) (setH H ell (.fmp M)) w ∧ Ext n σ F w n σ (fun b => F b ∨ (σ ell).b = some b) w := by
  have hE : Ext n σ F w n σ (fun b => F b ∨ (σ ell).b = some b) w := ⟨Nat.le_refl _, fun _ _ => rfl, fun b hb => ⟨.inl hb, rfl⟩, Nat.le_refl _⟩
  refine ⟨⟨st.glob, st.chg, fun b hb => ?_, fun k b h => ?_, fun k b g' h hm' hg' => ?_, fun k k' b b' g' h h' hm1 hm2 hg1 hg2 => ?_, fun k b h => ?_⟩, hE⟩
  · rcases hb with hb | hb
    · exact st.fsub b hb
    · obtain ⟨_, _, h3, h4⟩ := st.mu ell _ b hk rfl (.inl hb)
      exact ⟨h3, h4.elim (fun h => .inr (.inr h)) fun h => .inr (.inl h)⟩
  · rw [look_setH hk] at h
    split at h
    · rename_i e; subst e; exact st.lab _ _ hk
    · exact st.lab k b h
  · rw [look_setH hk] at h
    split at h
    · injection h with h; subst h; cases hm'
    · rename_i e
      obtain ⟨h1, h2⟩ := st.mu k b g' h hm' hg'
      refine ⟨fun hf => hf.elim h1 fun hf => e (st.inj k ell b _ g' h hk hm' rfl hg' (.inl hf)), h2⟩
  · rw [look_setH hk] at h h'
    split at h
    · injection h with h; subst h; cases hm1
    · split at h'
      · injection h' with h'; subst h'; cases hm2
      · exact st.inj k k' b b' g' h h' hm1 hm2 hg1 hg2
  · rw [look_setH hk] at h
    split at h
    · rename_i e
      subst e
      injection h with h
      subst h
      obtain ⟨g, hg, hM⟩ := st.blk _ _ hk
      exact ⟨g, hg, .fm M g (.inr hg) hM⟩
    · exact (st.blk k b h).mono hE fun _ _ _ => rfl

/-! values put into frozen memory -/
def FRepL (F : Nat → Prop) (w : World) (xs : List FV) (vs : List Value) : Prop := vs.length = xs.length ∧ ∀ (j : Nat) a v, xs[j]? = some a → vs[j]? = some v → FRep F w a v
theorem FRepL.mono {F F' : Nat → Prop} {w w' : World} (h : ∀ b, F b → F' b ∧ w'.heap[b]? = w.heap[b]?) {xs : List FV} {vs : List Value} (r : FRepL F w xs vs) : FRepL F' w' xs vs := ⟨r.1, fun j a v h1 h2 => (r.2 j a v h1 h2).mono h⟩
theorem FRepL.cons {x : FV} {v : Value} {xs : List FV} {vs : List Value} (h : FRep F w x v) (r : FRepL F w xs vs) : FRepL F w (x :: xs) (v :: vs) := ⟨by simp [r.1], fun j a u h1 h2 => by
  cases j with
  | zero => simp only [List.getElem?_cons_zero, Option.some.injEq] at h1 h2; rw [← h1, ← h2]; exact h
  | succ j => exact r.2 j a u (by simpa using h1) (by simpa using h2)⟩
theorem lst_nil (sz : Nat) (oa : Option Addr) : FRep F w (.lst sz []) (.slice oa 0 0) :=
  .lst sz [] oa 0 0 0 0 rfl (Nat.le_refl _) (fun _ => rfl) (fun h => absurd h (Nat.lt_irrefl 0)) (by simp) (fun i j hi => absurd hi (Nat.not_lt_zero i)) (fun i j row a v hi => by simp at hi)
theorem dn_sound {a : AV} {v : Value} {K : FV → AHeap → Prop} (h : dn H a K) (st : St G w₀ M₀ F₀ n σ F H w) (ra : ARep n σ F w a v) :
    ∃ x H' F', K x H' ∧ St G w₀ M₀ F₀ n σ F' H' w ∧ Ext n σ F w n σ F' w ∧ FRep F' w x v := by
  unfold dn at h
  split at h
  · rw [ra.v_eq]; exact ⟨_, _, F, h, st, .refl _ _ _ _, .v _⟩
  · cases ra with | lst hf => exact ⟨_, _, F, h, st, .refl _ _ _ _, hf⟩
  · cases ra with | fp hf => exact ⟨_, _, F, h, st, .refl _ _ _ _, hf⟩
  · split at h
    · rename_i t sz m hk
      obtain ⟨s1, e1⟩ := st.freeze hk
      have hb := s1.blk _ (.fz sz m) (by rw [look_setH hk, if_pos rfl])
      cases ra with
      | ownz _ oa hl hn hc =>
        have e := hb.2.1
        rw [hn] at e
        have : m = [] := List.eq_nil_of_length_eq_zero e.symm
        subst this
        exact ⟨_, _, _, h, s1, e1, lst_nil sz oa⟩
      | own _ hl => exact ⟨_, _, _, h, s1, e1, hb.2.2.1⟩
    · rename_i sz m hk
      have hb := st.blk _ _ hk
      cases ra with
      | ownz _ oa hl hn hc =>
        have e := hb.2.1
        rw [hn] at e
        have : m = [] := List.eq_nil_of_length_eq_zero e.symm
        subst this
        exact ⟨_, _, F, h, st, .refl _ _ _ _, lst_nil sz oa⟩
      | own _ hl => exact ⟨_, _, F, h, st, .refl _ _ _ _, hb.2.2.1⟩
    · exact h.elim
  · cases ra with | fm hf => exact ⟨_, _, F, h, st, .refl _ _ _ _, hf⟩
  · split at h
    · rename_i M hk
      obtain ⟨s1, e1⟩ := st.freezeM hk
      obtain ⟨g, hg, hf⟩ := s1.blk _ (.fmp M) (by rw [look_setH hk, if_pos rfl])
      cases ra with
      | mp _ b hl hb =>
        rw [hb] at hg
        injection hg with hg
        subst hg
        exact ⟨_, _, _, h, s1, e1, hf⟩
    · rename_i M hk
      obtain ⟨g, hg, hf⟩ := st.blk _ _ hk
      cases ra with
      | mp _ b hl hb =>
        rw [hb] at hg
        injection hg with hg
        subst hg
        exact ⟨_, _, F, h, st, .refl _ _ _ _, hf⟩
    · exact h.elim
  · exact h.elim
theorem dnL_sound : ∀ {as : List AV} {vs : List Value} {H : AHeap} {F : Nat → Prop} {K : List FV → AHeap → Prop}, dnL H as K → St G w₀ M₀ F₀ n σ F H w → RepL n σ F w as vs →
    ∃ xs H' F', K xs H' ∧ St G w₀ M₀ F₀ n σ F' H' w ∧ Ext n σ F w n σ F' w ∧ FRepL F' w xs vs := by
  intro as
  induction as with
  | nil => intro vs H F K h st r; cases vs with
    | nil => exact ⟨[], H, F, h, st, .refl _ _ _ _, rfl, fun j a v h1 => by simp at h1⟩
    | cons _ _ => exact r.elim
  | cons a as ih => intro vs H F K h st r; cases vs with
    | nil => exact r.elim
    | cons v vs =>
      obtain ⟨x, H1, F1, h1, s1, e1, r1⟩ := dn_sound h st r.1
      obtain ⟨xs, H2, F2, h2, s2, e2, r2⟩ := ih h1 s1 (r.2.mono e1)
      exact ⟨x :: xs, H2, F2, h2, s2, e1.trans e2, .cons (r1.mono e2.f) r2⟩
theorem RepR.nil (sz : Nat) : RepR F w sz [] [] := ⟨by simp, by simp, by simp, fun i j row a v h => by simp at h⟩
theorem RepR.cons {sz : Nat} {row : List FV} {l : List (List FV)} {vs xs : List Value} (hr : FRepL F w row vs) (hl : vs.length = sz) (h1 : ∀ v ∈ vs, v.oneCell' = true) (r : RepR F w sz l xs) : RepR F w sz (row :: l) (vs ++ xs) := by
  refine ⟨fun x hx => ?_, by rw [List.length_append, r.2.1, hl, List.length_cons, Nat.add_mul]; omega, fun v hv => ?_, fun i j row' a v hi hj hv => ?_⟩
  · rcases List.mem_cons.1 hx with rfl | hx
    · rw [← hr.1]; exact hl
    · exact r.1 x hx
  · rcases List.mem_append.1 hv with hv | hv
    · exact h1 v hv
    · exact r.2.2.1 v hv
  · cases i with
    | zero =>
      simp only [List.getElem?_cons_zero, Option.some.injEq] at hi
      subst hi
      have hjl := (List.getElem?_eq_some_iff.1 hj).1
      rw [Nat.zero_mul, Nat.zero_add, List.getElem?_append_left (by rw [hr.1]; exact hjl)] at hv
      exact hr.2 j a v hj hv
    | succ i =>
      have hi' : l[i]? = some row' := by simpa using hi
      rw [List.getElem?_append_right (by rw [hl, Nat.add_mul]; omega), hl] at hv
      rw [show (i + 1) * sz + j - sz = i * sz + j by rw [Nat.add_mul]; omega] at hv
      exact r.2.2.2 i j row' a v hi' hj hv
theorem all1_rep : ∀ {as : List AV} {vs : List Value}, all1 as = true → RepL n σ F w as vs → ∀ v ∈ vs, v.oneCell' = true := by
  intro as
  induction as with
  | nil => intro vs _ r v hv; cases vs with
    | nil => cases hv
    | cons _ _ => exact r.elim
  | cons a as ih => intro vs h r v hv; cases vs with
    | nil => exact r.elim
    | cons u vs =>
      simp only [all1, Bool.and_eq_true] at h
      rcases List.mem_cons.1 hv with rfl | hv
      · have hc := h.1
        have ra := r.1
        have key : ∀ {a : AV} {v : Value}, cell1 a = true → ARep n σ F w a v → v.oneCell' = true := fun {a v} hc ra => by
          cases ra with
          | v x => exact hc
          | top x => cases hc
          | agg _ _ _ _ => cases hc
          | tup _ _ _ _ => cases hc
          | lst hf => cases hf; rfl
          | fp hf => cases hf; rfl
          | fm hf => cases hf; rfl
          | _ => rfl
        exact key hc ra
      · exact ih h.2 r.2 v hv
theorem cells_repC {a : AV} {v : Value} (r : ARep n σ F w a v) (h : all1 (cellsOf a) = true) : RepL n σ F w (cellsOf a) v.cells.toList :=
  cells_rep r fun e => by rw [e] at h; simp [cellsOf, all1, cell1] at h
theorem rowsLit_sound {sz : Nat} : ∀ {ks : List Nat} {as : List AV} {us : List Value} {i : Nat} {H : AHeap} {F : Nat → Prop} {K : List (List FV) → AHeap → Prop}, rowsLit H sz i (ks.zip as) K → ks.length = as.length → St G w₀ M₀ F₀ n σ F H w → RepL n σ F w as us →
    ∃ l H' F', K l H' ∧ St G w₀ M₀ F₀ n σ F' H' w ∧ Ext n σ F w n σ F' w ∧ l.length = as.length ∧ ks = List.range' i as.length ∧ (∀ u ∈ us, u.cells.toList.length = sz) ∧ RepR F' w sz l (us.flatMap fun u => u.cells.toList) := by
  intro ks
  induction ks with
  | nil =>
    intro as us i H F K h hl st r
    cases as with
    | cons _ _ => simp at hl
    | nil => cases us with
      | cons _ _ => exact r.elim
      | nil => exact ⟨[], H, F, h, st, .refl _ _ _ _, rfl, rfl, by simp, RepR.nil sz⟩
  | cons k ks ih =>
    intro as us i H F K h hl st r
    cases as with
    | nil => simp at hl
    | cons a as => cases us with
      | nil => exact r.elim
      | cons u us =>
        simp only [List.zip_cons_cons, rowsLit] at h
        cases hb : (Nat.beq i k && Nat.beq (cellsOf a).length sz && all1 (cellsOf a)) with
        | false => rw [hb] at h; exact h.elim
        | true =>
          rw [hb, cond_true] at h
          simp only [Bool.and_eq_true] at hb
          have e1 := Nat.eq_of_beq_eq_true hb.1.1
          have e2 := Nat.eq_of_beq_eq_true hb.1.2
          subst e1
          have rc := cells_repC r.1 hb.2
          obtain ⟨x, H1, F1, h1, s1, x1, r1⟩ := dnL_sound h st rc
          obtain ⟨l, H2, F2, h2, s2, x2, l2, k2, c2, r2⟩ := ih h1 (by simpa using hl) s1 (r.2.mono x1)
          refine ⟨x :: l, H2, F2, h2, s2, x1.trans x2, by simp [l2], by rw [k2]; rfl, ?_, ?_⟩
          · intro v hv
            rcases List.mem_cons.1 hv with rfl | hv
            · rw [rc.len]; exact e2
            · exact c2 v hv
          · rw [List.flatMap_cons]
            exact .cons (r1.mono x2.f) (by rw [rc.len]; exact e2) (all1_rep hb.2 rc) r2
theorem fill_all (z : List Value) (sz : Nat) (hz : z.length = sz) : ∀ (us : List Value) (i : Nat) (pre : List Value), pre.length = i * sz → (∀ u ∈ us, u.cells.toList.length = sz) →
    fillL (fun j => some (j * sz, sz)) (pre ++ (List.replicate us.length z).flatten) ((List.range' i us.length).zip us) = some (pre ++ us.flatMap fun u => u.cells.toList) := by
  intro us
  induction us with
  | nil => intro i pre _ _; simp [fillL]
  | cons u us ih =>
    intro i pre hp hc
    have hu := hc u (by simp)
    simp only [List.length_cons, List.range'_succ, List.zip_cons_cons, fillL, List.replicate_succ, List.flatten_cons]
    have hlen : (pre ++ (z ++ (List.replicate us.length z).flatten)).length = i * sz + sz + (List.replicate us.length z).flatten.length := by simp [hp, hz]; omega
    have c1 : (Nat.beq u.cells.toList.length sz && Nat.ble (i * sz + u.cells.toList.length) (pre ++ (z ++ (List.replicate us.length z).flatten)).length) = true := by
      rw [hu, hlen]
      simp only [Nat.beq_refl, Bool.true_and]
      exact Nat.ble_eq_true_of_le (by omega)
    rw [c1, cond_true, ← hp, ← List.append_assoc, setL_append pre u.cells.toList z _ (by omega)]
    have := ih (i + 1) (pre ++ u.cells.toList) (by rw [List.length_append, hp, hu, Nat.add_mul, Nat.one_mul]) (fun v hv => hc v (by simp [hv]))
    rw [this, List.flatMap_cons, List.append_assoc]
theorem aBuildSlice_sound {t : TypeId} {m : Nat} {ks : List Nat} {as : List AV} {us : List Value} {K : AV → Nat → AHeap → Prop} (h : aBuildSlice P t m (ks.zip as) n H K) (hl : ks.length = as.length) (st : St G w₀ M₀ F₀ n σ F H w) (r : RepL n σ F w as us) :
    vBuildSlice P t m (ks.zip us) w (Tgt G w₀ M₀ F₀ n σ F w K) := by
  unfold aBuildSlice at h
  unfold vBuildSlice
  split at h
  · rename_i e hu
    split at h
    · rename_i i hi
      split at h
      · rename_i z hz
        cases hb : (Nat.beq z.cells.toList.length i.size && Nat.ble 1 i.size && Nat.ble (m * i.size) 16777216 && Nat.beq (ks.zip as).length m && Nat.ble m maxLen) with
        | false => rw [hb] at h; exact h.elim
        | true =>
          rw [hb, cond_true] at h
          simp only [Bool.and_eq_true] at hb
          obtain ⟨⟨⟨⟨b1, b2⟩, b3⟩, b4⟩, b5⟩ := hb
          have e4 := Nat.eq_of_beq_eq_true b4
          rw [List.length_zip, hl, Nat.min_self] at e4
          subst e4
          have hzl := Nat.eq_of_beq_eq_true b1
          obtain ⟨l, H1, F1, h1, s1, x1, l1, k1, c1, r1⟩ := rowsLit_sound h hl st r
          have hul := r.len
          have hf := fill_all z.cells.toList i.size hzl us 0 [] (by simp) c1
          simp only [List.nil_append] at hf
          simp only [hu, hi, hz, b1, b2, b3, Bool.and_self, cond_true]
          rw [k1, ← hul, hf]
          simp only [forceL_eq]
          obtain ⟨s2, x2⟩ := s1.new (w' := w.alloc (.cells (us.flatMap fun u => u.cells.toList).toArray e)) (Chg.ofBelow0 (balloc (Below.refl _ _) (Nat.le_refl _) _))
            ⟨some w.heap.size, l.length, l.length, i.size⟩ (fun g hg => by injection hg with hg; subst hg; exact ⟨Nat.le_refl _, by simp⟩) (.rows e i.size l)
            ⟨rfl, rfl, _, Own.ofBlk (Blk.new w _ e) (Nat.zero_le _) (Nat.le_refl _) (by rw [l1]; exact Nat.le_of_ble_eq_true b5) (by simpa using r1.2.1) (by rw [← r1.2.1]; exact List.take_length), r1.mono fun b hb => ⟨hb, heap_alloc_old w _ b (s1.fsub b hb).1⟩⟩
          refine ⟨_, _, _, _, _, h1, s2, x1.trans x2, ?_⟩
          have := ARep.own (n := n + 1) (σ := updL σ n ⟨some w.heap.size, l.length, l.length, i.size⟩) (F := F1) (w := w.alloc (.cells (us.flatMap fun u => u.cells.toList).toArray e)) n (by omega)
          rw [updL_self] at this
          rw [hul, ← l1]
          exact this
      · exact h.elim
    · exact h.elim
  · exact h.elim
end
end Go.Proofs.YthnncehddnfjmaaDoor.Ax
