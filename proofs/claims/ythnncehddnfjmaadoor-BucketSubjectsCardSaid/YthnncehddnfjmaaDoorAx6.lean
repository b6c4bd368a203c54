/- What one state of a walk has from another: labels renamed, memory of the call's own frozen, registers forgotten. No condition. -/
import Derived.Test.YthnncehddnfjmaaDoorAx5
set_option linter.unusedVariables false
set_option linter.unusedSimpArgs false
namespace Go.Proofs.YthnncehddnfjmaaDoor.Ax
open Go Go.RowKit Go.Proofs.YthnncehddnfjmaaDoor.Vc

/-- where a new label comes from: an old one, or nil -/
inductive Src where
  | lab (ell : Nat)
  | nil
def tr (θ : List (Nat × Src)) (k : Nat) : Option Src :=
  match θ with
  | [] => none
  | p :: r => bif Nat.beq p.1 k then some p.2 else tr r k
/-- the label ell of old stands as k -/
def sameL (θ : List (Nat × Src)) (nb k ell : Nat) : Prop :=
  match tr θ k with
  | some (.lab e) => e = ell
  | some .nil => False
  | none => Nat.blt k nb = true ∧ k = ell
mutual
def co (H : AHeap) (θ : List (Nat × Src)) (Z : List Nat) (nb : Nat) (a' a : AV) : Prop :=
  match a' with
  | .top => True
  | .v x' => (match a with | .v x => x = x' | _ => False)
  | .lst sz l' => (match a with
    | .lst sz' l => sz' = sz ∧ l = l'
    | .v (.slice none 0 0) => l' = []
    | .own e => (match look H e with
      | some (.rows _ sz' l) => memN Z e = true ∧ sz' = sz ∧ l = l'
      | some (.fz sz' l) => sz' = sz ∧ l = l'
      | _ => False)
    | .sub e o k => (match look H e with
      | some (.rows _ sz' l) => memN Z e = true ∧ sz' = sz ∧ (l.drop o).take k = l'
      | some (.fz sz' l) => sz' = sz ∧ (l.drop o).take k = l'
      | _ => False)
    | _ => False)
  | .fp cs o => (match a with | .fp cs' o' => cs' = cs ∧ o' = o | _ => False)
  | .fm M => (match a with
    | .fm M' => M' = M
    | .mp e => (match look H e with | some (.fmp M') => M' = M | _ => False)
    | _ => False)
  | .ptr k o => (match a with | .ptr e o' => sameL θ nb k e ∧ o' = o | _ => False)
  | .ep k i o => (match a with | .ep e i' o' => sameL θ nb k e ∧ i' = i ∧ o' = o | _ => False)
  | .own k => (match a with
    | .own e => sameL θ nb k e
    | .v (.slice none 0 0) => (match tr θ k with | some .nil => True | _ => False)
    | _ => False)
  | .sub k o n => (match a with | .sub e o' n' => sameL θ nb k e ∧ o' = o ∧ n' = n | _ => False)
  | .mp k => (match a with | .mp e => sameL θ nb k e | _ => False)
  | .fn f xs ys => (match a with | .fn f' xs' ys' => f' = f ∧ coL H θ Z nb xs xs' ∧ coL H θ Z nb ys ys' | _ => False)
  | .agg cs => (match a with | .agg cs' => coL H θ Z nb cs cs' | _ => False)
  | .tup cs => (match a with | .tup cs' => coL H θ Z nb cs cs' | _ => False)
def coL (H : AHeap) (θ : List (Nat × Src)) (Z : List Nat) (nb : Nat) (l' l : List AV) : Prop :=
  match l' with
  | [] => (match l with | [] => True | _ => False)
  | a' :: r' => (match l with | a :: r => co H θ Z nb a' a ∧ coL H θ Z nb r' r | _ => False)
end
def coB (H : AHeap) (θ : List (Nat × Src)) (Z : List Nat) (nb : Nat) (b' b : ABlk) : Prop :=
  match b' with
  | .var t cs => (match b with | .var t' cs' => t' = t ∧ coL H θ Z nb cs cs' | _ => False)
  | .rows t sz l => (match b with | .rows t' sz' l' => t' = t ∧ sz' = sz ∧ l' = l | _ => False)
  | .fz sz l => (match b with | .fz sz' l' => sz' = sz ∧ l' = l | _ => False)
  | .map M => (match b with | .map M' => M' = M | _ => False)
  | .fmp M => (match b with | .fmp M' => M' = M | _ => False)
  | .imap M => (match b with | .imap M' => M' = M | _ => False)
  | .itr s p => (match b with | .itr s' p' => s' = s ∧ p' = p | _ => False)
  | .tree t sz l none => (match b with | .tree t' sz' l' none => t' = t ∧ sz' = sz ∧ l' = l | _ => False)
  | .tree t sz l (some (i, j, k)) => (match b with | .tree t' sz' l' (some (i', j', e)) => t' = t ∧ sz' = sz ∧ l' = l ∧ i' = i ∧ j' = j ∧ sameL θ nb k e | _ => False)
def coH (H : AHeap) (θ : List (Nat × Src)) (Z : List Nat) (nb : Nat) (H' : AHeap) : Prop :=
  match H' with
  | [] => True
  | (k, b') :: r => (match tr θ k with
    | some (.lab e) => (match look H e with | some b => coB H θ Z nb b' b | none => False)
    | some .nil => (match b' with | .rows _ _ l => l = [] | _ => False)
    | none => (match look H k with | some b => coB H θ Z nb b' b | none => False)) ∧ coH H θ Z nb r
/-- the old label behind a new one -/
def srcOf (θ : List (Nat × Src)) (k : Nat) : Option Nat :=
  match tr θ k with
  | some (.lab e) => some e
  | some .nil => none
  | none => some k
def clash (θ : List (Nat × Src)) (k : Nat) (o : Option Nat) (H : AHeap) : Bool :=
  match H with
  | [] => false
  | p :: r => (match o, srcOf θ p.1 with | some a, some b => Nat.beq a b && !(Nat.beq k p.1) | _, _ => false) || clash θ k o r
def wfH (nb n' : Nat) (θ : List (Nat × Src)) (Z : List Nat) (All H' : AHeap) : Bool :=
  match H' with
  | [] => true
  | p :: r => Nat.blt p.1 n' && (match tr θ p.1 with | none => Nat.blt p.1 nb | _ => true) && (match srcOf θ p.1 with | some e => !(memN Z e) | none => true) && !(clash θ p.1 (srcOf θ p.1) All) && wfH nb n' θ Z All r
def wfT (nb n' : Nat) (θ : List (Nat × Src)) : Bool :=
  match θ with
  | [] => true
  | p :: r => Nat.ble nb p.1 && Nat.blt p.1 n' && wfT nb n' r
def wfB (nb n' : Nat) (θ : List (Nat × Src)) (Z : List Nat) (H' : AHeap) : Bool := Nat.ble nb n' && wfT nb n' θ && wfH nb n' θ Z H' H'
def σR (θ : List (Nat × Src)) (σ : Nat → Loc) (szs : Nat → Nat) (k : Nat) : Loc :=
  match tr θ k with
  | some (.lab e) => σ e
  | some .nil => ⟨none, 0, 0, szs k⟩
  | none => σ k
def FR (σ : Nat → Loc) (H : AHeap) (Z : List Nat) (F : Nat → Prop) (b : Nat) : Prop := F b ∨ ∃ e t sz l, memN Z e = true ∧ look H e = some (.rows t sz l) ∧ (σ e).b = some b
/-- the size of a row of a label -/
def szOf (H : AHeap) (k : Nat) : Nat := match look H k with | some (.rows _ sz _) => sz | _ => 0

section
variable {G : Glob} {w₀ : World} {M₀ F₀ : Nat → Prop} {n n' nb : Nat} {σ : Nat → Loc} {F : Nat → Prop} {H H' : AHeap} {w : World} {θ : List (Nat × Src)} {Z : List Nat} {szs : Nat → Nat}
theorem wfT_tr {nb n' : Nat} : ∀ {θ : List (Nat × Src)} {k : Nat} {s : Src}, wfT nb n' θ = true → tr θ k = some s → nb ≤ k ∧ k < n' := by
  intro θ
  induction θ with
  | nil => intro k s _ h; cases h
  | cons p r ih =>
    intro k s hw h
    simp only [wfT, Bool.and_eq_true] at hw
    simp only [tr] at h
    cases hb : Nat.beq p.1 k with
    | true =>
      rw [Nat.eq_of_beq_eq_true hb] at hw
      exact ⟨Nat.le_of_ble_eq_true hw.1.1, Nat.le_of_ble_eq_true hw.1.2⟩
    | false => rw [hb, cond_false] at h; exact ih hw.2 h
theorem σR_lt (hw : wfT nb n' θ = true) {l : Nat} (hl : l < nb) : σR θ σ szs l = σ l := by
  unfold σR
  cases h : tr θ l with
  | none => rfl
  | some s => have := (wfT_tr hw h).1; omega
theorem sameL_ok (hw : wfT nb n' θ = true) (hnb : nb ≤ n') {k e : Nat} (h : sameL θ nb k e) : k < n' ∧ σR θ σ szs k = σ e := by
  unfold sameL at h
  unfold σR
  split at h
  · rename_i e' ht
    subst h
    exact ⟨(wfT_tr hw ht).2, rfl⟩
  · exact h.elim
  · rename_i ht
    have : k < nb := Nat.le_of_ble_eq_true h.1
    rw [h.2] at this ⊢
    exact ⟨by omega, rfl⟩
theorem fz_sub {F : Nat → Prop} {w : World} {sz b m c k cc o : Nat} {l : List (List FV)} (h : FRep F w (.lst sz l) (.slice (some ⟨b, 0, none⟩) m c)) (hk : o + k ≤ m) (h0 : 0 < k) (hkc : k ≤ cc) :
    FRep F w (.lst sz ((l.drop o).take k)) (.slice (some ⟨b, o * sz, none⟩) k cc) := by
  cases h with
  | lst _ _ _ _ _ b' o' hn hc hnil ho hsz hex hrep =>
    obtain ⟨e, hF⟩ := ho (by omega)
    injection e with e
    injection e with e1 e2
    subst e1; subst e2
    have ea : ∀ i j, o * sz + (i * sz + j) = 0 + ((o + i) * sz + j) := fun i j => by rw [Nat.add_mul]; omega
    refine .lst sz _ _ k cc b (o * sz) (by rw [List.length_take, List.length_drop]; omega) hkc (fun h => by cases h) (fun _ => ⟨rfl, hF⟩) (fun row hr => hsz row (List.mem_of_mem_drop (List.mem_of_mem_take hr))) (fun i j hi hj => ?_) (fun i j row a v h1 h2 h3 => ?_)
    · rw [ea]; exact hex (o + i) j (by omega) hj
    · rw [ea] at h3
      rw [List.getElem?_take] at h1
      split at h1
      · rw [List.getElem?_drop] at h1
        exact hrep (o + i) j row a v h1 h2 h3
      · cases h1
theorem sub_lst {n n' : Nat} {σ σ' : Nat → Loc} {F F' : Nat → Prop} {w : World} {e o k sz : Nat} {l : List (List FV)} {v : Value} (h : BRep n' σ' F' w (σ e) (.fz sz l)) (r : ARep n σ F w (.sub e o k) v) : ARep n' σ' F' w (.lst sz ((l.drop o).take k)) v := by
  obtain ⟨hsz, hn, hf, h0⟩ := h
  cases r with
  | sub _ _ _ oa c hl hk hc hnil ho =>
    refine .lst ?_
    rcases Nat.eq_zero_or_pos k with e0 | e0
    · subst e0
      rw [List.take_zero]
      exact .lst sz [] oa 0 c 0 0 rfl hc hnil (fun h => absurd h (Nat.lt_irrefl 0)) (fun _ h => by cases h) (fun i j hi => absurd hi (Nat.not_lt_zero i)) (fun i j row a v hi => by simp at hi)
    · obtain ⟨b, hb, rfl⟩ := ho e0
      rw [hsz]
      have eo : (σ e).oa = some ⟨b, 0, none⟩ := by unfold Loc.oa; rw [hb]; rfl
      rw [eo] at hf
      exact fz_sub hf hk e0 hc
mutual
theorem co_rep (st : St G w₀ M₀ F₀ n σ F H w) (hw : wfT nb n' θ = true) (hnb : nb ≤ n') (a' a : AV) (v : Value) (h : co H θ Z nb a' a) (r : ARep n σ F w a v) : ARep n' (σR θ σ szs) (FR σ H Z F) w a' v := by
  have hF : ∀ b, F b → FR σ H Z F b ∧ w.heap[b]? = w.heap[b]? := fun b hb => ⟨.inl hb, rfl⟩
  match a' with
  | .top => exact .top v
  | .v x' =>
    unfold co at h
    split at h
    · subst h; rw [r.v_eq]; exact .v _
    · exact h.elim
  | .lst sz l' =>
    unfold co at h
    split at h
    · obtain ⟨rfl, rfl⟩ := h
      cases r with | lst hf => exact .lst (hf.mono hF)
    · subst h; rw [r.v_eq]; exact .lst (lst_nil sz _)
    · split at h
      · rename_i e t sz' l hk
        obtain ⟨hz, rfl, rfl⟩ := h
        have := fz_of_rows (F' := FR σ H Z F) (st.blk _ _ hk) (fun b hb => .inl hb) fun g hg => .inr ⟨_, _, _, _, hz, hk, hg⟩
        cases r with
        | ownz _ oa hl hn hc =>
          have e := this.2.1
          rw [hn] at e
          have : l = [] := List.eq_nil_of_length_eq_zero e.symm
          subst this
          exact .lst (lst_nil _ _)
        | own _ hl => exact .lst this.2.2.1
      · rename_i e sz' l hk
        obtain ⟨rfl, rfl⟩ := h
        cases r with
        | ownz _ oa hl hn hc =>
          have e := (st.blk _ _ hk).2.1
          rw [hn] at e
          have : l = [] := List.eq_nil_of_length_eq_zero e.symm
          subst this
          exact .lst (lst_nil _ _)
        | own _ hl => exact .lst ((st.blk _ _ hk).2.2.1.mono hF)
      · exact h.elim
    · split at h
      · rename_i e t sz' l hk
        obtain ⟨hz, rfl, rfl⟩ := h
        have hb := fz_of_rows (F' := FR σ H Z F) (st.blk _ _ hk) (fun b hb => .inl hb) fun g hg => .inr ⟨_, _, _, _, hz, hk, hg⟩
        exact sub_lst hb r
      · rename_i e sz' l hk
        obtain ⟨rfl, rfl⟩ := h
        exact sub_lst (n := n) (σ := σ) ⟨(st.blk _ _ hk).1, (st.blk _ _ hk).2.1, (st.blk _ _ hk).2.2.1.mono hF, (st.blk _ _ hk).2.2.2⟩ r
      · exact h.elim
    · exact h.elim
  | .fp cs o =>
    unfold co at h
    split at h
    · obtain ⟨rfl, rfl⟩ := h
      cases r with | fp hf => exact .fp (hf.mono hF)
    · exact h.elim
  | .fm M =>
    unfold co at h
    split at h
    · subst h
      cases r with | fm hf => exact .fm (hf.mono hF)
    · split at h
      · rename_i e M' hk
        subst h
        obtain ⟨g, hg, hf⟩ := st.blk _ _ hk
        cases r with
        | mp _ b hl hb =>
          rw [hb] at hg
          injection hg with hg
          subst hg
          exact .fm (hf.mono hF)
      · exact h.elim
    · exact h.elim
  | .ptr k o =>
    unfold co at h
    split at h
    · obtain ⟨h1, rfl⟩ := h
      obtain ⟨h2, h3⟩ := sameL_ok (σ := σ) (szs := szs) hw hnb h1
      cases r with | ptr _ _ b hl hb => exact .ptr k _ b h2 (by rw [h3]; exact hb)
    · exact h.elim
  | .ep k i o =>
    unfold co at h
    split at h
    · obtain ⟨h1, rfl, rfl⟩ := h
      obtain ⟨h2, h3⟩ := sameL_ok (σ := σ) (szs := szs) hw hnb h1
      cases r with | ep _ _ _ b hl hb => rw [← h3]; exact .ep k _ _ b h2 (by rw [h3]; exact hb)
    · exact h.elim
  | .own k =>
    unfold co at h
    split at h
    · obtain ⟨h2, h3⟩ := sameL_ok (σ := σ) (szs := szs) hw hnb h
      cases r with
      | ownz _ oa hl hn hc => exact .ownz k oa h2 (by rw [h3]; exact hn) (by rw [h3]; exact hc)
      | own _ hl => rw [← h3]; exact .own k h2
    · split at h
      · rename_i ht
        rw [r.v_eq]
        have := ARep.own (n := n') (σ := σR θ σ szs) (F := FR σ H Z F) (w := w) k (wfT_tr hw ht).2
        unfold σR at this ⊢
        rw [ht] at this
        exact this
      · exact h.elim
    · exact h.elim
  | .sub k o m =>
    unfold co at h
    split at h
    · obtain ⟨h1, rfl, rfl⟩ := h
      obtain ⟨h2, h3⟩ := sameL_ok (σ := σ) (szs := szs) hw hnb h1
      cases r with | sub _ _ _ oa c hl hk hc hnil ho => exact .sub k _ _ oa c h2 (by rw [h3]; exact hk) hc hnil (by rw [h3]; exact ho)
    · exact h.elim
  | .mp k =>
    unfold co at h
    split at h
    · obtain ⟨h2, h3⟩ := sameL_ok (σ := σ) (szs := szs) hw hnb h
      cases r with | mp _ b hl hb => exact .mp k b h2 (by rw [h3]; exact hb)
    · exact h.elim
  | .fn f xs ys =>
    unfold co at h
    split at h
    · obtain ⟨rfl, h1, h2⟩ := h
      cases r with
      | fn _ _ _ us vs hx hy rx ry =>
        have r1 := coL_rep st hw hnb xs _ us h1 (.of hx rx)
        have r2 := coL_rep st hw hnb ys _ vs h2 (.of hy ry)
        exact .fn _ xs ys us vs r1.len r2.len r1.at r2.at
    · exact h.elim
  | .agg cs =>
    unfold co at h
    split at h
    · obtain ⟨us, rfl, r2⟩ := RepL.ofAgg r
      exact (coL_rep st hw hnb cs _ us h r2).agg
    · exact h.elim
  | .tup cs =>
    unfold co at h
    split at h
    · cases r with
      | tup _ us hx rx => exact (coL_rep st hw hnb cs _ us h (.of hx rx)).tup
    · exact h.elim
theorem coL_rep (st : St G w₀ M₀ F₀ n σ F H w) (hw : wfT nb n' θ = true) (hnb : nb ≤ n') (l' l : List AV) (vs : List Value) (h : coL H θ Z nb l' l) (r : RepL n σ F w l vs) : RepL n' (σR θ σ szs) (FR σ H Z F) w l' vs := by
  match l' with
  | [] =>
    unfold coL at h
    split at h
    · cases vs with
      | nil => trivial
      | cons _ _ => exact r.elim
    · exact h.elim
  | a' :: r' =>
    unfold coL at h
    split at h
    · cases vs with
      | nil => exact r.elim
      | cons v vs => exact ⟨co_rep st hw hnb a' _ v h.1 r.1, coL_rep st hw hnb r' _ vs h.2 r.2⟩
    · exact h.elim
end
theorem clash_look {a k : Nat} : ∀ {All : AHeap} {k' : Nat} {b : ABlk}, clash θ k (some a) All = false → look All k' = some b → srcOf θ k' = some a → k' = k := by
  intro All
  induction All with
  | nil => intro k' b _ h; cases h
  | cons p r ih =>
    intro k' b hc h hs
    obtain ⟨x, bx⟩ := p
    simp only [clash, Bool.or_eq_false_iff] at hc
    rw [look_cons] at h
    split at h
    · rename_i e
      subst e
      rw [hs] at hc
      have := hc.1
      simp only [Nat.beq_refl, Bool.true_and, Bool.not_eq_eq_eq_not, Bool.not_false] at this
      exact (Nat.eq_of_beq_eq_true this).symm
    · exact ih hc.2 h hs
theorem wfH_look {All : AHeap} : ∀ {H' : AHeap} {k : Nat} {b : ABlk}, wfH nb n' θ Z All H' = true → look H' k = some b → k < n' ∧ (tr θ k = none → k < nb) ∧ (∀ e, srcOf θ k = some e → memN Z e = false) ∧ clash θ k (srcOf θ k) All = false := by
  intro H'
  induction H' with
  | nil => intro k b _ h; cases h
  | cons p r ih =>
    intro k b hw h
    obtain ⟨x, bx⟩ := p
    simp only [wfH, Bool.and_eq_true] at hw
    obtain ⟨⟨⟨⟨w1, w2⟩, w3⟩, w4⟩, w5⟩ := hw
    rw [look_cons] at h
    split at h
    · rename_i e
      subst e
      refine ⟨Nat.le_of_ble_eq_true w1, fun ht => by rw [ht] at w2; exact Nat.le_of_ble_eq_true w2, fun e he => by rw [he] at w3; simpa using w3, by simpa using w4⟩
    · exact ih w5 h
theorem coH_look : ∀ {H' : AHeap} {k : Nat} {b' : ABlk}, coH H θ Z nb H' → look H' k = some b' →
    (∃ e b, srcOf θ k = some e ∧ look H e = some b ∧ coB H θ Z nb b' b) ∨ (tr θ k = some .nil ∧ ∃ t sz, b' = .rows t sz []) := by
  intro H'
  induction H' with
  | nil => intro k b _ h; cases h
  | cons p r ih =>
    intro k b' hc h
    obtain ⟨x, bx⟩ := p
    rw [look_cons] at h
    split at h
    · rename_i e
      subst e
      injection h with h
      subst h
      have hc := hc.1
      unfold srcOf
      cases ht : tr θ x with
      | none =>
        rw [ht] at hc
        cases hl : look H x with
        | none => simp only [hl] at hc
        | some b => simp only [hl] at hc; exact .inl ⟨x, b, rfl, hl, hc⟩
      | some s =>
        rw [ht] at hc
        cases s with
        | lab e =>
          cases hl : look H e with
          | none => simp only [hl] at hc
          | some b => simp only [hl] at hc; exact .inl ⟨e, b, rfl, hl, hc⟩
        | nil =>
          cases bx <;> simp only at hc
          subst hc
          exact .inr ⟨rfl, _, _, rfl⟩
    · exact ih hc.2 h
theorem coB_own {b' b : ABlk} (h : coB H θ Z nb b' b) : b'.own = b.own := by
  unfold coB at h
  split at h
  · split at h
    · rfl
    · exact h.elim
  · split at h
    · rfl
    · exact h.elim
  · split at h
    · rfl
    · exact h.elim
  · split at h
    · rfl
    · exact h.elim
  · split at h
    · rfl
    · exact h.elim
  · split at h
    · rfl
    · exact h.elim
  · split at h
    · rfl
    · exact h.elim
  · split at h
    · rfl
    · exact h.elim
  · split at h
    · rfl
    · exact h.elim
theorem coB_occ {w : World} {L : Loc} {g : Nat} {b' b : ABlk} (h : coB H θ Z nb b' b) (ho : Occ w L b' g) : Occ w L b g := by
  cases hf : b'.flat with
  | true => exact .inl (ho.flat hf)
  | false =>
    cases b' with
    | tree t sz l hh =>
      cases hh with
      | some p =>
        obtain ⟨i, j, k⟩ := p
        unfold coB at h
        cases b with
        | tree t' sz' l' h' =>
          cases h' with
          | some q => obtain ⟨_, rfl, rfl, _⟩ := h; exact ho
          | none => exact h.elim
        | _ => exact h.elim
      | none =>
        unfold coB at h
        cases b with
        | tree t' sz' l' h' =>
          cases h' with
          | none => obtain ⟨_, rfl, rfl⟩ := h; exact ho
          | some _ => exact h.elim
        | _ => exact h.elim
    | _ => cases hf
theorem σR_src {k e : Nat} (h : srcOf θ k = some e) : σR θ σ szs k = σ e := by
  unfold srcOf at h
  unfold σR
  split at h
  · injection h with h; rename_i ht; rw [h]
  · cases h
  · injection h with h; rename_i ht; rw [h]
theorem rebase (st : St G w₀ M₀ F₀ n σ F H w) (hw : wfB nb n' θ Z H' = true) (hc : coH H θ Z nb H') : St G w₀ M₀ F₀ n' (σR θ σ (szOf H')) (FR σ H Z F) H' w := by
  simp only [wfB, Bool.and_eq_true] at hw
  obtain ⟨⟨hnb, hT⟩, hH⟩ := hw
  have hnb := Nat.le_of_ble_eq_true hnb
  have hF : ∀ b, F b → FR σ H Z F b ∧ w.heap[b]? = w.heap[b]? := fun b hb => ⟨.inl hb, rfl⟩
  refine ⟨st.glob, st.chg, fun b hb => ?_, fun k b h => (wfH_look hH h).1, fun k b g h hm hg => ?_, fun k k' b b' g h h' hm hm' hg hg' => ?_, fun k b h => ?_⟩
  · rcases hb with hb | ⟨e, t, sz, l, _, hk, hb⟩
    · exact st.fsub b hb
    · obtain ⟨_, _, h3, h4⟩ := st.mu e _ b hk rfl (.inl hb)
      exact ⟨h3, h4.elim (fun h => .inr (.inr h)) fun h => .inr (.inl h)⟩
  · rcases coH_look hc h with ⟨e, b0, hs, hk, hb⟩ | ⟨ht, _⟩
    · rw [σR_src hs] at hg
      rw [coB_own hb] at hm
      have hg := coB_occ hb hg
      obtain ⟨h1, h2, h3, h4⟩ := st.mu e b0 g hk hm hg
      refine ⟨fun hf => ?_, h2, h3, h4⟩
      rcases hf with hf | ⟨e', t, sz, l, hz, hk', hg'⟩
      · exact h1 hf
      · have := st.inj e e' b0 _ g hk hk' hm rfl hg (.inl hg')
        subst this
        rw [(wfH_look hH h).2.2.1 e hs] at hz; cases hz
    · have hg := hg.flat (by rename_i x; obtain ⟨_, _, rfl⟩ := x; rfl)
      unfold σR at hg; rw [ht] at hg; cases hg
  · have hs : ∃ e b0, srcOf θ k = some e ∧ look H e = some b0 ∧ b0.own = true ∧ Occ w (σ e) b0 g := by
      rcases coH_look hc h with ⟨e, b0, hs, hk, hb⟩ | ⟨ht, _, _, rfl⟩
      · exact ⟨e, b0, hs, hk, by rw [← coB_own hb]; exact hm, by rw [σR_src hs] at hg; exact coB_occ hb hg⟩
      · have hg := hg.flat rfl
        unfold σR at hg; rw [ht] at hg; cases hg
    have hs' : ∃ e b0, srcOf θ k' = some e ∧ look H e = some b0 ∧ b0.own = true ∧ Occ w (σ e) b0 g := by
      rcases coH_look hc h' with ⟨e, b0, hs, hk, hb⟩ | ⟨ht, _, _, rfl⟩
      · exact ⟨e, b0, hs, hk, by rw [← coB_own hb]; exact hm', by rw [σR_src hs] at hg'; exact coB_occ hb hg'⟩
      · have hg' := hg'.flat rfl
        unfold σR at hg'; rw [ht] at hg'; cases hg'
    obtain ⟨e, b0, s1, k1, o1, g1⟩ := hs
    obtain ⟨e', b0', s2, k2, o2, g2⟩ := hs'
    have := st.inj e e' b0 b0' g k1 k2 o1 o2 g1 g2
    subst this
    have hcl := (wfH_look hH h).2.2.2
    rw [s1] at hcl
    exact (clash_look hcl h' s2).symm
  · rcases coH_look hc h with ⟨e, b0, hs, hk, hb⟩ | ⟨ht, t, sz, rfl⟩
    · rw [σR_src hs]
      have hB := st.blk e b0 hk
      unfold coB at hb
      split at hb
      · split at hb
        · obtain ⟨rfl, hb⟩ := hb
          obtain ⟨g, vs, h1, h2, h3, h4⟩ := hB
          exact ⟨g, vs, h1, h2, coL_rep st hT hnb _ _ vs hb h3, h4⟩
        · exact hb.elim
      · split at hb
        · obtain ⟨rfl, rfl, rfl⟩ := hb
          obtain ⟨h1, h2, xs, h3, h4⟩ := hB
          exact ⟨h1, h2, xs, h3, h4.mono hF⟩
        · exact hb.elim
      · split at hb
        · obtain ⟨rfl, rfl⟩ := hb
          exact ⟨hB.1, hB.2.1, hB.2.2.1.mono hF, hB.2.2.2⟩
        · exact hb.elim
      · split at hb
        · subst hb
          exact hB
        · exact hb.elim
      · split at hb
        · subst hb
          obtain ⟨g, h1, h2⟩ := hB
          exact ⟨g, h1, h2.mono hF⟩
        · exact hb.elim
      · split at hb
        · subst hb
          obtain ⟨g, h1, h2⟩ := hB
          exact ⟨g, h1, h2.mono hF rfl⟩
        · exact hb.elim
      · split at hb
        · obtain ⟨rfl, rfl⟩ := hb
          exact hB
        · exact hb.elim
      · split at hb
        · obtain ⟨rfl, rfl, rfl⟩ := hb
          obtain ⟨h1, h2, xs, h3, h4, h5, _⟩ := hB
          exact ⟨h1, h2, xs, h3, h4.mono hF, h5, fun _ _ _ h => by cases h⟩
        · exact hb.elim
      · split at hb
        · obtain ⟨rfl, rfl, rfl, rfl, rfl, hs⟩ := hb
          obtain ⟨h1, h2, xs, h3, h4, h5, h6⟩ := hB
          refine ⟨h1, h2, xs, h3, h4.mono hF, h5, fun i j e h => ?_⟩
          injection h with h
          injection h with ee1 h
          injection h with ee2 ee3
          subst ee1; subst ee2; subst ee3
          obtain ⟨a1, a2, a3, a4, v, a5, a6⟩ := h6 _ _ _ rfl
          exact ⟨(sameL_ok (σ := σ) (szs := szOf H') hT hnb hs).1, a2, a3, a4, v, a5, co_rep st hT hnb (.own _) (.own _) v hs a6⟩
        · exact hb.elim
    · have e : σR θ σ (szOf H') k = ⟨none, 0, 0, sz⟩ := by
        unfold σR szOf
        rw [ht, h]
      rw [e]
      exact ⟨rfl, rfl, [], Own.nil _ _ _ _, RepR.nil sz⟩
end

/-! registers -/
def aLook (l : List (Nat × AV)) (n : Nat) : Option AV :=
  match l with
  | [] => none
  | p :: r => bif Nat.beq n p.1 then some p.2 else aLook r n
/-- at a loop's head: the slots that are told, what the round writes is unknown otherwise -/
def aFrm (sl : List (Nat × AV)) (ws : List (Nat × Nat)) (ρ : ARegs) : ARegs := fun n =>
  match aLook sl n with
  | some v => v
  | none => bif memb ws n then .top else ρ n
def coS (H : AHeap) (θ : List (Nat × Src)) (Z : List Nat) (nb : Nat) (sl : List (Nat × AV)) (ρ : ARegs) : Prop :=
  match sl with
  | [] => True
  | p :: r => co H θ Z nb p.2 (ρ p.1) ∧ coS H θ Z nb r ρ
theorem coS_look {H : AHeap} {θ : List (Nat × Src)} {Z : List Nat} {nb : Nat} {ρ : ARegs} : ∀ {sl : List (Nat × AV)} {s : Nat} {a : AV}, coS H θ Z nb sl ρ → aLook sl s = some a → co H θ Z nb a (ρ s) := by
  intro sl
  induction sl with
  | nil => intro s a _ h; cases h
  | cons p r ih =>
    intro s a hc h
    simp only [aLook] at h
    cases hb : Nat.beq s p.1 with
    | true => rw [hb, cond_true] at h; injection h with h; rw [Nat.eq_of_beq_eq_true hb, ← h]; exact hc.1
    | false => rw [hb, cond_false] at h; exact ih hc.2 h
theorem reb_of {G : Glob} {ws : List (Nat × Nat)} {nb n n' : Nat} {ρ ρe : ARegs} {H H' : AHeap} {sl : List (Nat × AV)} (θ : List (Nat × Src)) (Z : List Nat) (hw : wfB nb n' θ Z H' = true) (hH : coH H θ Z nb H') (hs : coS H θ Z nb sl ρ) :
    Reb G (memb ws) nb ρ n H (aFrm sl ws ρe) n' H' := by
  intro w₀ M₀ F₀ σ F w ρc st hr
  have hw' := hw
  simp only [wfB, Bool.and_eq_true] at hw'
  obtain ⟨⟨hnb, hT⟩, _⟩ := hw'
  refine ⟨_, _, rebase st hw hH, fun s hss => ?_, fun l hl => σR_lt hT hl, fun b hb => .inl hb⟩
  unfold aFrm
  cases hl : aLook sl s with
  | some a => exact co_rep st hT (Nat.le_of_ble_eq_true hnb) a _ _ (coS_look hs hl) (hr s hss)
  | none => simp only [hss, cond_true]; exact .top _
def LI {X : Type} (ws : List (Nat × Nat)) (sl : X → List (Nat × AV)) (hp : X → AHeap) (J : X → Prop) (μ : X → Nat) (ρ : ARegs) (m : Nat) (ρ' : ARegs) (H' : AHeap) : Prop := ∃ x, μ x = m ∧ J x ∧ ρ' = aFrm (sl x) ws ρ ∧ H' = hp x
theorem aLook_mem {s : Nat} : ∀ {l : List (Nat × AV)} {a : AV}, aLook l s = some a → s ∈ l.map (·.1) := by
  intro l
  induction l with
  | nil => intro a h; cases h
  | cons p r ih =>
    intro a h
    simp only [aLook] at h
    cases hb : Nat.beq s p.1 with
    | true => simp [Nat.eq_of_beq_eq_true hb]
    | false => rw [hb, cond_false] at h; simp [ih h]
theorem aloop {G : Glob} {X : Type} {body : Code} {B : (Ex → ARegs → Nat → AHeap → Prop) → ARegs → Nat → AHeap → Prop} {Q : Ex → ARegs → Nat → AHeap → Prop} {ρ : ARegs} {n : Nat} {H : AHeap}
    (ws : List (Nat × Nat)) (nl : Nat) (ks : List Nat) (sl : X → List (Nat × AV)) (hp : X → AHeap) (J : X → Prop) (μ : X → Nat) (θ : List (Nat × Src)) (Z : List Nat) (x₀ : X)
    (hw : (writesIn (memb ws) body && Nat.ble n nl && ks.all (memb ws)) = true) (hsl : ∀ x, (sl x).map (·.1) = ks) (hwf : wfB n nl θ Z (hp x₀) = true) (hJ : J x₀) (hH : coH H θ Z n (hp x₀)) (hs : coS H θ Z n (sl x₀) ρ)
    (hr : ∀ x, J x → B (aLoopQ (fun ρ'' n'' H'' => ABack (∃ m', m' < μ x ∧ ∃ ρ₁ H₁, LI ws sl hp J μ ρ m' ρ₁ H₁ ∧ Reb G (memb ws) n ρ'' n'' H'' ρ₁ nl H₁)) Q) (aFrm (sl x) ws ρ) nl (hp x)) :
    ALoop G body B Q ρ n H := by
  simp only [Bool.and_eq_true] at hw
  refine ⟨memb ws, LI ws sl hp J μ ρ, nl, hw.1.1, Nat.le_of_ble_eq_true hw.1.2, ?_, ⟨μ x₀, _, _, ⟨x₀, rfl, hJ, rfl, rfl⟩, reb_of θ Z hwf hH hs⟩, ?_⟩
  · rintro m ρ' H' ⟨x, rfl, hJx, rfl, rfl⟩ s h
    unfold aFrm
    cases hl : aLook (sl x) s with
    | none => simp only [h, cond_false]
    | some a =>
      have h1 := aLook_mem hl
      rw [hsl x] at h1
      have := List.all_eq_true.1 hw.2 s h1
      rw [h] at this
      cases this
  · rintro m ρ' H' ⟨x, rfl, hJx, rfl, rfl⟩
    exact hr x hJx
/-- a round's end -/
theorem aback {G : Glob} {X : Type} {ws : List (Nat × Nat)} {sl : X → List (Nat × AV)} {hp : X → AHeap} {J : X → Prop} {μ : X → Nat} {ρ ρ'' : ARegs} {nb nl n'' m : Nat} {H'' : AHeap}
    (x' : X) (θ : List (Nat × Src)) (Z : List Nat) (hwf : wfB nb nl θ Z (hp x') = true) (hlt : μ x' < m) (hJ : J x') (hH : coH H'' θ Z nb (hp x')) (hs : coS H'' θ Z nb (sl x') ρ'') :
    ABack (∃ m', m' < m ∧ ∃ ρ₁ H₁, LI ws sl hp J μ ρ m' ρ₁ H₁ ∧ Reb G (memb ws) nb ρ'' n'' H'' ρ₁ nl H₁) :=
  ⟨μ x', hlt, _, _, ⟨x', rfl, hJ, rfl, rfl⟩, reb_of θ Z hwf hH hs⟩
/-- a function's end -/
theorem aend {G : Glob} {nb n : Nat} {R : AV → Nat → AHeap → Prop} {a : AV} {H : AHeap} (a' : AV) (n' : Nat) (H' : AHeap) (θ : List (Nat × Src)) (Z : List Nat) (hR : R a' n' H') (hwf : wfB nb n' θ Z H' = true) (hH : coH H θ Z nb H') (hc : co H θ Z nb a' a) :
    AEnd G nb R a n H := by
  have hw' := hwf
  simp only [wfB, Bool.and_eq_true] at hw'
  obtain ⟨⟨hnb, hT⟩, _⟩ := hw'
  have hnb := Nat.le_of_ble_eq_true hnb
  exact ⟨a', n', H', hR, hnb, fun w₀ M₀ F₀ σ F w v st r => ⟨_, _, rebase st hwf hH, co_rep st hT hnb a' a v hc r, fun l hl => σR_lt hT hl, fun b hb => .inl hb⟩⟩
/-- the results of a pure function: one value, no memory of its own -/
def Is (r : AV) (a : AV) (n : Nat) (H : AHeap) : Prop := a = r ∧ n = 0 ∧ H = []
/-- a pure function's end -/
theorem aret {G : Glob} {n : Nat} {r a : AV} {H : AHeap} (Z : List Nat) (hc : co H [] Z 0 r a) : AEnd G 0 (Is r) a n H := aend r 0 [] [] Z ⟨rfl, rfl, rfl⟩ rfl trivial hc

/-! calls -/
mutual
def flat : AV → Bool
  | .v _ => true
  | .top => true
  | .agg cs => flatL cs
  | .tup cs => flatL cs
  | _ => false
def flatL : List AV → Bool
  | [] => true
  | a :: r => flat a && flatL r
end
mutual
theorem flat_rep {n n' : Nat} {σ σ' : Nat → Loc} {F F' : Nat → Prop} {w w' : World} (a : AV) (v : Value) (h : flat a = true) (r : ARep n σ F w a v) : ARep n' σ' F' w' a v := by
  match a with
  | .v x => rw [r.v_eq]; exact .v _
  | .top => exact .top v
  | .agg cs =>
    obtain ⟨us, rfl, r2⟩ := RepL.ofAgg r
    exact (flatL_rep cs us h r2).agg
  | .tup cs =>
    cases r with
    | tup _ us hx rx => exact (flatL_rep cs us h (.of hx rx)).tup
  | .lst _ _ => cases h
  | .fp _ _ => cases h
  | .ptr _ _ => cases h
  | .ep _ _ _ => cases h
  | .own _ => cases h
  | .sub _ _ _ => cases h
  | .mp _ => cases h
  | .fn _ _ _ => cases h
theorem flatL_rep {n n' : Nat} {σ σ' : Nat → Loc} {F F' : Nat → Prop} {w w' : World} (l : List AV) (vs : List Value) (h : flatL l = true) (r : RepL n σ F w l vs) : RepL n' σ' F' w' l vs := by
  match l with
  | [] => cases vs with
    | nil => trivial
    | cons _ _ => exact r.elim
  | a :: l =>
    cases vs with
    | nil => exact r.elim
    | cons v vs =>
      simp only [flatL, Bool.and_eq_true] at h
      exact ⟨flat_rep a v h.1 r.1, flatL_rep l vs h.2 r.2⟩
end
theorem AFn.mono {P : Program} {G : Glob} {f : FuncId} {args : List AV} {n : Nat} {H : AHeap} {R R' : AV → Nat → AHeap → Prop} (h : AFn P G f args n H R) (k : ∀ a n H, R a n H → R' a n H) : AFn P G f args n H R' :=
  fun w σ F vs st r => (h w σ F vs st r).mono fun v w' ⟨a, n', σ', F', H', hR, rest⟩ => ⟨a, n', σ', F', H', k _ _ _ hR, rest⟩
/-- all that is the call's own within Z is frozen -/
def frz (Z : List Nat) (H : AHeap) : AHeap :=
  match H with
  | [] => []
  | (k, .rows t sz l) :: r => bif memN Z k then (k, .fz sz l) :: frz Z r else (k, .rows t sz l) :: frz Z r
  | p :: r => p :: frz Z r
/-- what stands behind a call is reckoned out at once: the number of labels, each label, each block's kind -/
def fN (n : Nat) (k : Nat → Prop) : Prop :=
  match n with
  | 0 => k 0
  | m + 1 => k (m + 1)
def fB (b : ABlk) (k : ABlk → Prop) : Prop :=
  match b with
  | .var t cs => k (.var t cs)
  | .rows t sz l => k (.rows t sz l)
  | .fz sz l => k (.fz sz l)
  | .map M => k (.map M)
  | .fmp M => k (.fmp M)
  | .imap M => k (.imap M)
  | .itr s p => k (.itr s p)
  | .tree t sz l h => k (.tree t sz l h)
def fH (H : AHeap) (k : AHeap → Prop) : Prop :=
  match H with
  | [] => k []
  | (l, b) :: r => fN l fun l' => fB b fun b' => fH r fun r' => k ((l', b') :: r')
theorem fN_eq (n : Nat) (k : Nat → Prop) : fN n k = k n := by cases n <;> rfl
theorem fB_eq (b : ABlk) (k : ABlk → Prop) : fB b k = k b := by cases b <;> rfl
theorem fH_eq (H : AHeap) : ∀ k : AHeap → Prop, fH H k = k H := by
  induction H with
  | nil => intro k; rfl
  | cons p r ih => intro k; obtain ⟨l, b⟩ := p; simp only [fH, fN_eq, fB_eq, ih]
def frc (n : Nat) (H : AHeap) (k : Nat → AHeap → Prop) : Prop := fN n fun n' => fH H fun H' => k n' H'
theorem frc_eq (n : Nat) (H : AHeap) (k : Nat → AHeap → Prop) : frc n H k = k n H := by simp only [frc, fN_eq, fH_eq]
section
variable {P : Program} {G : Glob} {w₀ : World} {M₀ F₀ : Nat → Prop} {n : Nat} {σ : Nat → Loc} {F : Nat → Prop} {H : AHeap} {w : World}
/-- a call of a function that keeps to itself and returns plain values: what is the caller's own may be lent for reading -/
theorem acall {f : FuncId} {args args' : List AV} {r : AV} {K : AV → Nat → AHeap → Prop} (Z : List Nat) (hc : callable P f = true) (h : AFn P G f args' 0 [] (Is r)) (hf : flat r = true) (ha : coL H [] Z 0 args' args) (k : K r n H) : ACall P G f args n H K := by
  refine ⟨hc, fun w σ F vs st hr => ?_⟩
  have s1 := rebase (H' := []) (θ := []) (Z := Z) (nb := 0) (n' := 0) st rfl trivial
  have r1 := coL_rep (n' := 0) (szs := szOf []) st rfl (Nat.le_refl 0) args' args vs ha hr
  refine (h w _ _ vs s1.start r1).mono fun v w' ⟨a, n', σ', F', H', ⟨ea, en, eH⟩, s, x, ra⟩ => ?_
  subst ea; subst en; subst eH
  have hM : ∀ b, ¬ Mut w (σR [] σ (szOf [])) [] b := fun b ⟨k, c, e, _⟩ => by cases e
  have hE : Ext n σ F w n σ F w' := ⟨Nat.le_refl _, fun _ _ => rfl, fun b hb => ⟨hb, s.chg.block b (st.fsub b hb).1 (hM b)⟩, x.sz⟩
  have bk : ∀ {ell b g}, look H ell = some b → b.own = true → Occ w' (σ ell) b g → Occ w (σ ell) b g := fun h hm hg => hg.back fun k hk => s.chg.block k (st.mu _ _ k h hm (.inl hk)).2.2.1 (hM k)
  refine ⟨a, n, σ, F, H, k, ?_, hE, flat_rep a v hf ra⟩
  exact ⟨s.glob, ⟨s.chg.os, s.chg.tape, s.chg.output, x.sz, fun b hb _ => s.chg.block b hb (hM b)⟩, fun b hb => ⟨Nat.lt_of_lt_of_le (st.fsub b hb).1 x.sz, .inl hb⟩, st.lab,
    fun ell b g hk hm hg => by
      have hg := bk hk hm hg
      obtain ⟨h1, h2, h3, h4⟩ := st.mu ell b g hk hm hg
      exact ⟨h1, h2, Nat.lt_of_lt_of_le h3 x.sz, .inl ⟨ell, b, hk, hm, hg⟩⟩, fun e e' b b' g h h' m m' g1 g2 => st.inj e e' b b' g h h' m m' (bk h m g1) (bk h' m' g2),
    fun ell b hk => (st.blk ell b hk).mono hE fun hm g hg => s.chg.block g (st.mu ell b g hk hm hg).2.2.1 (hM g)⟩
end
end Go.Proofs.YthnncehddnfjmaaDoor.Ax
