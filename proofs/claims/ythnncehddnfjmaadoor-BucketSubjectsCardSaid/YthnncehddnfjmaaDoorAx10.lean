/- Calls of functions that change memory of the caller's: the labels lent come back changed. No condition. -/
import Derived.Test.YthnncehddnfjmaaDoorAx8
set_option linter.unusedVariables false
set_option linter.unusedSimpArgs false
namespace Go.Proofs.YthnncehddnfjmaaDoor.Ax
open Go Go.RowKit Go.Proofs.YthnncehddnfjmaaDoor.Vc

mutual
def rnA (f : Nat → Nat) : AV → AV
  | .ptr e o => .ptr (f e) o
  | .ep e i o => .ep (f e) i o
  | .own e => .own (f e)
  | .sub e o k => .sub (f e) o k
  | .mp e => .mp (f e)
  | .fn g xs ys => .fn g (rnL f xs) (rnL f ys)
  | .agg cs => .agg (rnL f cs)
  | .tup cs => .tup (rnL f cs)
  | .top => .top
  | .v x => .v x
  | .lst sz l => .lst sz l
  | .fp cs o => .fp cs o
  | .fm M => .fm M
def rnL (f : Nat → Nat) : List AV → List AV
  | [] => []
  | a :: r => rnA f a :: rnL f r
end
def rnB (f : Nat → Nat) : ABlk → ABlk
  | .var t cs => .var t (rnL f cs)
  | .tree t sz l (some (i, j, e)) => .tree t sz l (some (i, j, f e))
  | b => b
def rnH (f : Nat → Nat) : AHeap → AHeap
  | [] => []
  | p :: r => (f p.1, rnB f p.2) :: rnH f r
theorem rnL_eq (f : Nat → Nat) : ∀ l : List AV, rnL f l = l.map (rnA f) := by
  intro l
  induction l with
  | nil => rfl
  | cons a r ih => simp [rnL, ih]
theorem rnB_own (f : Nat → Nat) (b : ABlk) : (rnB f b).own = b.own := by
  cases b with
  | tree t sz l h => cases h <;> rfl
  | _ => rfl
theorem rnB_occ {f : Nat → Nat} {b : ABlk} {w : World} {L : Loc} {g : Nat} (h : Occ w L (rnB f b) g) : Occ w L b g := by
  cases b with
  | tree t sz l o => cases o <;> exact h
  | _ => exact h
section
variable {n m : Nat} {σ σ' : Nat → Loc} {F : Nat → Prop} {w : World} {f : Nat → Nat}
theorem rn_rep (hs : ∀ k, k < m → f k < n ∧ σ' (f k) = σ k) {a : AV} {v : Value} (r : ARep m σ F w a v) : ARep n σ' F w (rnA f a) v := by
  induction r with
  | top x => exact .top x
  | v x => exact .v x
  | lst h => exact .lst h
  | fp h => exact .fp h
  | fm h => exact .fm h
  | ptr l o b hl hb => exact .ptr _ o b (hs l hl).1 (by rw [(hs l hl).2]; exact hb)
  | ep l i o b hl hb => rw [← (hs l hl).2]; exact .ep _ i o b (hs l hl).1 (by rw [(hs l hl).2]; exact hb)
  | own l hl => rw [← (hs l hl).2]; exact .own _ (hs l hl).1
  | ownz l oa hl hn hc => exact .ownz _ oa (hs l hl).1 (by rw [(hs l hl).2]; exact hn) (by rw [(hs l hl).2]; exact hc)
  | sub l o k oa c hl hk hc hnil ho => exact .sub _ o k oa c (hs l hl).1 (by rw [(hs l hl).2]; exact hk) hc hnil (by rw [(hs l hl).2]; exact ho)
  | mp l b hl hb => exact .mp _ b (hs l hl).1 (by rw [(hs l hl).2]; exact hb)
  | fn g xs ys us vs hx hy _ _ ih1 ih2 =>
    simp only [rnA, rnL_eq]
    refine .fn g _ _ us vs (by simp [hx]) (by simp [hy]) (fun j a v h1 h2 => ?_) (fun j a v h1 h2 => ?_)
    · rw [List.getElem?_map] at h1
      cases hx : xs[j]? with
      | none => rw [hx] at h1; cases h1
      | some x => rw [hx] at h1; injection h1 with h1; rw [← h1]; exact ih1 j x v hx h2
    · rw [List.getElem?_map] at h1
      cases hy : ys[j]? with
      | none => rw [hy] at h1; cases h1
      | some y => rw [hy] at h1; injection h1 with h1; rw [← h1]; exact ih2 j y v hy h2
  | agg xs us hx _ ih =>
    simp only [rnA, rnL_eq]
    refine .agg _ us (by simp [hx]) (fun j a v h1 h2 => ?_)
    rw [List.getElem?_map] at h1
    cases hx : xs[j]? with
    | none => rw [hx] at h1; cases h1
    | some x => rw [hx] at h1; injection h1 with h1; rw [← h1]; exact ih j x v hx h2
  | tup xs us hx _ ih =>
    simp only [rnA, rnL_eq]
    refine .tup _ us (by simp [hx]) (fun j a v h1 h2 => ?_)
    rw [List.getElem?_map] at h1
    cases hx : xs[j]? with
    | none => rw [hx] at h1; cases h1
    | some x => rw [hx] at h1; injection h1 with h1; rw [← h1]; exact ih j x v hx h2
theorem rnL_rep (hs : ∀ k, k < m → f k < n ∧ σ' (f k) = σ k) {l : List AV} {vs : List Value} (r : RepL m σ F w l vs) : RepL n σ' F w (rnL f l) vs := by
  rw [rnL_eq]
  refine .of (by simp [r.len]) fun j a v h1 h2 => ?_
  rw [List.getElem?_map] at h1
  cases hx : l[j]? with
  | none => rw [hx] at h1; cases h1
  | some x => rw [hx] at h1; injection h1 with h1; rw [← h1]; exact rn_rep hs (r.at j x v hx h2)
theorem rnB_rep (hs : ∀ k, k < m → f k < n ∧ σ' (f k) = σ k) {L : Loc} {b : ABlk} (r : BRep m σ F w L b) : BRep n σ' F w L (rnB f b) := by
  cases b with
  | var t cs => obtain ⟨g, vs, h1, h2, h3, h4⟩ := r; exact ⟨g, vs, h1, h2, rnL_rep hs h3, h4⟩
  | tree t sz l h =>
    cases h with
    | none => obtain ⟨h1, h2, xs, h3, h4, h5, _⟩ := r; exact ⟨h1, h2, xs, h3, h4, h5, fun _ _ _ h => by cases h⟩
    | some p =>
      obtain ⟨i, j, e⟩ := p
      obtain ⟨h1, h2, xs, h3, h4, h5, h6⟩ := r
      refine ⟨h1, h2, xs, h3, h4, h5, fun i' j' e' h => ?_⟩
      injection h with h
      injection h with e1 h
      injection h with e2 e3
      subst e1; subst e2; subst e3
      obtain ⟨a1, a2, a3, a4, v, a5, a6⟩ := h6 _ _ _ rfl
      exact ⟨(hs e a1).1, a2, a3, a4, v, a5, rn_rep hs a6⟩
  | _ => exact r
theorem look_rnH : ∀ {H : AHeap} {k : Nat} {b : ABlk}, look (rnH f H) k = some b → ∃ j c, k = f j ∧ c ∈ H.map (·.2) ∧ (j, c) ∈ H ∧ b = rnB f c := by
  intro H
  induction H with
  | nil => intro k b h; cases h
  | cons p r ih =>
    intro k b h
    obtain ⟨x, c⟩ := p
    simp only [rnH] at h
    rw [look_cons] at h
    split at h
    · rename_i e
      injection h with h
      exact ⟨x, c, e.symm, by simp, by simp, h.symm⟩
    · obtain ⟨j, d, h1, h2, h3, h4⟩ := ih h
      exact ⟨j, d, h1, by simp at h2 ⊢; exact .inr h2, by simp [h3], h4⟩
end
/-- each label stands once -/
def once : AHeap → Bool
  | [] => true
  | p :: r => (match look r p.1 with | some _ => false | none => true) && once r
theorem once_look : ∀ {H : AHeap} {k : Nat} {b : ABlk}, once H = true → (k, b) ∈ H → look H k = some b := by
  intro H
  induction H with
  | nil => intro k b _ h; cases h
  | cons p r ih =>
    intro k b ho h
    obtain ⟨x, c⟩ := p
    simp only [once, Bool.and_eq_true] at ho
    rw [look_cons]
    rcases List.mem_cons.1 h with e | e
    · injection e with e1 e2
      subst e1; subst e2
      rw [if_pos rfl]
    · have := ih ho.2 e
      split
      · rename_i e'
        subst e'
        rw [this] at ho
        cases ho.1
      · exact this
def rmL (L : List Nat) (H : AHeap) : AHeap :=
  match L with
  | [] => H
  | l :: r => rmL r (rmH H l)
theorem look_rmL : ∀ {L : List Nat} {H : AHeap} {k : Nat} {b : ABlk}, look (rmL L H) k = some b → k ∉ L ∧ look H k = some b := by
  intro L
  induction L with
  | nil => intro H k b h; exact ⟨by simp, h⟩
  | cons l r ih =>
    intro H k b h
    obtain ⟨h1, h2⟩ := ih h
    obtain ⟨h3, h4⟩ := look_rmH h2
    exact ⟨by simp [h1, h3], h4⟩
def lendT (i : Nat) (L : List Nat) : List (Nat × Src) :=
  match L with
  | [] => []
  | l :: r => (i, .lab l) :: lendT (i + 1) r
theorem tr_lendT : ∀ {L : List Nat} {i k l : Nat}, L[k]? = some l → tr (lendT i L) (i + k) = some (.lab l) := by
  intro L
  induction L with
  | nil => intro i k l h; simp at h
  | cons x r ih =>
    intro i k l h
    cases k with
    | zero =>
      simp only [List.getElem?_cons_zero, Option.some.injEq] at h
      subst h
      simp [lendT, tr]
    | succ k =>
      simp only [List.getElem?_cons_succ] at h
      have := ih (i := i + 1) h
      simp only [lendT, tr]
      have e : Nat.beq i (i + (k + 1)) = false := by
        cases hb : Nat.beq i (i + (k + 1)) with
        | false => rfl
        | true => have := Nat.eq_of_beq_eq_true hb; omega
      rw [e, cond_false, show i + (k + 1) = i + 1 + k by omega]
      exact this
/-- where a label of the callee stands for the caller -/
def bkL (L : List Nat) (n k : Nat) : Nat :=
  match L, k with
  | [], k => n + k
  | l :: _, 0 => l
  | _ :: r, k + 1 => bkL r n k
theorem bkL_lt : ∀ {L : List Nat} {n k l : Nat}, L[k]? = some l → bkL L n k = l := by
  intro L
  induction L with
  | nil => intro n k l h; simp at h
  | cons x r ih =>
    intro n k l h
    cases k with
    | zero => simp only [List.getElem?_cons_zero, Option.some.injEq] at h; exact h
    | succ k => exact ih (by simpa using h)
theorem bkL_ge : ∀ {L : List Nat} {n k : Nat}, L.length ≤ k → bkL L n k = n + (k - L.length) := by
  intro L
  induction L with
  | nil => intro n k _; simp [bkL]
  | cons x r ih =>
    intro n k h
    cases k with
    | zero => simp at h
    | succ k =>
      simp only [List.length_cons] at h ⊢
      show bkL r n k = _
      rw [ih (by omega)]
      congr 1
      omega
def hasAll (H : AHeap) : Nat → Bool
  | 0 => true
  | k + 1 => (match look H k with | some _ => true | none => false) && hasAll H k
theorem hasAll_look {H : AHeap} : ∀ {n k : Nat}, hasAll H n = true → k < n → ∃ b, look H k = some b := by
  intro n
  induction n with
  | zero => intro k _ h; omega
  | succ n ih =>
    intro k h hk
    simp only [hasAll, Bool.and_eq_true] at h
    by_cases e : k = n
    · subst e
      cases hl : look H k with
      | none => rw [hl] at h; cases h.1
      | some b => exact ⟨b, rfl⟩
    · exact ih h.2 (by omega)
/-- a callee's end: each of its labels stands once -/
structure Once (H : AHeap) : Prop where
  ok : once H = true
section
variable {P : Program} {G : Glob} {n : Nat} {H : AHeap}
/-- a call of a function to which memory of the caller's own is lent: L names it in the order in which the contract's heap H0 has it (labels from 0 on) -/
theorem acallM0 {f : FuncId} {args args' : List AV} {H0 : AHeap} {R : AV → Nat → AHeap → Prop} {K : AV → Nat → AHeap → Prop} (L : List Nat) (Z : List Nat) (hc : callable P f = true) (h : AFn P G f args' L.length H0 R)
    (hwf : (wfB 0 L.length (lendT 0 L) Z H0 && hasAll H0 L.length) = true) (hH : coH H (lendT 0 L) Z 0 H0) (ha : coL H (lendT 0 L) Z 0 args' args)
    (k : ∀ a m H', R a m H' → once H' = true ∧ K (rnA (bkL L n) a) (n + (m - L.length)) (rnH (bkL L n) H' ++ frz Z (rmL L H))) : ACall P G f args n H K := by
  simp only [Bool.and_eq_true] at hwf
  obtain ⟨hwf, hall⟩ := hwf
  have hwf' := hwf
  simp only [wfB, Bool.and_eq_true] at hwf'
  obtain ⟨⟨_, hT⟩, hwH⟩ := hwf'
  refine ⟨hc, fun w σ F vs st hr => ?_⟩
  have s1 := rebase (H' := H0) (θ := lendT 0 L) (Z := Z) (nb := 0) (n' := L.length) st hwf hH
  have r1 := coL_rep (n' := L.length) (szs := szOf H0) st hT (Nat.zero_le _) args' args vs ha hr
  have lent : ∀ j, (hj : j < L.length) → tr (lendT 0 L) j = some (.lab L[j]) := fun j hj => by
    have := tr_lendT (i := 0) (List.getElem?_eq_getElem hj)
    rwa [Nat.zero_add] at this
  have σ1 : ∀ j, (hj : j < L.length) → σR (lendT 0 L) σ (szOf H0) j = σ L[j] := fun j hj => by unfold σR; rw [lent j hj]
  have inH : ∀ j, (hj : j < L.length) → ∃ b b', look H L[j] = some b ∧ look H0 j = some b' ∧ coB H (lendT 0 L) Z 0 b' b := fun j hj => by
    obtain ⟨b', hb'⟩ := hasAll_look hall hj
    rcases coH_look hH hb' with ⟨e, b, hs, hk, hb⟩ | ⟨ht, _⟩
    · unfold srcOf at hs
      rw [lent j hj] at hs
      injection hs with hs
      subst hs
      exact ⟨b, b', hk, hb', hb⟩
    · rw [lent j hj] at ht; cases ht
  have key0 : ∀ {j b'}, look H0 j = some b' → j < L.length := fun h => (wfH_look hwH h).1
  refine (h w _ _ vs s1.start r1).mono fun v w' ⟨a, m, σ', F', H', hR, s, x, ra⟩ => ?_
  obtain ⟨hon, hK⟩ := k a m H' hR
  have hmu : ∀ b, Mut w (σR (lendT 0 L) σ (szOf H0)) H0 b → ∃ j, ∃ hj : j < L.length, ∃ c, look H L[j] = some c ∧ c.own = true ∧ Occ w (σ L[j]) c b := fun b ⟨j, c, e, ho, hg⟩ => by
    have hj := key0 e
    obtain ⟨b0, b', h1, h2, h3⟩ := inH j hj
    rw [h2] at e
    injection e with e
    subst e
    exact ⟨j, hj, b0, h1, by rw [← coB_own h3]; exact ho, by rw [σ1 j hj] at hg; exact coB_occ h3 hg⟩
  have hm : L.length ≤ m := x.le
  let σn : Nat → Loc := fun l => if l < n then σ l else σ' (l - n + L.length)
  have inN : ∀ j, (hj : j < L.length) → L[j] < n := fun j hj => by obtain ⟨b, _, h1, _⟩ := inH j hj; exact st.lab _ b h1
  have ho : ∀ k, k < n → σn k = σ k := fun k hk => if_pos hk
  have hs : ∀ k, k < m → bkL L n k < n + (m - L.length) ∧ σn (bkL L n k) = σ' k := fun k hk => by
    by_cases hkl : k < L.length
    · rw [bkL_lt (List.getElem?_eq_getElem hkl)]
      have := inN k hkl
      refine ⟨by omega, ?_⟩
      rw [ho _ this, x.s k hkl, σ1 k hkl]
    · rw [bkL_ge (by omega)]
      refine ⟨by omega, ?_⟩
      show (if n + (k - L.length) < n then _ else _) = _
      rw [if_neg (by omega)]
      congr 1
      omega
  have hF : ∀ b, F b → F' b ∧ w'.heap[b]? = w.heap[b]? := fun b hb => x.f b (.inl hb)
  have hE : Ext n σ F w (n + (m - L.length)) σn F' w' := ⟨by omega, ho, hF, x.sz⟩
  have notL : ∀ k b g, k ∉ L → look H k = some b → b.own = true → Occ w (σ k) b g → ¬ Mut w (σR (lendT 0 L) σ (szOf H0)) H0 g := fun k b g hkL hk hm hg hmut => by
    obtain ⟨j, hj, c, h1, h2, h3⟩ := hmu g hmut
    have := st.inj k L[j] b c g hk h1 hm h2 hg h3
    exact hkL (by rw [this]; exact List.getElem_mem hj)
  have old : ∀ k b g, look (frz Z (rmL L H)) k = some b → b.own = true → Occ w (σ k) b g → k ∉ L ∧ look H k = some b ∧ ¬ F' g ∧ G.nb ≤ g ∧ g < w.heap.size ∧ Mut w σ H g := by
    intro k b g hk hm hg
    rcases look_frz hk with ⟨h1, h2⟩ | ⟨_, t, sz, l, _, rfl⟩
    · obtain ⟨hkL, h1⟩ := look_rmL h1
      obtain ⟨m1, m2, m3, m4⟩ := st.mu k b g h1 hm hg
      refine ⟨hkL, h1, fun hf => ?_, m2, m3, ⟨k, b, h1, hm, hg⟩⟩
      rcases (s.fsub g hf).2 with e | e | e
      · rcases e with e | ⟨k', t, sz, l, hz, hk', hg'⟩
        · exact m1 e
        · have := st.inj k k' b _ g h1 hk' hm rfl hg (.inl hg')
          subst this
          rw [h1] at hk'
          injection hk' with hk'
          exact h2 hz t sz l hk'
      · omega
      · exact notL k b g hkL h1 hm hg e
    · cases hm
  have new : ∀ k b g, look (rnH (bkL L n) H') k = some b → b.own = true → Occ w' (σn k) b g → ∃ j c, k = bkL L n j ∧ look H' j = some c ∧ c.own = true ∧ Occ w' (σ' j) c g ∧ ¬ F' g ∧ G.nb ≤ g ∧ g < w'.heap.size ∧ (Mut w (σR (lendT 0 L) σ (szOf H0)) H0 g ∨ w.heap.size ≤ g) := by
    intro k b g hk hm hg
    obtain ⟨j, c, rfl, _, hj, rfl⟩ := look_rnH hk
    have hj := once_look hon hj
    rw [rnB_own] at hm
    rw [(hs j (s.lab j c hj)).2] at hg
    have hg := rnB_occ hg
    obtain ⟨m1, m2, m3, m4⟩ := s.mu j c g hj hm hg
    exact ⟨j, c, rfl, hj, hm, hg, m1, m2, m3, m4⟩
  have bk : ∀ {k b g}, look (frz Z (rmL L H)) k = some b → b.own = true → Occ w' (σ k) b g → Occ w (σ k) b g := fun hk hm hg => hg.back fun y hy => (let ⟨o1, o2, _, _, o5, _⟩ := old _ _ y hk hm (.inl hy); s.chg.block y o5 (notL _ _ y o1 o2 hm (.inl hy)))
  have labO : ∀ k b, look (frz Z (rmL L H)) k = some b → k < n := fun k b hk => by
    rcases look_frz hk with ⟨h1, _⟩ | ⟨_, t, sz, l, h1, _⟩
    · exact st.lab k _ (look_rmL h1).2
    · exact st.lab k _ (look_rmL h1).2
  have cross : ∀ k k' b b' g, look (rnH (bkL L n) H') k = some b → look (frz Z (rmL L H)) k' = some b' → b.own = true → b'.own = true → Occ w' (σn k) b g → Occ w (σ k') b' g → False := by
    intro k k' b b' g hk hk' hm hm' hg hg'
    obtain ⟨j, c, e1, h1, h2, h3, _, _, _, h4⟩ := new k b g hk hm hg
    obtain ⟨o1, o2, _, _, o5, _⟩ := old k' b' g hk' hm' hg'
    rcases h4 with h4 | h4
    · exact notL k' b' g o1 o2 hm' hg' h4
    · omega
  have hst : St G w (Mut w σ H) F (n + (m - L.length)) σn F' (rnH (bkL L n) H' ++ frz Z (rmL L H)) w' := by
    refine ⟨s.glob, ⟨s.chg.os, s.chg.tape, s.chg.output, x.sz, fun b hb hn => s.chg.block b hb fun hmut => hn ?_⟩, fun b hb => ⟨(s.fsub b hb).1, ?_⟩, fun k b hk => ?_, fun k b g hk hm hg => ?_, fun k k' b b' g hk hk' hm hm' hg hg' => ?_, fun k b hk => ?_⟩
    · obtain ⟨j, hj, c, h1, h2, h3⟩ := hmu b hmut
      exact ⟨L[j], c, h1, h2, h3⟩
    · rcases (s.fsub b hb).2 with e | e | e
      · rcases e with e | ⟨k', t, sz, l, hz, hk', hg'⟩
        · exact .inl e
        · exact .inr (.inr ⟨k', _, hk', rfl, .inl hg'⟩)
      · exact .inr (.inl e)
      · obtain ⟨j, hj, c, h1, h2, h3⟩ := hmu b e
        exact .inr (.inr ⟨L[j], c, h1, h2, h3⟩)
    · rcases look_append hk with hk | ⟨_, hk⟩
      · obtain ⟨j, c, rfl, _, hj, _⟩ := look_rnH hk
        exact (hs j (s.lab j c (once_look hon hj))).1
      · have := labO k b hk; omega
    · rcases look_append hk with hk | ⟨_, hk⟩
      · obtain ⟨j, c, _, _, _, _, m1, m2, m3, m4⟩ := new k b g hk hm hg
        refine ⟨m1, m2, m3, m4.elim (fun h => ?_) .inr⟩
        obtain ⟨j, hj, c, h1, h2, h3⟩ := hmu g h
        exact .inl ⟨L[j], c, h1, h2, h3⟩
      · rw [ho k (labO k b hk)] at hg
        obtain ⟨_, _, m1, m2, m3, m4⟩ := old k b g hk hm (bk hk hm hg)
        exact ⟨m1, m2, Nat.lt_of_lt_of_le m3 x.sz, .inl m4⟩
    · rcases look_append hk with hk | ⟨_, hk⟩
      · rcases look_append hk' with hk' | ⟨_, hk'⟩
        · obtain ⟨j, c, e1, h1, h2, h3, _⟩ := new k b g hk hm hg
          obtain ⟨j', c', e1', h1', h2', h3', _⟩ := new k' b' g hk' hm' hg'
          have := s.inj j j' c c' g h1 h1' h2 h2' h3 h3'
          rw [e1, e1', this]
        · rw [ho k' (labO k' b' hk')] at hg'
          exact (cross k k' b b' g hk hk' hm hm' hg (bk hk' hm' hg')).elim
      · rcases look_append hk' with hk' | ⟨_, hk'⟩
        · rw [ho k (labO k b hk)] at hg
          exact (cross k' k b' b g hk' hk hm' hm hg' (bk hk hm hg)).elim
        · rw [ho k (labO k b hk)] at hg
          rw [ho k' (labO k' b' hk')] at hg'
          have h5 := old k b g hk hm (bk hk hm hg)
          have h6 := old k' b' g hk' hm' (bk hk' hm' hg')
          exact st.inj k k' b b' g h5.2.1 h6.2.1 hm hm' (bk hk hm hg) (bk hk' hm' hg')
    · rcases look_append hk with hk | ⟨_, hk⟩
      · obtain ⟨j, c, rfl, _, hj, rfl⟩ := look_rnH hk
        have hj := once_look hon hj
        rw [(hs j (s.lab j c hj)).2]
        exact rnB_rep hs (s.blk j c hj)
      · rw [ho k (labO k b hk)]
        rcases look_frz hk with ⟨h1, _⟩ | ⟨hz, t, sz, l, h1, rfl⟩
        · obtain ⟨hkL, h1⟩ := look_rmL h1
          exact (st.blk k b h1).mono hE fun hm g hg => s.chg.block g (st.mu k b g h1 hm hg).2.2.1 (notL k b g hkL h1 hm hg)
        · obtain ⟨hkL, h1⟩ := look_rmL h1
          have hb := (st.blk k _ h1).mono hE fun hm g hg => s.chg.block g (st.mu k _ g h1 rfl hg).2.2.1 (notL k _ g hkL h1 rfl hg)
          exact fz_of_rows hb (fun _ h => h) fun g hg => (x.f g (.inr ⟨k, t, sz, l, hz, h1, hg⟩)).1
  exact ⟨rnA (bkL L n) a, n + (m - L.length), σn, F', _, hK, hst, hE, rn_rep hs ra⟩
theorem acallM {f : FuncId} {args args' : List AV} {H0 : AHeap} {R : AV → Nat → AHeap → Prop} {K : AV → Nat → AHeap → Prop} (L : List Nat) (Z : List Nat) (hc : callable P f = true) (h : AFn P G f args' L.length H0 R)
    (hwf : (wfB 0 L.length (lendT 0 L) Z H0 && hasAll H0 L.length) = true) (hH : coH H (lendT 0 L) Z 0 H0) (ha : coL H (lendT 0 L) Z 0 args' args)
    (k : ∀ a m H', R a m H' → once H' = true ∧ frc (n + (m - L.length)) (rnH (bkL L n) H' ++ frz Z (rmL L H)) fun n' H'' => K (rnA (bkL L n) a) n' H'') : ACall P G f args n H K :=
  acallM0 L Z hc h hwf hH ha fun a m H' hR => by have := k a m H' hR; rwa [frc_eq] at this
end
end Go.Proofs.YthnncehddnfjmaaDoor.Ax
