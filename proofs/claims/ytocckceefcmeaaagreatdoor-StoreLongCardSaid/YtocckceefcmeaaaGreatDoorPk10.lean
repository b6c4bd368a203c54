/- Joined parts of the proof. Calls of functions that change memory of the caller's: the labels lent come back changed -/
import Derived.Test.YtocckceefcmeaaaGreatDoorPk8
import Derived.RangeFuncLeaves
import Derived.RangeFuncCalls
import Derived.RangeFuncSeq
import Derived.OrdersIn
import Derived.OwnWalkIn
import Derived.Test.YtocckceefcmeaaaGreatDoorPk9
set_option linter.unusedVariables false
set_option linter.unusedSimpArgs false
set_option maxRecDepth 100000
set_option maxHeartbeats 16000000
namespace Go.Proofs.YtocckceefcmeaaaGreatDoor.Ax
open Go Go.RowKit Go.Proofs.YtocckceefcmeaaaGreatDoor.Vc
mutual
def rnA (f : Nat → Nat) : AV → AV
 | .ptr e o => .ptr (f e) o
 | .ep e i o => .ep (f e) i o
 | .own e => .own (f e)
 | .sub e o k => .sub (f e) o k
 | .mp e => .mp (f e)
 | .fn g xs ys => .fn g (rnL f xs) (rnL f ys)
 | .agg cs => .agg (rnL f cs)
 | .tup cs => .tup (rnL f cs)
 | .top => .top
 | .v x => .v x
 | .lst sz l => .lst sz l
 | .fp cs o => .fp cs o
 | .fm M => .fm M
def rnL (f : Nat → Nat) : List AV → List AV
 | [] => []
 | a :: r => rnA f a :: rnL f r
end
def rnB (f : Nat → Nat) : ABlk → ABlk
 | .var t cs => .var t (rnL f cs)
 | .tree t sz l (some (i, j, e)) => .tree t sz l (some (i, j, f e))
 | b => b
def rnH (f : Nat → Nat) : AHeap → AHeap
 | [] => []
 | p :: r => (f p.1, rnB f p.2) :: rnH f r
theorem rnL_eq (f : Nat → Nat) : ∀ l : List AV, rnL f l = l.map (rnA f) := by
 intro l
 induction l with
 | nil => rfl
 | cons a r ih => simp [rnL, ih]
theorem rnB_own (f : Nat → Nat) (b : ABlk) : (rnB f b).own = b.own := by
 cases b with
 | tree t sz l h => cases h <;> rfl
 | _ => rfl
theorem rnB_occ {f : Nat → Nat} {b : ABlk} {w : World} {L : Loc} {g : Nat} (h : Occ w L (rnB f b) g) : Occ w L b g := by
 cases b with
 | tree t sz l o => cases o <;> exact h
 | _ => exact h
section
variable {n m : Nat} {σ σ' : Nat → Loc} {F : Nat → Prop} {w : World} {f : Nat → Nat}
theorem rn_rep (hs : ∀ k, k < m → f k < n ∧ σ' (f k) = σ k) {a : AV} {v : Value} (r : ARep m σ F w a v) : ARep n σ' F w (rnA f a) v := by
 induction r with
 | top x => exact .top x
 | v x => exact .v x
 | lst h => exact .lst h
 | fp h => exact .fp h
 | fm h => exact .fm h
 | ptr l o b hl hb => exact .ptr _ o b (hs l hl).1 (by rw [(hs l hl).2]; exact hb)
 | ep l i o b hl hb => rw [← (hs l hl).2]; exact .ep _ i o b (hs l hl).1 (by rw [(hs l hl).2]; exact hb)
 | own l hl => rw [← (hs l hl).2]; exact .own _ (hs l hl).1
 | ownz l oa hl hn hc => exact .ownz _ oa (hs l hl).1 (by rw [(hs l hl).2]; exact hn) (by rw [(hs l hl).2]; exact hc)
 | sub l o k oa c hl hk hc hnil ho => exact .sub _ o k oa c (hs l hl).1 (by rw [(hs l hl).2]; exact hk) hc hnil (by rw [(hs l hl).2]; exact ho)
 | mp l b hl hb => exact .mp _ b (hs l hl).1 (by rw [(hs l hl).2]; exact hb)
 | fn g xs ys us vs hx hy _ _ ih1 ih2 =>
  simp only [rnA, rnL_eq]
  refine .fn g _ _ us vs (by simp [hx]) (by simp [hy]) (fun j a v h1 h2 => ?_) (fun j a v h1 h2 => ?_)
  ·rw [List.getElem?_map] at h1
   cases hx : xs[j]? with
   | none => rw [hx] at h1; cases h1
   | some x => rw [hx] at h1; injection h1 with h1; rw [← h1]; exact ih1 j x v hx h2
  ·rw [List.getElem?_map] at h1
   cases hy : ys[j]? with
   | none => rw [hy] at h1; cases h1
   | some y => rw [hy] at h1; injection h1 with h1; rw [← h1]; exact ih2 j y v hy h2
 | agg xs us hx _ ih =>
  simp only [rnA, rnL_eq]
  refine .agg _ us (by simp [hx]) (fun j a v h1 h2 => ?_)
  rw [List.getElem?_map] at h1
  cases hx : xs[j]? with
  | none => rw [hx] at h1; cases h1
  | some x => rw [hx] at h1; injection h1 with h1; rw [← h1]; exact ih j x v hx h2
 | tup xs us hx _ ih =>
  simp only [rnA, rnL_eq]
  refine .tup _ us (by simp [hx]) (fun j a v h1 h2 => ?_)
  rw [List.getElem?_map] at h1
  cases hx : xs[j]? with
  | none => rw [hx] at h1; cases h1
  | some x => rw [hx] at h1; injection h1 with h1; rw [← h1]; exact ih j x v hx h2
theorem rnL_rep (hs : ∀ k, k < m → f k < n ∧ σ' (f k) = σ k) {l : List AV} {vs : List Value} (r : RepL m σ F w l vs) : RepL n σ' F w (rnL f l) vs := by
 rw [rnL_eq]
 refine .of (by simp [r.len]) fun j a v h1 h2 => ?_
 rw [List.getElem?_map] at h1
 cases hx : l[j]? with
 | none => rw [hx] at h1; cases h1
 | some x => rw [hx] at h1; injection h1 with h1; rw [← h1]; exact rn_rep hs (r.at j x v hx h2)
theorem rnB_rep (hs : ∀ k, k < m → f k < n ∧ σ' (f k) = σ k) {L : Loc} {b : ABlk} (r : BRep m σ F w L b) : BRep n σ' F w L (rnB f b) := by
 cases b with
 | var t cs => obtain ⟨g, vs, h1, h2, h3, h4⟩ := r; exact ⟨g, vs, h1, h2, rnL_rep hs h3, h4⟩
 | tree t sz l h =>
  cases h with
  | none => obtain ⟨h1, h2, xs, h3, h4, h5, _⟩ := r; exact ⟨h1, h2, xs, h3, h4, h5, fun _ _ _ h => by cases h⟩
  | some p =>
   obtain ⟨i, j, e⟩ := p
   obtain ⟨h1, h2, xs, h3, h4, h5, h6⟩ := r
   refine ⟨h1, h2, xs, h3, h4, h5, fun i' j' e' h => ?_⟩
   injection h with h
   injection h with e1 h
   injection h with e2 e3
   subst e1; subst e2; subst e3
   obtain ⟨a1, a2, a3, a4, v, a5, a6⟩ := h6 _ _ _ rfl
   exact ⟨(hs e a1).1, a2, a3, a4, v, a5, rn_rep hs a6⟩
 | _ => exact r
theorem look_rnH : ∀ {H : AHeap} {k : Nat} {b : ABlk}, look (rnH f H) k = some b → ∃ j c, k = f j ∧ c ∈ H.map (·.2) ∧ (j, c) ∈ H ∧ b = rnB f c := by
 intro H
 induction H with
 | nil => intro k b h; cases h
 | cons p r ih =>
  intro k b h
  obtain ⟨x, c⟩ := p
  simp only [rnH] at h
  rw [look_cons] at h
  split at h
  ·rename_i e
   injection h with h
   exact ⟨x, c, e.symm, by simp, by simp, h.symm⟩
  ·obtain ⟨j, d, h1, h2, h3, h4⟩ := ih h
   exact ⟨j, d, h1, by simp at h2 ⊢; exact .inr h2, by simp [h3], h4⟩
end
def once : AHeap → Bool
 | [] => true
 | p :: r => (match look r p.1 with | some _ => false | none => true) && once r
theorem once_look : ∀ {H : AHeap} {k : Nat} {b : ABlk}, once H = true → (k, b) ∈ H → look H k = some b := by
 intro H
 induction H with
 | nil => intro k b _ h; cases h
 | cons p r ih =>
  intro k b ho h
  obtain ⟨x, c⟩ := p
  simp only [once, Bool.and_eq_true] at ho
  rw [look_cons]
  rcases List.mem_cons.1 h with e | e
  ·injection e with e1 e2
   subst e1; subst e2
   rw [if_pos rfl]
  ·have := ih ho.2 e
   split
   ·rename_i e'
    subst e'
    rw [this] at ho
    cases ho.1
   ·exact this
def rmL (L : List Nat) (H : AHeap) : AHeap :=
 match L with
 | [] => H
 | l :: r => rmL r (rmH H l)
theorem look_rmL : ∀ {L : List Nat} {H : AHeap} {k : Nat} {b : ABlk}, look (rmL L H) k = some b → k ∉ L ∧ look H k = some b := by
 intro L
 induction L with
 | nil => intro H k b h; exact ⟨by simp, h⟩
 | cons l r ih =>
  intro H k b h
  obtain ⟨h1, h2⟩ := ih h
  obtain ⟨h3, h4⟩ := look_rmH h2
  exact ⟨by simp [h1, h3], h4⟩
def lendT (i : Nat) (L : List Nat) : List (Nat × Src) :=
 match L with
 | [] => []
 | l :: r => (i, .lab l) :: lendT (i + 1) r
theorem tr_lendT : ∀ {L : List Nat} {i k l : Nat}, L[k]? = some l → tr (lendT i L) (i + k) = some (.lab l) := by
 intro L
 induction L with
 | nil => intro i k l h; simp at h
 | cons x r ih =>
  intro i k l h
  cases k with
  | zero =>
   simp only [List.getElem?_cons_zero, Option.some.injEq] at h
   subst h
   simp [lendT, tr]
  | succ k =>
   simp only [List.getElem?_cons_succ] at h
   have := ih (i := i + 1) h
   simp only [lendT, tr]
   have e : Nat.beq i (i + (k + 1)) = false := by
    cases hb : Nat.beq i (i + (k + 1)) with
    | false => rfl
    | true => have := Nat.eq_of_beq_eq_true hb; omega
   rw [e, cond_false, show i + (k + 1) = i + 1 + k by omega]
   exact this
def bkL (L : List Nat) (n k : Nat) : Nat :=
 match L, k with
 | [], k => n + k
 | l :: _, 0 => l
 | _ :: r, k + 1 => bkL r n k
theorem bkL_lt : ∀ {L : List Nat} {n k l : Nat}, L[k]? = some l → bkL L n k = l := by
 intro L
 induction L with
 | nil => intro n k l h; simp at h
 | cons x r ih =>
  intro n k l h
  cases k with
  | zero => simp only [List.getElem?_cons_zero, Option.some.injEq] at h; exact h
  | succ k => exact ih (by simpa using h)
theorem bkL_ge : ∀ {L : List Nat} {n k : Nat}, L.length ≤ k → bkL L n k = n + (k - L.length) := by
 intro L
 induction L with
 | nil => intro n k _; simp [bkL]
 | cons x r ih =>
  intro n k h
  cases k with
  | zero => simp at h
  | succ k =>
   simp only [List.length_cons] at h ⊢
   show bkL r n k = _
   rw [ih (by omega)]
   congr 1
   omega
def hasAll (H : AHeap) : Nat → Bool
 | 0 => true
 | k + 1 => (match look H k with | some _ => true | none => false) && hasAll H k
theorem hasAll_look {H : AHeap} : ∀ {n k : Nat}, hasAll H n = true → k < n → ∃ b, look H k = some b := by
 intro n
 induction n with
 | zero => intro k _ h; omega
 | succ n ih =>
  intro k h hk
  simp only [hasAll, Bool.and_eq_true] at h
  by_cases e : k = n
  ·subst e
   cases hl : look H k with
   | none => rw [hl] at h; cases h.1
   | some b => exact ⟨b, rfl⟩
  ·exact ih h.2 (by omega)
structure Once (H : AHeap) : Prop where
 ok : once H = true
section
variable {P : Program} {G : Glob} {n : Nat} {H : AHeap}
theorem acallM0 {f : FuncId} {args args' : List AV} {H0 : AHeap} {R : AV → Nat → AHeap → Prop} {K : AV → Nat → AHeap → Prop} (L : List Nat) (Z : List Nat) (hc : callable P f = true) (h : AFn P G f args' L.length H0 R)
  (hwf : (wfB 0 L.length (lendT 0 L) Z H0 && hasAll H0 L.length) = true) (hH : coH H (lendT 0 L) Z 0 H0) (ha : coL H (lendT 0 L) Z 0 args' args)
  (k : ∀ a m H', R a m H' → once H' = true ∧ K (rnA (bkL L n) a) (n + (m - L.length)) (rnH (bkL L n) H' ++ frz Z (rmL L H))) : ACall P G f args n H K := by
 simp only [Bool.and_eq_true] at hwf
 obtain ⟨hwf, hall⟩ := hwf
 have hwf' := hwf
 simp only [wfB, Bool.and_eq_true] at hwf'
 obtain ⟨⟨_, hT⟩, hwH⟩ := hwf'
 refine ⟨hc, fun w σ F vs st hr => ?_⟩
 have s1 := rebase (H' := H0) (θ := lendT 0 L) (Z := Z) (nb := 0) (n' := L.length) st hwf hH
 have r1 := coL_rep (n' := L.length) (szs := szOf H0) st hT (Nat.zero_le _) args' args vs ha hr
 have lent : ∀ j, (hj : j < L.length) → tr (lendT 0 L) j = some (.lab L[j]) := fun j hj => by
  have := tr_lendT (i := 0) (List.getElem?_eq_getElem hj)
  rwa [Nat.zero_add] at this
 have σ1 : ∀ j, (hj : j < L.length) → σR (lendT 0 L) σ (szOf H0) j = σ L[j] := fun j hj => by unfold σR; rw [lent j hj]
 have inH : ∀ j, (hj : j < L.length) → ∃ b b', look H L[j] = some b ∧ look H0 j = some b' ∧ coB H (lendT 0 L) Z 0 b' b := fun j hj => by
  obtain ⟨b', hb'⟩ := hasAll_look hall hj
  rcases coH_look hH hb' with ⟨e, b, hs, hk, hb⟩ | ⟨ht, _⟩
  ·unfold srcOf at hs
   rw [lent j hj] at hs
   injection hs with hs
   subst hs
   exact ⟨b, b', hk, hb', hb⟩
  ·rw [lent j hj] at ht; cases ht
 have key0 : ∀ {j b'}, look H0 j = some b' → j < L.length := fun h => (wfH_look hwH h).1
 refine (h w _ _ vs s1.start r1).mono fun v w' ⟨a, m, σ', F', H', hR, s, x, ra⟩ => ?_
 obtain ⟨hon, hK⟩ := k a m H' hR
 have hmu : ∀ b, Mut w (σR (lendT 0 L) σ (szOf H0)) H0 b → ∃ j, ∃ hj : j < L.length, ∃ c, look H L[j] = some c ∧ c.own = true ∧ Occ w (σ L[j]) c b := fun b ⟨j, c, e, ho, hg⟩ => by
  have hj := key0 e
  obtain ⟨b0, b', h1, h2, h3⟩ := inH j hj
  rw [h2] at e
  injection e with e
  subst e
  exact ⟨j, hj, b0, h1, by rw [← coB_own h3]; exact ho, by rw [σ1 j hj] at hg; exact coB_occ h3 hg⟩
 have hm : L.length ≤ m := x.le
 let σn : Nat → Loc := fun l => if l < n then σ l else σ' (l - n + L.length)
 have inN : ∀ j, (hj : j < L.length) → L[j] < n := fun j hj => by obtain ⟨b, _, h1, _⟩ := inH j hj; exact st.lab _ b h1
 have ho : ∀ k, k < n → σn k = σ k := fun k hk => if_pos hk
 have hs : ∀ k, k < m → bkL L n k < n + (m - L.length) ∧ σn (bkL L n k) = σ' k := fun k hk => by
  by_cases hkl : k < L.length
  ·rw [bkL_lt (List.getElem?_eq_getElem hkl)]
   have := inN k hkl
   refine ⟨by omega, ?_⟩
   rw [ho _ this, x.s k hkl, σ1 k hkl]
  ·rw [bkL_ge (by omega)]
   refine ⟨by omega, ?_⟩
   show (if n + (k - L.length) < n then _ else _) = _
   rw [if_neg (by omega)]
   congr 1
   omega
 have hF : ∀ b, F b → F' b ∧ w'.heap[b]? = w.heap[b]? := fun b hb => x.f b (.inl hb)
 have hE : Ext n σ F w (n + (m - L.length)) σn F' w' := ⟨by omega, ho, hF, x.sz⟩
 have notL : ∀ k b g, k ∉ L → look H k = some b → b.own = true → Occ w (σ k) b g → ¬ Mut w (σR (lendT 0 L) σ (szOf H0)) H0 g := fun k b g hkL hk hm hg hmut => by
  obtain ⟨j, hj, c, h1, h2, h3⟩ := hmu g hmut
  have := st.inj k L[j] b c g hk h1 hm h2 hg h3
  exact hkL (by rw [this]; exact List.getElem_mem hj)
 have old : ∀ k b g, look (frz Z (rmL L H)) k = some b → b.own = true → Occ w (σ k) b g → k ∉ L ∧ look H k = some b ∧ ¬ F' g ∧ G.nb ≤ g ∧ g < w.heap.size ∧ Mut w σ H g := by
  intro k b g hk hm hg
  rcases look_frz hk with ⟨h1, h2⟩ | ⟨_, t, sz, l, _, rfl⟩
  ·obtain ⟨hkL, h1⟩ := look_rmL h1
   obtain ⟨m1, m2, m3, m4⟩ := st.mu k b g h1 hm hg
   refine ⟨hkL, h1, fun hf => ?_, m2, m3, ⟨k, b, h1, hm, hg⟩⟩
   rcases (s.fsub g hf).2 with e | e | e
   ·rcases e with e | ⟨k', t, sz, l, hz, hk', hg'⟩
    ·exact m1 e
    ·have := st.inj k k' b _ g h1 hk' hm rfl hg (.inl hg')
     subst this
     rw [h1] at hk'
     injection hk' with hk'
     exact h2 hz t sz l hk'
   ·omega
   ·exact notL k b g hkL h1 hm hg e
  ·cases hm
 have new : ∀ k b g, look (rnH (bkL L n) H') k = some b → b.own = true → Occ w' (σn k) b g → ∃ j c, k = bkL L n j ∧ look H' j = some c ∧ c.own = true ∧ Occ w' (σ' j) c g ∧ ¬ F' g ∧ G.nb ≤ g ∧ g < w'.heap.size ∧ (Mut w (σR (lendT 0 L) σ (szOf H0)) H0 g ∨ w.heap.size ≤ g) := by
  intro k b g hk hm hg
  obtain ⟨j, c, rfl, _, hj, rfl⟩ := look_rnH hk
  have hj := once_look hon hj
  rw [rnB_own] at hm
  rw [(hs j (s.lab j c hj)).2] at hg
  have hg := rnB_occ hg
  obtain ⟨m1, m2, m3, m4⟩ := s.mu j c g hj hm hg
  exact ⟨j, c, rfl, hj, hm, hg, m1, m2, m3, m4⟩
 have bk : ∀ {k b g}, look (frz Z (rmL L H)) k = some b → b.own = true → Occ w' (σ k) b g → Occ w (σ k) b g := fun hk hm hg => hg.back fun y hy => (let ⟨o1, o2, _, _, o5, _⟩ := old _ _ y hk hm (.inl hy); s.chg.block y o5 (notL _ _ y o1 o2 hm (.inl hy)))
 have labO : ∀ k b, look (frz Z (rmL L H)) k = some b → k < n := fun k b hk => by
  rcases look_frz hk with ⟨h1, _⟩ | ⟨_, t, sz, l, h1, _⟩
  ·exact st.lab k _ (look_rmL h1).2
  ·exact st.lab k _ (look_rmL h1).2
 have cross : ∀ k k' b b' g, look (rnH (bkL L n) H') k = some b → look (frz Z (rmL L H)) k' = some b' → b.own = true → b'.own = true → Occ w' (σn k) b g → Occ w (σ k') b' g → False := by
  intro k k' b b' g hk hk' hm hm' hg hg'
  obtain ⟨j, c, e1, h1, h2, h3, _, _, _, h4⟩ := new k b g hk hm hg
  obtain ⟨o1, o2, _, _, o5, _⟩ := old k' b' g hk' hm' hg'
  rcases h4 with h4 | h4
  ·exact notL k' b' g o1 o2 hm' hg' h4
  ·omega
 have hst : St G w (Mut w σ H) F (n + (m - L.length)) σn F' (rnH (bkL L n) H' ++ frz Z (rmL L H)) w' := by
  refine ⟨s.glob, ⟨s.chg.os, s.chg.tape, s.chg.output, x.sz, fun b hb hn => s.chg.block b hb fun hmut => hn ?_⟩, fun b hb => ⟨(s.fsub b hb).1, ?_⟩, fun k b hk => ?_, fun k b g hk hm hg => ?_, fun k k' b b' g hk hk' hm hm' hg hg' => ?_, fun k b hk => ?_⟩
  ·obtain ⟨j, hj, c, h1, h2, h3⟩ := hmu b hmut
   exact ⟨L[j], c, h1, h2, h3⟩
  ·rcases (s.fsub b hb).2 with e | e | e
   ·rcases e with e | ⟨k', t, sz, l, hz, hk', hg'⟩
    ·exact .inl e
    ·exact .inr (.inr ⟨k', _, hk', rfl, .inl hg'⟩)
   ·exact .inr (.inl e)
   ·obtain ⟨j, hj, c, h1, h2, h3⟩ := hmu b e
    exact .inr (.inr ⟨L[j], c, h1, h2, h3⟩)
  ·rcases look_append hk with hk | ⟨_, hk⟩
   ·obtain ⟨j, c, rfl, _, hj, _⟩ := look_rnH hk
    exact (hs j (s.lab j c (once_look hon hj))).1
   ·have := labO k b hk; omega
  ·rcases look_append hk with hk | ⟨_, hk⟩
   ·obtain ⟨j, c, _, _, _, _, m1, m2, m3, m4⟩ := new k b g hk hm hg
    refine ⟨m1, m2, m3, m4.elim (fun h => ?_) .inr⟩
    obtain ⟨j, hj, c, h1, h2, h3⟩ := hmu g h
    exact .inl ⟨L[j], c, h1, h2, h3⟩
   ·rw [ho k (labO k b hk)] at hg
    obtain ⟨_, _, m1, m2, m3, m4⟩ := old k b g hk hm (bk hk hm hg)
    exact ⟨m1, m2, Nat.lt_of_lt_of_le m3 x.sz, .inl m4⟩
  ·rcases look_append hk with hk | ⟨_, hk⟩
   ·rcases look_append hk' with hk' | ⟨_, hk'⟩
    ·obtain ⟨j, c, e1, h1, h2, h3, _⟩ := new k b g hk hm hg
     obtain ⟨j', c', e1', h1', h2', h3', _⟩ := new k' b' g hk' hm' hg'
     have := s.inj j j' c c' g h1 h1' h2 h2' h3 h3'
     rw [e1, e1', this]
    ·rw [ho k' (labO k' b' hk')] at hg'
     exact (cross k k' b b' g hk hk' hm hm' hg (bk hk' hm' hg')).elim
   ·rcases look_append hk' with hk' | ⟨_, hk'⟩
    ·rw [ho k (labO k b hk)] at hg
     exact (cross k' k b' b g hk' hk hm' hm hg' (bk hk hm hg)).elim
    ·rw [ho k (labO k b hk)] at hg
     rw [ho k' (labO k' b' hk')] at hg'
     have h5 := old k b g hk hm (bk hk hm hg)
     have h6 := old k' b' g hk' hm' (bk hk' hm' hg')
     exact st.inj k k' b b' g h5.2.1 h6.2.1 hm hm' (bk hk hm hg) (bk hk' hm' hg')
  ·rcases look_append hk with hk | ⟨_, hk⟩
   ·obtain ⟨j, c, rfl, _, hj, rfl⟩ := look_rnH hk
    have hj := once_look hon hj
    rw [(hs j (s.lab j c hj)).2]
    exact rnB_rep hs (s.blk j c hj)
   ·rw [ho k (labO k b hk)]
    rcases look_frz hk with ⟨h1, _⟩ | ⟨hz, t, sz, l, h1, rfl⟩
    ·obtain ⟨hkL, h1⟩ := look_rmL h1
     exact (st.blk k b h1).mono hE fun hm g hg => s.chg.block g (st.mu k b g h1 hm hg).2.2.1 (notL k b g hkL h1 hm hg)
    ·obtain ⟨hkL, h1⟩ := look_rmL h1
     have hb := (st.blk k _ h1).mono hE fun hm g hg => s.chg.block g (st.mu k _ g h1 rfl hg).2.2.1 (notL k _ g hkL h1 rfl hg)
     exact fz_of_rows hb (fun _ h => h) fun g hg => (x.f g (.inr ⟨k, t, sz, l, hz, h1, hg⟩)).1
 exact ⟨rnA (bkL L n) a, n + (m - L.length), σn, F', _, hK, hst, hE, rn_rep hs ra⟩
theorem acallM {f : FuncId} {args args' : List AV} {H0 : AHeap} {R : AV → Nat → AHeap → Prop} {K : AV → Nat → AHeap → Prop} (L : List Nat) (Z : List Nat) (hc : callable P f = true) (h : AFn P G f args' L.length H0 R)
  (hwf : (wfB 0 L.length (lendT 0 L) Z H0 && hasAll H0 L.length) = true) (hH : coH H (lendT 0 L) Z 0 H0) (ha : coL H (lendT 0 L) Z 0 args' args)
  (k : ∀ a m H', R a m H' → once H' = true ∧ frc (n + (m - L.length)) (rnH (bkL L n) H' ++ frz Z (rmL L H)) fun n' H'' => K (rnA (bkL L n) a) n' H'') : ACall P G f args n H K :=
 acallM0 L Z hc h hwf hH ha fun a m H' hR => by have := k a m H' hR; rwa [frc_eq] at this
end
def Fen (r : Option Nat) : Fence := { fn := fun _ => True, depth := none, alive := false, round := r }
theorem callsIn_Fen {r : Option Nat} {n : Nat} {P : Program} {f : FuncId} {args : Array Value} {w : World} {R : Ending → World → Prop} (h : Calls P f args w R) : CallsIn (Fen r) n P f args w R := (callsIn_wide (n := n)).2 h
theorem rowsIn_Fen {r : Option Nat} {n : Nat} {P : Program} {row : String} {args : Array Value} {w : World} {R : Value → World → Prop} (h : Rows P row args w R) : RowsIn (Fen r) n P row args w R :=
 fun c cs _ => let ⟨v, w', hr, s⟩ := h c cs; ⟨v, w', hr, (stepsIn_wide (P := P)).2 s⟩
def noDefer (o : Oper) : Bool := match o.op with | .defer _ => false | _ => true
theorem noDefer_ne {o : Oper} (h : noDefer o = true) : ∀ c, o.op ≠ .defer c := fun c e => by unfold noDefer at h; rw [e] at h; cases h
section
variable {P : Program} {r : Option Nat} {n : Nat} {ops : Array Oper} {Q : Exit → Act → World → Prop}
theorem wp_toIn {o : Oper} {a : Act} {w : World} {next next' : Act → World → Prop} (hd : noDefer o = true) (hn : ∀ a w, next a w → next' a w) (h : o.wp P a w next Q) : o.wpIn (Fen r) n P a w next' Q := by
 refine ⟨fun _ _ => trivial, ?_⟩
 have e : o.semAt (Fen r).round a.eval = execOp a.eval o := Oper.semAt_plain (Fen r) _ o (noDefer_ne hd)
 rw [e]
 unfold Oper.wp at h
 generalize (execOp a.eval o).run P w = res at *
 cases res with
 | ok x w' =>
  cases x with
  | value v => exact hn _ _ h
  | skip => exact hn _ _ h
  | defer d => exact hn _ _ h
  | enter f args =>
   refine ⟨(fun hh => by cases hh), callsIn_Fen (Calls.mono h fun e w'' he => ?_)⟩
   cases e with
   | returned v => exact hn _ _ he
   | panicked ch => exact he
   | outgrown => exact he
  | row row args => exact ⟨(fun hh => by cases hh), rowsIn_Fen (Rows.mono h fun v w'' he => hn _ _ he)⟩
  | round l f tmps ars bo => exact h.elim
  | _ => exact h.elim
 | halt x w' =>
  cases x with
  | panic v => exact h
  | _ => exact h.elim
theorem ops_toIn (hq : ¬ LetsOut Q) : ∀ (l : List Nat), (∀ i ∈ l, ∀ o, ops[i]? = some o → noDefer o = true) → ∀ a w, wpOps P ops Q l a w → wpOpsIn (Fen r) n P ops Q l a w := by
 intro l
 induction l with
 | nil => intro _ a w h; exact h
 | cons i rest ih =>
  intro hd a w h
  have ih := ih fun j hj => hd j (List.mem_cons_of_mem _ hj)
  unfold wpOps at h
  unfold wpOpsIn
  cases ho : ops[i]? with
  | none => rw [ho] at h; exact ih a w h
  | some o =>
   simp only [ho] at h ⊢
   split
   ·rename_i hw
    rw [if_pos hw] at h
    exact wp_toIn (hd i List.mem_cons_self o ho) ih (h.resolve_right fun hh => hq hh.2)
   ·rename_i hw
    rw [if_neg hw] at h
    exact ⟨fun _ _ => trivial, ih _ _ h⟩
theorem op_toIn (hq : ¬ LetsOut Q) {i : Nat} (hd : ∀ (i : Nat) (o : Oper), ops[i]? = some o → noDefer o = true) {a : Act} {w : World} {K K' : Act → World → Prop} (hn : ∀ a w, K a w → K' a w) (h : wpOp P ops Q i K a w) : wpOpIn (Fen r) n P ops Q i K' a w := by
 unfold Go.wpOp at h
 unfold Go.wpOpIn
 cases ho : ops[i]? with
 | none => simp only [ho] at h ⊢; exact hn _ _ h
 | some o =>
  simp only [ho] at h ⊢
  split
  ·rename_i hw
   rw [if_pos hw] at h
   exact wp_toIn (hd i o ho) hn (h.resolve_right fun hh => hq hh.2)
  ·rename_i hw
   rw [if_neg hw] at h
   exact ⟨fun _ _ => trivial, hn _ _ h⟩
theorem any_toIn (hq : ¬ LetsOut Q) {md : Region.Mode} (hd : ∀ (i : Nat) (o : Oper), ops[i]? = some o → noDefer o = true) : ∀ (fuel : Nat) (listed : Array Bool) (a : Act) (w : World), wpAny P md ops Q fuel listed a w → wpAnyIn (Fen r) n P md ops Q fuel listed a w := by
 intro fuel
 induction fuel with
 | zero => intro listed a w h; exact h
 | succ fuel ih => intro listed a w h; exact ⟨h.1, fun i hi => op_toIn hq hd (fun a w => ih _ a w) (h.2 i hi)⟩
end
structure Off (G : Glob) (w₀ : World) (σ : Nat → Loc) (F : Nat → Prop) (H : AHeap) (w : World) (k : Nat) : Prop where
 new : w₀.heap.size ≤ k
 nb : G.nb ≤ k
 lt : k < w.heap.size
 nf : ¬ F k
 nm : ¬ Mut w σ H k
section
variable {G : Glob} {w₀ : World} {M₀ F₀ : Nat → Prop} {n n' : Nat} {σ σ' : Nat → Loc} {F F' : Nat → Prop} {H H' : AHeap} {w w' : World} {k : Nat}
theorem Off.step (h : Off G w₀ σ F H w k) (s : St G w (Mut w σ H) F n' σ' F' H' w') : Off G w₀ σ' F' H' w' k ∧ w'.heap[k]? = w.heap[k]? := by
 refine ⟨⟨h.new, h.nb, Nat.lt_of_lt_of_le h.lt s.chg.size, fun hf => ?_, fun ⟨ell, blk, h1, h2, h3⟩ => ?_⟩, s.chg.block k h.lt h.nm⟩
 ·have hl := h.lt
  rcases (s.fsub k hf).2 with e | e | e
  ·exact h.nf e
  ·omega
  ·exact h.nm e
 ·have hl := h.lt
  rcases (s.mu ell blk k h1 h2 h3).2.2.2 with e | e
  ·exact h.nm e
  ·omega
theorem ext_put (o : Obj) (nf : ¬ F k) : Ext n σ F w n σ F (w.putObj k o) :=
 ⟨Nat.le_refl _, fun _ _ => rfl, fun b hb => ⟨hb, World.putObj_heap_other fun e => nf (e ▸ hb)⟩, Nat.le_of_eq World.putObj_size.symm⟩
theorem St.put (st : St G w₀ M₀ F₀ n σ F H w) (h : Off G w₀ σ F H w k) (o : Obj) : St G w₀ M₀ F₀ n σ F H (w.putObj k o) := by
 have hs : (w.putObj k o).heap.size = w.heap.size := World.putObj_size
 have hb : ∀ b, b ≠ k → (w.putObj k o).heap[b]? = w.heap[b]? := fun b hb => World.putObj_heap_other hb
 have hk := h.nb
 have hn := h.new
 have bk : ∀ {ell b g}, look H ell = some b → b.own = true → Occ (w.putObj k o) (σ ell) b g → Occ w (σ ell) b g := fun h1 hm hg => hg.back fun y hy => hb y fun e => h.nm ⟨_, _, h1, hm, .inl (e ▸ hy)⟩
 refine ⟨Glob.chg st.glob (Nat.le_of_eq hs.symm) fun b hb' => hb b (by omega), ⟨st.chg.os, st.chg.tape, st.chg.output, by rw [hs]; exact st.chg.size, fun b h1 h2 => (hb b (by omega)).trans (st.chg.block b h1 h2)⟩, fun b hb' => ⟨by rw [hs]; exact (st.fsub b hb').1, (st.fsub b hb').2⟩, st.lab, fun ell b g h1 h2 h3 => ?_, fun e e' b b' g h1 h2 m1 m2 g1 g2 => st.inj e e' b b' g h1 h2 m1 m2 (bk h1 m1 g1) (bk h2 m2 g2), fun ell b h1 => ?_⟩
 ·obtain ⟨a1, a2, a3, a4⟩ := st.mu ell b g h1 h2 (bk h1 h2 h3)
  exact ⟨a1, a2, by rw [hs]; exact a3, a4⟩
 ·exact (st.blk ell b h1).mono (ext_put o h.nf) fun hm g hg => hb g fun e => h.nm ⟨ell, b, h1, hm, e ▸ hg⟩
theorem Off.put (h : Off G w₀ σ F H w k) {l : Nat} {w₁ : World} (hl : Off G w₁ σ F H w l) (o : Obj) : Off G w₀ σ F H (w.putObj l o) k :=
 ⟨h.new, h.nb, by rw [World.putObj_size]; exact h.lt, h.nf, fun ⟨e, b, h1, h2, h3⟩ => h.nm ⟨e, b, h1, h2, h3.back fun y hy => World.putObj_heap_other fun e' => by subst e'; exact hl.nm ⟨e, b, h1, h2, .inl hy⟩⟩⟩
theorem ext_grow (st : St G w₀ M₀ F₀ n σ F H w) (hB : Below w.heap.size w w') : Ext n σ F w n σ F w' := ⟨Nat.le_refl _, fun _ _ => rfl, fun b hb => ⟨hb, hB.block b (st.fsub b hb).1⟩, hB.size⟩
theorem St.grow (st : St G w₀ M₀ F₀ n σ F H w) (hB : Below w.heap.size w w') : St G w₀ M₀ F₀ n σ F H w' := by
 have h0 := st.chg.size
 have bk : ∀ {ell b g}, look H ell = some b → b.own = true → Occ w' (σ ell) b g → Occ w (σ ell) b g := fun h1 hm hg => hg.back fun y hy => hB.block y (st.mu _ _ y h1 hm (.inl hy)).2.2.1
 refine ⟨Glob.chg st.glob hB.size fun b hb => hB.block b (Nat.lt_of_lt_of_le hb st.glob.1), ⟨hB.os.trans st.chg.os, hB.tape.trans st.chg.tape, hB.output.trans st.chg.output, Nat.le_trans h0 hB.size, fun b h1 h2 => (hB.block b (by omega)).trans (st.chg.block b h1 h2)⟩, fun b hb => ⟨Nat.lt_of_lt_of_le (st.fsub b hb).1 hB.size, (st.fsub b hb).2⟩, st.lab, fun ell b g h1 h2 h3 => ?_, fun e e' b b' g h1 h2 m1 m2 g1 g2 => st.inj e e' b b' g h1 h2 m1 m2 (bk h1 m1 g1) (bk h2 m2 g2), fun ell b h1 => ?_⟩
 ·obtain ⟨a1, a2, a3, a4⟩ := st.mu ell b g h1 h2 (bk h1 h2 h3)
  exact ⟨a1, a2, Nat.lt_of_lt_of_le a3 hB.size, a4⟩
 ·exact (st.blk ell b h1).mono (ext_grow st hB) fun hm g hg => hB.block g (st.mu ell b g h1 hm hg).2.2.1
theorem Off.grow (h : Off G w₀ σ F H w k) (st : St G w₀ M₀ F₀ n σ F H w) (hB : Below w.heap.size w w') : Off G w₀ σ F H w' k :=
 ⟨h.new, h.nb, Nat.lt_of_lt_of_le h.lt hB.size, h.nf, fun ⟨e, b, h1, h2, h3⟩ => h.nm ⟨e, b, h1, h2, h3.back fun y hy => hB.block y (st.mu _ _ y h1 h2 (.inl hy)).2.2.1⟩⟩
end
def mark (D : Nat) : Deferred := { target := .collected D, args := #[] }
structure MK (G : Glob) (w₀ : World) (L : List Nat) (σ : Nat → Loc) (F : Nat → Prop) (H : AHeap) (w : World) : Prop where
 nodup : L.Nodup
 off : ∀ D ∈ L, Off G w₀ σ F H w D
 obj : ∀ D ∈ L, w.heap[D]? = some (.deferred (some []))
theorem MK.nil {G : Glob} {w₀ : World} {σ : Nat → Loc} {F : Nat → Prop} {H : AHeap} {w : World} : MK G w₀ [] σ F H w := ⟨List.nodup_nil, fun _ h => (by cases h), fun _ h => (by cases h)⟩
theorem MK.step {G : Glob} {w₀ : World} {L : List Nat} {n' : Nat} {σ σ' : Nat → Loc} {F F' : Nat → Prop} {H H' : AHeap} {w w' : World} (h : MK G w₀ L σ F H w) (s : St G w (Mut w σ H) F n' σ' F' H' w') : MK G w₀ L σ' F' H' w' :=
 ⟨h.nodup, fun D hD => ((h.off D hD).step s).1, fun D hD => ((h.off D hD).step s).2.trans (h.obj D hD)⟩
theorem marks_leave {P : Program} {fn : Func} {tmps : Array Value} {R : Ending → World → Prop} {G : Glob} {w₀ : World} {M₀ F₀ : Nat → Prop} {n : Nat} {σ : Nat → Loc} {F : Nat → Prop} {H : AHeap} :
  ∀ (L : List Nat) (w : World), MK G w₀ L σ F H w → St G w₀ M₀ F₀ n σ F H w → (∀ w', St G w₀ M₀ F₀ n σ F H w' → Ext n σ F w n σ F w' → LeavesIn (Fen none) 0 P fn tmps R [] .returning w') → LeavesInM (Fen none) 0 P fn tmps R (L.map mark) .returning w := by
 intro L
 induction L with
 | nil => intro w _ st h; exact h w st (Ext.refl _ _ _ _)
 | cons D L ih =>
  intro w hm st h
  have ho := hm.off D List.mem_cons_self
  have hnd := List.nodup_cons.1 hm.nodup
  refine ⟨(by simp), .inl ⟨D, _, rfl, run_takeDeferred (hm.obj D List.mem_cons_self), ih _ ⟨hnd.2, fun D' h' => (hm.off D' (List.mem_cons_of_mem _ h')).put ho _, fun D' h' => ?_⟩ (st.put ho _) fun w' s x => h w' s ((ext_put _ ho.nf).trans x)⟩⟩
  rw [World.putObj_heap_other (fun e : D' = D => hnd.1 (e ▸ h'))]
  exact hm.obj D' (List.mem_cons_of_mem _ h')
def AIt (P : Program) (G : Glob) (gf : FuncId) (caps : List AV) (xs : List (List AV)) : Prop :=
 ∀ (n : Nat) (σ : Nat → Loc) (F : Nat → Prop) (vs : List Value) (W : World) (l : Nat) (J : Nat → World → Prop), G.holds W → (∀ b, F b → b < W.heap.size) → RepL n σ F W caps vs →
  (∀ i W' W'', J i W' → Below W'.heap.size W' W'' → J i W'') →
  (∀ i W', J i W' → W.heap.size ≤ W'.heap.size ∧ G.holds W' ∧ ∀ b, F b → W'.heap[b]? = W.heap[b]?) →
  (∀ i x W' args, xs[i]? = some x → J i W' → RepL n σ F W' x args → YieldAt (Fen none) 0 P l args.toArray W' fun e W'' => e = .returned (.bool true) ∧ J (i + 1) W'') →
  J 0 W → CallsIn (Fen none) 0 P gf (#[.func (.yield l) #[] #[]] ++ vs.toArray) W fun e W' => (∃ v, e = .returned v) ∧ J xs.length W'
def setPs (ρ : ARegs) (ps : List Tmp) (x : List AV) : ARegs :=
 match ps, x with
 | p :: ps, a :: x => setPs (aupd ρ p a) ps x
 | _, _ => ρ
def yThen (K : ARegs → Nat → AHeap → Prop) (e : Ex) (ρ : ARegs) (n : Nat) (H : AHeap) : Prop :=
 match e with
 | .normal => K ρ n H
 | _ => False
structure ARange (P : Program) (G : Glob) (gv : AV) (ps : Array Tmp) (A B : (Ex → ARegs → Nat → AHeap → Prop) → ARegs → Nat → AHeap → Prop) (Q : Ex → ARegs → Nat → AHeap → Prop) (ρ : ARegs) (n : Nat) (H : AHeap) : Prop where
 ex : ∃ (gf : FuncId) (caps : List AV) (xs : List (List AV)) (nl : Nat) (Hs : Nat → AHeap), gv = .fn (.func gf) [] caps ∧ callable P gf = true ∧ AIt P G gf caps xs ∧ n ≤ nl ∧ (∀ x ∈ xs, x.length = ps.size) ∧
  Reb G (fun _ => false) n ρ n H ρ nl (Hs 0) ∧
  (∀ i x, xs[i]? = some x → A (yThen (B (yThen fun ρ' n' H' => ABack (Reb G (fun _ => false) n ρ' n' H' ρ nl (Hs (i + 1)))))) (setPs ρ ps.toList x) nl (Hs i)) ∧
  Q .normal ρ nl (Hs xs.length)
def aY (P : Program) (G : Glob) (c : Code) (Q : Ex → ARegs → Nat → AHeap → Prop) (ρ : ARegs) (n : Nat) (H : AHeap) : Prop :=
 match c with
 | .skip => Q .normal ρ n H
 | .region id ops draw => (match draw with
  | false => aOps P G ops.toList ops.toList ρ n H (Q .normal)
  | true => ADraw P G id ops (Q .normal) ρ n H)
 | .seq a b => aY P G a (aSeq (aY P G b) Q) ρ n H
 | .cond c t e => (match aopd ρ c with
  | .v (.bool b) => vif b (aY P G t Q ρ n H) (aY P G e Q ρ n H)
  | _ => False)
 | .block id body => aY P G body (aBlk id Q) ρ n H
 | .loop body => ALoop G body (aY P G body) Q ρ n H
 | .exit id => Q (.exit id) ρ n H
 | .ret => Q .ret ρ n H
 | .rangeFunc g ps assign body => ARange P G (aopd ρ g) ps (aY P G assign) (aY P G body) Q ρ n H
 | _ => False
def codeY (rf : Bool) (N : Nat) (W : Nat → Bool) : Code → Bool
 | .region _ ops _ => ops.toList.all fun o => opOK N W o && hiOK o && noDefer o
 | .seq a b => codeY rf N W a && codeY rf N W b
 | .cond _ a b => codeY rf N W a && codeY rf N W b
 | .block _ b => codeY rf N W b
 | .loop b => codeY rf N W b
 | .skip | .exit _ | .ret => true
 | .rangeFunc _ ps a b => rf && ps.toList.all (Nat.blt · N) && codeY false N (fun _ => true) a && codeY false N (fun _ => true) b
 | _ => false
theorem codeY_inter {rf : Bool} {N : Nat} {W ws : Nat → Bool} : ∀ c : Code, codeY rf N W c = true → writesIn ws c = true → codeY rf N (fun k => W k && ws k) c = true := by
 intro c
 induction c with
 | region id ops d =>
  intro h1 h2
  simp only [codeY, writesIn, List.all_eq_true, Bool.and_eq_true] at *
  intro o ho
  obtain ⟨⟨a1, a3⟩, a4⟩ := h1 o ho
  have a2 := h2 o ho
  refine ⟨⟨?_, a3⟩, a4⟩
  unfold opOK at *
  unfold opIn at a2
  cases hd : o.dst with
  | none => rfl
  | some d => simp only [hd, Bool.and_eq_true] at a1 a2 ⊢; exact ⟨a1.1, a1.2, a2⟩
 | seq a b iha ihb => intro h1 h2; simp only [codeY, writesIn, Bool.and_eq_true] at *; exact ⟨iha h1.1 h2.1, ihb h1.2 h2.2⟩
 | cond c a b iha ihb => intro h1 h2; simp only [codeY, writesIn, Bool.and_eq_true] at *; exact ⟨iha h1.1 h2.1, ihb h1.2 h2.2⟩
 | block id b ih => intro h1 h2; simp only [codeY, writesIn] at *; exact ih h1 h2
 | loop b ih => intro h1 h2; simp only [codeY, writesIn] at *; exact ih h1 h2
 | skip => intro _ _; rfl
 | exit id => intro _ _; rfl
 | ret => intro _ _; rfl
 | rangeFunc g ps a b _ _ => intro h1 _; exact h1
 | scope b _ => intro h1 _; simp [codeY] at h1
 | label l => intro h1 _; simp [codeY] at h1
 | _ => intro h1 h2; simp [writesIn] at h2
structure AtY (G : Glob) (w₀ : World) (M₀ F₀ : Nat → Prop) (N : Nat) (Lp : List Nat → Prop) (W : Nat → Bool) (ρ₀ : Regs) (nb : Nat) (σb : Nat → Loc) (Fb : Nat → Prop) (wb : World) (K : ARegs → Nat → AHeap → Prop) (a : Act) (w : World) : Prop where
 ex : ∃ L ρ ρa n σ F H, Lp L ∧ Fits N (L.map mark) ρ a ∧ Same W ρ₀ ρ ∧ St G w₀ M₀ F₀ n σ F H w ∧ Ext nb σb Fb wb n σ F w ∧ Reps n σ F w ρa ρ ∧ MK G w₀ L σ F H w ∧ K ρa n H
def AQY (G : Glob) (w₀ : World) (M₀ F₀ : Nat → Prop) (N : Nat) (Lp : List Nat → Prop) (W : Nat → Bool) (ρ₀ : Regs) (nb : Nat) (σb : Nat → Loc) (Fb : Nat → Prop) (wb : World) (Q : Ex → ARegs → Nat → AHeap → Prop) : Exit → Act → World → Prop
 | .normal, a, w => AtY G w₀ M₀ F₀ N Lp W ρ₀ nb σb Fb wb (Q .normal) a w
 | .exit id, a, w => AtY G w₀ M₀ F₀ N Lp W ρ₀ nb σb Fb wb (Q (.exit id)) a w
 | .ret, a, w => AtY G w₀ M₀ F₀ N Lp W ρ₀ nb σb Fb wb (Q .ret) a w
 | _, _, _ => False
theorem wpIn_loop_ix {F : Fence} {n : Nat} {P : Program} {c : Code} {Q : Exit → Act → World → Prop} {a : Act} {w : World} (I : Nat → Act → World → Prop) (m : Nat) (h₀ : I m a w)
  (round : ∀ m a w, I m a w → c.wpIn F n P (Exit.then (fun a' w' => ∃ m', m' < m ∧ I m' a' w') Q) a w) : (Code.loop c).wpIn F n P Q a w := by
 intro b k cs hro hb hr
 have key : ∀ m a w, I m a w → ∃ e a' w', Q e a' w' ∧ ArrivesIn (Machine.fenced P F) P (lone (b.atR a (.code c :: .inLoop c :: k)) cs w) b k cs e a' w' := by
  intro m
  induction m using Nat.strongRecOn with
  | _ m ih =>
   intro a w hI
   obtain ⟨e, a₁, w₁, hq, harr⟩ := round m a w hI b (.inLoop c :: k) cs hro hb hr
   cases e with
   | normal =>
    obtain ⟨m', hlt, hI₁⟩ := hq
    obtain ⟨e₂, a₂, w₂, hq₂, harr₂⟩ := ih m' hlt a₁ w₁ hI₁
    exact ⟨e₂, a₂, w₂, hq₂, .of_steps (StepsIn.trans harr (.one (fenced_calm hb hr rfl) stepR_inLoop)) harr₂⟩
   | exit id => exact ⟨_, a₁, w₁, hq, .pass (x := .inLoop c) rfl (fun _ _ => .inl (by simp)) harr⟩
   | goto l => exact ⟨_, a₁, w₁, hq, .pass (x := .inLoop c) rfl (fun _ _ => .inl (by simp)) harr⟩
   | ret => exact ⟨_, a₁, w₁, hq, .pass (x := .inLoop c) rfl (fun _ _ => .inl (by simp)) harr⟩
   | panic ch => exact ⟨_, a₁, w₁, hq, .pass (x := .inLoop c) rfl (fun _ _ => .inl (by simp)) harr⟩
   | outgrown => exact ⟨_, a₁, w₁, hq, .pass (x := .inLoop c) rfl (fun _ _ => .inl (by simp)) harr⟩
 obtain ⟨e, a', w', hq, harr⟩ := key m a w h₀
 exact ⟨e, a', w', hq, .of_steps (.one (fenced_calm hb hr rfl) stepR_loop) harr⟩
section
variable {P : Program} {G : Glob} {N : Nat}
theorem Fits.setPs {n : Nat} {σ : Nat → Loc} {F : Nat → Prop} {w : World} : ∀ (ps : List Tmp) (x : List AV) (vs : List Value) (ρa : ARegs) (ρ : Regs) (t : Array Value), (∀ p ∈ ps, p < N) → x.length = ps.length → RepL n σ F w x vs → Fits N [] ρ { tmps := t, defers := [] } → Reps n σ F w ρa ρ →
  ∃ ρ', Fits N [] ρ' { tmps := (ps.zip vs).foldl (fun t (p, v) => t.setIfInBounds p v) t, defers := [] } ∧ Reps n σ F w (Ax.setPs ρa ps x) ρ' := by
 intro ps
 induction ps with
 | nil => intro x vs ρa ρ t _ _ _ hf hr; exact ⟨ρ, hf, by cases x <;> exact hr⟩
 | cons p ps ih =>
  intro x vs ρa ρ t hp hl r hf hr
  cases x with
  | nil => simp at hl
  | cons a x =>
   cases vs with
   | nil => exact r.elim
   | cons v vs =>
    have h1 := hf.put (some p) v (fun t e => by cases e; exact hp p List.mem_cons_self)
    have h2 := reps_put (d := some p) hr (Ext.refl _ _ _ _) r.1
    exact ih x vs (aupd ρa p a) (upd ρ p v) (t.setIfInBounds p v) (fun q hq => hp q (List.mem_cons_of_mem _ hq)) (by simpa using hl) r.2 h1 h2
end
section
variable {P : Program} {G : Glob} {w₀ : World} {M₀ F₀ : Nat → Prop} {N : Nat} {ds : List Deferred} {W : Nat → Bool} {ops : Array Oper} {ρ₀ : Regs}
variable {nb : Nat} {σb : Nat → Loc} {Fb : Nat → Prop} {wb : World}
theorem ADraw.soundIn {r : Option Nat} {id : Nat} {K : ARegs → Nat → AHeap → Prop} {ρa : ARegs} {n : Nat} {σ : Nat → Loc} {F : Nat → Prop} {H : AHeap} {ρ : Regs} {a : Act} {w : World} (hm : P.follows .mixedOrders = true) (hok : ∀ o ∈ ops.toList, opOK N W o = true ∧ hiOK o = true) (hnd : ∀ (i : Nat) (o : Oper), ops[i]? = some o → noDefer o = true)
  (hf : Fits N ds ρ a) (hs : Same W ρ₀ ρ) (st : St G w₀ M₀ F₀ n σ F H w) (x : Ext nb σb Fb wb n σ F w) (hr : Reps n σ F w ρa ρ) (h : ADraw P G id ops K ρa n H) :
  (Code.region id ops true).wpIn (Fen r) 0 P (RA (At1 G w₀ M₀ F₀ N ds W ρ₀ nb σb Fb wb K)) a w := by
 have e := ext_drew n σ F w
 rcases h.ex with ⟨p, D, hd, hv⟩ | ⟨p, D, ws, ρ', n', H', hd, hws, hle, hun, hv, hk⟩ | ⟨T, ts, ns, p, e', D, ws, A, hd, hws, hle, hun, h0, hstep, hE⟩
 ·simp only [drawOKA, drawOK, Bool.and_eq_true] at hd
  obtain ⟨⟨⟨hsel, hdep⟩, hp⟩, hpo⟩ := hd
  exact wpIn_region_any hm (any_toIn (fun ⟨_, _, h⟩ => h) hnd _ _ _ _ (wpAny_of_P _ _ _ _ _ _ (aD_sound hsel hok p D (takes p) _ ρa n σ F H ρ a w.drew hp hpo (fun j o _ hl => by rw [getD_rep] at hl; cases hl) hf hs st.drew (x.trans e) (fun s => (hr s).mono e) hv ops.size (Nat.le_of_ble_eq_true hdep))))
 ·simp only [drawOKA, drawOK, Bool.and_eq_true] at hd
  obtain ⟨⟨⟨hsel, hdep⟩, hp⟩, hpo⟩ := hd
  have hok2 : ∀ o ∈ ops.toList, opOK N (fun k => W k && ws k) o = true ∧ hiOK o = true := fun o ho => by
   refine ⟨?_, (hok o ho).2⟩
   have h1 := (hok o ho).1
   have h2 := List.all_eq_true.1 hws o ho
   unfold opOK at h1 ⊢
   cases hd : o.dst with
   | none => rfl
   | some d =>
    rw [hd] at h1 h2
    simp only [Bool.and_eq_true] at h1 ⊢
    exact ⟨h1.1, h1.2, h2⟩
  have hr' : Reps n σ F w.drew ρa ρ := fun s => (hr s).mono e
  refine Go.wpIn_mono (wpIn_region_any hm (any_toIn (fun ⟨_, _, h⟩ => h) hnd _ _ _ _ (wpAny_of_P _ _ _ _ _ _ (aD_sound (W := fun k => W k && ws k) (ρ₀ := ρ) (nb := n) (σb := σ) (Fb := F) (wb := w.drew) hsel hok2 p D (takes p) _ ρa n σ F H ρ a w.drew hp hpo (fun j o _ hl => by rw [getD_rep] at hl; cases hl) hf (Same.refl _ _) st.drew (Ext.refl _ _ _ _) hr' hv ops.size (Nat.le_of_ble_eq_true hdep))))) fun ex a' w' hq => ?_
  cases ex with
  | normal =>
   obtain ⟨ρ₂, ρa₁, n₁, σ₁, F₁, H₁, hf₁, hs₁, st₁, x₁, hr₁, hv₁⟩ := hq
   obtain ⟨σ', F', s', r', l', f'⟩ := hv₁.holds w₀ M₀ F₀ σ₁ F₁ w' ρ₂ st₁ fun s _ => hr₁ s
   have x' : Ext n σ F w.drew n' σ' F' w' := ⟨hle, fun l hl => (l' l hl).trans (x₁.s l hl), fun b hb => ⟨f' b (x₁.f b hb).1, (x₁.f b hb).2⟩, x₁.sz⟩
   refine ⟨ρ₂, ρ', n', σ', F', H', hf₁, hs.trans fun k hk => hs₁ k (by simp [hk]), s', (x.trans e).trans x', fun s => ?_, hk⟩
   cases hws' : ws s with
   | true => exact r' s hws'
   | false =>
    rw [hun s hws', hs₁ s (by simp [hws'])]
    exact (hr' s).mono x'
  | exit id => exact hq.elim
  | ret => exact hq.elim
  | goto l => exact hq.elim
  | panic ch => exact hq.elim
  | outgrown => exact hq.elim
 ·exact wpIn_region_any hm (any_toIn (fun ⟨_, _, h⟩ => h) hnd _ _ _ _ (net_any hok hf hs st x hr hd hws hle hun h0 hstep hE))
end
section
variable {P : Program} {G : Glob} {N : Nat}
theorem aY_sound (hm : P.follows .mixedOrders = true) : ∀ (c : Code) (rf : Bool) (r : Option Nat) (Lp : List Nat → Prop) (W : Nat → Bool) (Q : Ex → ARegs → Nat → AHeap → Prop) (ρa : ARegs) (n : Nat) (H : AHeap) (ρ ρ₀ : Regs) (a : Act) (w : World) (σ : Nat → Loc) (F : Nat → Prop) (nb : Nat) (σb : Nat → Loc) (Fb : Nat → Prop) (wb : World) (L : List Nat) (w₀ : World) (M₀ F₀ : Nat → Prop),
  (rf = true → r = none ∧ ∀ D L, Lp L → Lp (D :: L)) → codeY rf N W c = true → Lp L → Fits N (L.map mark) ρ a → Same W ρ₀ ρ → St G w₀ M₀ F₀ n σ F H w → Ext nb σb Fb wb n σ F w → Reps n σ F w ρa ρ → MK G w₀ L σ F H w → aY P G c Q ρa n H → c.wpIn (Fen r) 0 P (AQY G w₀ M₀ F₀ N Lp W ρ₀ nb σb Fb wb Q) a w := by
 intro c
 induction c with
 | skip => intro rf r Lp W Q ρa n H ρ ρ₀ a w σ F nb σb Fb wb L w₀ M₀ F₀ _ _ hlp hf hs st x hr mk h; exact wpIn_skip ⟨L, ρ, ρa, n, σ, F, H, hlp, hf, hs, st, x, hr, mk, h⟩
 | region id ops draw =>
  intro rf r Lp W Q ρa n H ρ ρ₀ a w σ F nb σb Fb wb L w₀ M₀ F₀ _ hc hlp hf hs st x hr mk h
  have hok0 : ∀ o ∈ ops.toList, (opOK N W o = true ∧ hiOK o = true) ∧ noDefer o = true := by simpa only [codeY, List.all_eq_true, Bool.and_eq_true] using hc
  have hok := fun o ho => (hok0 o ho).1
  have hnd : ∀ (i : Nat) (o : Oper), ops[i]? = some o → noDefer o = true := fun i o ho => (hok0 o (by rw [← Array.getElem?_toList] at ho; exact List.mem_of_getElem? ho)).2
  have mono : ∀ e a' w', RA (At1 G w (Mut w σ H) F N (L.map mark) W ρ₀ n σ F w (Q .normal)) e a' w' → AQY G w₀ M₀ F₀ N Lp W ρ₀ nb σb Fb wb Q e a' w' := fun e a' w' hq => by
   cases e with
   | normal =>
    obtain ⟨ρ', ρa', n', σ', F', H', hf', hs', st', x', hr', hk⟩ := hq
    exact ⟨L, ρ', ρa', n', σ', F', H', hlp, hf', hs', st.back st', x.trans x', hr', mk.step st', hk⟩
   | exit id => exact hq.elim
   | goto l => exact hq.elim
   | ret => exact hq.elim
   | panic ch => exact hq.elim
   | outgrown => exact hq.elim
  cases draw with
  | false =>
   refine Go.wpIn_mono (wpIn_region (ops_toIn (fun ⟨_, _, h⟩ => h) _ (fun i _ o ho => hnd i o ho) _ _ ?_)) mono
   have hlen : ops.toList.length = ops.size := by simp
   rw [List.range_eq_range', ← hlen]
   exact aOps_sound (K := Q .normal) (Q := RA (At1 G w (Mut w σ H) F N (L.map mark) W ρ₀ n σ F w (Q .normal))) (fun a' w' h => h) ops.toList 0 ρa n σ F H ρ a w (fun j => by rw [Nat.zero_add]) hok hf hs st.start (Ext.refl _ _ _ _) hr h
  | true => exact Go.wpIn_mono (ADraw.soundIn hm hok hnd hf hs st.start (Ext.refl _ _ _ _) hr h) mono
 | seq c1 c2 ih1 ih2 =>
  intro rf r Lp W Q ρa n H ρ ρ₀ a w σ F nb σb Fb wb L w₀ M₀ F₀ hrf hc hlp hf hs st x hr mk h
  simp only [codeY, Bool.and_eq_true] at hc
  refine wpIn_seq (Go.wpIn_mono (ih1 rf r Lp W _ ρa n H ρ ρ₀ a w σ F nb σb Fb wb L w₀ M₀ F₀ hrf hc.1 hlp hf hs st x hr mk h) fun e a' w' hq => ?_)
  cases e with
  | normal =>
   obtain ⟨L', ρ', ρa', n', σ', F', H', hlp', hf', hs', st', x', hr', mk', hv⟩ := hq
   exact ih2 rf r Lp W Q ρa' n' H' ρ' ρ₀ a' w' σ' F' nb σb Fb wb L' w₀ M₀ F₀ hrf hc.2 hlp' hf' hs' st' x' hr' mk' hv
  | exit id => exact hq
  | ret => exact hq
  | goto l => exact hq
  | panic ch => exact hq
  | outgrown => exact hq
 | cond c c1 c2 ih1 ih2 =>
  intro rf r Lp W Q ρa n H ρ ρ₀ a w σ F nb σb Fb wb L w₀ M₀ F₀ hrf hc hlp hf hs st x hr mk h
  simp only [codeY, Bool.and_eq_true] at hc
  simp only [aY] at h
  split at h
  ·rename_i b hb
   have rc := opd_rep hr c
   rw [hb] at rc
   refine wpIn_cond (t := b) (by rw [hf.eval]; exact rc.v_eq) ?_
   cases b with
   | true => exact ih1 rf r Lp W Q ρa n H ρ ρ₀ a w σ F nb σb Fb wb L w₀ M₀ F₀ hrf hc.1 hlp hf hs st x hr mk h
   | false => exact ih2 rf r Lp W Q ρa n H ρ ρ₀ a w σ F nb σb Fb wb L w₀ M₀ F₀ hrf hc.2 hlp hf hs st x hr mk h
  ·exact h.elim
 | block id b ih =>
  intro rf r Lp W Q ρa n H ρ ρ₀ a w σ F nb σb Fb wb L w₀ M₀ F₀ hrf hc hlp hf hs st x hr mk h
  refine wpIn_block (Go.wpIn_mono (ih rf r Lp W _ ρa n H ρ ρ₀ a w σ F nb σb Fb wb L w₀ M₀ F₀ hrf hc hlp hf hs st x hr mk h) fun e a' w' hq => ?_)
  cases e with
  | normal => exact hq
  | exit j =>
   obtain ⟨L', ρ', ρa', n', σ', F', H', hlp', hf', hs', st', x', hr', mk', hv⟩ := hq
   simp only [aBlk] at hv
   simp only [Exit.inBlock]
   by_cases hj : j = id
   ·subst hj
    rw [Nat.beq_refl, cond_true] at hv
    simp only [if_true]
    exact ⟨L', ρ', ρa', n', σ', F', H', hlp', hf', hs', st', x', hr', mk', hv⟩
   ·have hb : Nat.beq j id = false := by
     cases hb : Nat.beq j id with
     | false => rfl
     | true => exact absurd (Nat.eq_of_beq_eq_true hb) hj
    rw [hb, cond_false] at hv
    rw [if_neg hj]
    exact ⟨L', ρ', ρa', n', σ', F', H', hlp', hf', hs', st', x', hr', mk', hv⟩
  | ret => exact hq
  | goto l => exact hq
  | panic ch => exact hq
  | outgrown => exact hq
 | loop b ih =>
  intro rf r Lp W Q ρa n H ρ ρ₀ a w σ F nb σb Fb wb L w₀ M₀ F₀ hrf hc hlp hf hs st x hr mk0 h
  obtain ⟨ws, I, nl, hw, hle, hun0, ⟨m0, ρ0, H0, hI0, hreb0⟩, hround⟩ := h.ex
  have hc' := codeY_inter b hc hw
  let J : Nat → Act → World → Prop := fun m a' w' => ∃ L' ρ' ρa' σ' F' H', Lp L' ∧ Fits N (L'.map mark) ρ' a' ∧ Same (fun k => W k && ws k) ρ ρ' ∧ I m ρa' H' ∧ St G w₀ M₀ F₀ nl σ' F' H' w' ∧ Ext n σ F w nl σ' F' w' ∧ Reps nl σ' F' w' ρa' ρ' ∧ MK G w₀ L' σ' F' H' w'
  have mk : ∀ m L' (ρ' : Regs) (ρa' ρ₁ : ARegs) n' (σ' : Nat → Loc) (F' : Nat → Prop) H' H₁ a' w', Lp L' → Fits N (L'.map mark) ρ' a' → Same (fun k => W k && ws k) ρ ρ' → St G w₀ M₀ F₀ n' σ' F' H' w' → Ext n σ F w n' σ' F' w' → Reps n' σ' F' w' ρa' ρ' → MK G w₀ L' σ' F' H' w' →
    I m ρ₁ H₁ → Reb G ws n ρa' n' H' ρ₁ nl H₁ → J m a' w' := by
   intro m L' ρ' ρa' ρ₁ n' σ' F' H' H₁ a' w' hlp' hf' hs' st' x' hr' mk' hI hreb
   obtain ⟨σ₁, F₁, s1, r1, l1, f1⟩ := hreb w' (Mut w' σ' H') F' σ' F' w' ρ' st'.start fun s _ => hr' s
   have x1 : Ext n σ F w nl σ₁ F₁ w' := ⟨hle, fun l hl => (l1 l hl).trans (x'.s l hl), fun b hb => ⟨f1 b (x'.f b hb).1, (x'.f b hb).2⟩, x'.sz⟩
   refine ⟨L', ρ', ρ₁, σ₁, F₁, H₁, hlp', hf', hs', hI, st'.back s1, x1, fun s => ?_, mk'.step s1⟩
   cases hws : ws s with
   | true => exact r1 s hws
   | false =>
    rw [hun0 m ρ₁ H₁ hI s hws, hs' s (by simp [hws])]
    exact (hr s).mono x1
  refine wpIn_loop_ix J m0 (mk m0 L ρ ρa ρ0 n σ F H H0 a w hlp hf (Same.refl _ _) st (Ext.refl _ _ _ _) hr mk0 hI0 hreb0) fun m a' w' ⟨L', ρ', ρa', σ', F', H', hlp', hf', hs', hI, st', x', hr', mk'⟩ => ?_
  refine Go.wpIn_mono (ih rf r Lp (fun k => W k && ws k) _ ρa' nl H' ρ' ρ a' w' σ' F' n σ F w L' w₀ M₀ F₀ hrf hc' hlp' hf' hs' st' x' hr' mk' (hround m ρa' H' hI)) fun e a'' w'' hq => ?_
  have up : ∀ {ρ''}, Same (fun k => W k && ws k) ρ ρ'' → Same W ρ₀ ρ'' := fun h' => hs.trans fun k hk => h' k (by simp [hk])
  cases e with
  | normal =>
   obtain ⟨L'', ρ'', ρa'', n'', σ'', F'', H'', hlp'', hf'', hs'', st'', x'', hr'', mk'', hv⟩ := hq
   obtain ⟨m', hlt, ρ₁, H₁, hI₁, hreb₁⟩ := hv.holds
   exact ⟨m', hlt, mk m' L'' ρ'' ρa'' ρ₁ n'' σ'' F'' H'' H₁ a'' w'' hlp'' hf'' hs'' st'' x'' hr'' mk'' hI₁ hreb₁⟩
  | exit id => obtain ⟨L'', ρ'', ρa'', n'', σ'', F'', H'', hlp'', hf'', hs'', st'', x'', hr'', mk'', hv⟩ := hq; exact ⟨L'', ρ'', ρa'', n'', σ'', F'', H'', hlp'', hf'', up hs'', st'', x.trans x'', hr'', mk'', hv⟩
  | ret => obtain ⟨L'', ρ'', ρa'', n'', σ'', F'', H'', hlp'', hf'', hs'', st'', x'', hr'', mk'', hv⟩ := hq; exact ⟨L'', ρ'', ρa'', n'', σ'', F'', H'', hlp'', hf'', up hs'', st'', x.trans x'', hr'', mk'', hv⟩
  | goto l => exact hq
  | panic ch => exact hq
  | outgrown => exact hq
 | exit id => intro rf r Lp W Q ρa n H ρ ρ₀ a w σ F nb σb Fb wb L w₀ M₀ F₀ _ _ hlp hf hs st x hr mk h; exact Go.wpIn_exit ⟨L, ρ, ρa, n, σ, F, H, hlp, hf, hs, st, x, hr, mk, h⟩
 | ret => intro rf r Lp W Q ρa n H ρ ρ₀ a w σ F nb σb Fb wb L w₀ M₀ F₀ _ _ hlp hf hs st x hr mk h; exact Go.wpIn_ret ⟨L, ρ, ρa, n, σ, F, H, hlp, hf, hs, st, x, hr, mk, h⟩
 | rangeFunc g ps assign body iha ihb =>
  intro rf r Lp W Q ρa n H ρ ρ₀ a w σ F nb σb Fb wb L w₀ M₀ F₀ hrf hc hlp hf hs st x hr mk h
  obtain ⟨gf, caps, xs, nl, Hs, hgv, hcal, hit, hle, hxl, hreb0, hbody, hdone⟩ := h.ex
  simp only [codeY, Bool.and_eq_true, List.all_eq_true] at hc
  obtain ⟨⟨⟨hrf1, hps⟩, hca⟩, hcb⟩ := hc
  have hps' : ∀ p ∈ ps.toList, p < N := fun p hp => Nat.le_of_ble_eq_true (hps p hp)
  obtain ⟨rfl, hLp⟩ := hrf hrf1
  have rg := opd_rep hr g
  rw [hgv] at rg
  obtain ⟨vs, hgval, rcaps⟩ : ∃ vs : List Value, opd ρ g = .func (.func gf) #[] vs.toArray ∧ RepL n σ F w caps vs := by
   generalize opd ρ g = v at rg
   cases rg with
   | fn _ _ _ us vs hx hy rx ry =>
    have hu : us = [] := List.eq_nil_of_length_eq_zero hx
    subst hu
    exact ⟨vs, rfl, .of hy ry⟩
  refine wpIn_rangeFunc fun fn _ => ?_
  obtain ⟨rec, hrec⟩ : ∃ rec : LoopState → Option Code → Loop, rec = fun st pe => { state := st, pending := pe, fn, tmps := a.tmps, params := ps, assign, body, defers := w.heap.size } := ⟨_, rfl⟩
  obtain ⟨W1, hW1⟩ : ∃ W1, (w.alloc (.deferred (some []))).alloc (.loop (rec .ready none)) = W1 := ⟨_, rfl⟩
  have hL1 : W1.heap[w.heap.size + 1]? = some (.loop (rec .ready none)) := by
   rw [← hW1]; have := World.alloc_heap_new (w.alloc (.deferred (some []))) (.loop (rec .ready none)); rwa [World.size_alloc] at this
  have hD1 : W1.heap[w.heap.size]? = some (.deferred (some [])) := by
   rw [← hW1]; exact (Below.heap_alloc _ _ _ (by simp)).trans (World.alloc_heap_new w _)
  have hB1 : Below w.heap.size w W1 := by
   rw [← hW1]; exact (((Below.refl _ w).alloc (Nat.le_refl _) _).alloc (by simp) _)
  have hsz1 : W1.heap.size = w.heap.size + 2 := by rw [← hW1]; simp
  have off1 : ∀ k, w.heap.size ≤ k → k < w.heap.size + 2 → Off G w σ F H W1 k := fun k h1 h2 =>
   ⟨h1, Nat.le_trans st.glob.1 h1, by omega, fun hf => by have := (st.fsub k hf).1; omega, fun ⟨ell, blk, e1, e2, e3⟩ => by have := (st.mu ell blk k e1 e2 (e3.back fun y hy => hB1.block y (st.mu _ _ y e1 e2 (.inl hy)).2.2.1)).2.2.1; omega⟩
  have hev : a.eval g = .func (.func gf) #[] vs.toArray := by rw [hf.eval]; exact hgval
  -- between two rounds
  let J : Nat → World → Prop := fun i W' => ∃ σ' F', St G w (Mut w σ H) F nl σ' F' (Hs i) W' ∧ Ext n σ F w nl σ' F' W' ∧ (Off G w σ' F' (Hs i) W' (w.heap.size + 1) ∧ W'.heap[w.heap.size + 1]? = some (.loop (rec .ready none))) ∧ Off G w σ' F' (Hs i) W' w.heap.size ∧ W'.heap[w.heap.size]? = some (.deferred (some []))
  have st1 : St G w (Mut w σ H) F n σ F H W1 := st.start.grow hB1
  have x1 : Ext n σ F w n σ F W1 := ext_grow st hB1
  have hJ0 : J 0 W1 := by
   obtain ⟨σ1, F1, s1, _, l1, f1⟩ := hreb0 W1 (Mut W1 σ H) F σ F W1 ρ st1.start fun s hs => by cases hs
   have o1 := (off1 (w.heap.size + 1) (by omega) (by omega)).step s1
   have o2 := (off1 w.heap.size (by omega) (by omega)).step s1
   exact ⟨σ1, F1, st1.back s1, x1.trans ⟨hle, l1, fun b hb => ⟨f1 b hb, rfl⟩, Nat.le_refl _⟩, ⟨o1.1, hL1⟩, o2.1, hD1⟩
  have hcall := hit n σ F vs W1 (w.heap.size + 1) J st1.glob (fun b hb => (st1.fsub b hb).1) (rcaps.mono x1)
   (fun i W' W'' ⟨σ', F', s', x', ⟨o1, h1⟩, o2, h2⟩ hB => ⟨σ', F', s'.grow hB, x'.trans (ext_grow s' hB), ⟨o1.grow s' hB, (hB.block _ o1.lt).trans h1⟩, o2.grow s' hB, (hB.block _ o2.lt).trans h2⟩)
   (fun i W' ⟨σ', F', s', x', ⟨o1, h1⟩, o2, h2⟩ => ⟨by have := o1.lt; omega, s'.glob, fun b hb => (x'.f b hb).2.trans (x1.f b hb).2.symm⟩)
   (fun i y W' args hy ⟨σ', F', s', x', ⟨o1, h1⟩, o2, h2⟩ ra => by
    have hyl : y.length = ps.size := hxl y (List.mem_of_getElem? hy)
    have hal := ra.len
    have hrun := run_yield (P := P) (args := args.toArray) h1 (by rw [hrec]; simp only [List.size_toArray]; omega)
    rw [hrec] at hrun
    refine ⟨fn, _, assign, body, hrun, roundIn_of_wpIn trivial ?_⟩
    have eF : (ps.zip args.toArray).foldl (fun tmps (x : Tmp × Value) => tmps.setIfInBounds x.1 x.2) a.tmps = (ps.toList.zip args).foldl (fun tmps (x : Tmp × Value) => tmps.setIfInBounds x.1 x.2) a.tmps := by
     rw [← Array.foldl_toList, Array.toList_zip]
    have x0 : Ext n σ F W' nl σ' F' W' := ⟨hle, x'.s, fun b hb => ⟨(x'.f b hb).1, rfl⟩, Nat.le_refl _⟩
    obtain ⟨ρr, hfr, hrr⟩ := Fits.setPs (N := N) ps.toList y args ρa ρ a.tmps hps' (by rw [hyl]; simp) (ra.mono x0) ⟨hf.size, hf.get, rfl⟩ fun s => (hr s).mono x'
    have e2 : ({ tmps := (ps.toList.zip args).foldl (fun tmps (x : Tmp × Value) => tmps.setIfInBounds x.1 x.2) a.tmps, defers := [] } : Act) = { tmps := (ps.zip args.toArray).foldl (fun tmps (x : Tmp × Value) => tmps.setIfInBounds x.1 x.2) a.tmps, defers := [] } := by rw [eF]
    rw [e2] at hfr
    refine Go.wpIn_mono (iha false (some (w.heap.size + 1)) (fun L => L = []) (fun _ => true) _ (setPs ρa ps.toList y) nl (Hs i) ρr ρr _ W' σ' F' nl σ' F' W' [] W' (Mut W' σ' (Hs i)) F' (fun e => by cases e) hca rfl hfr (Same.refl _ _) s'.start (Ext.refl _ _ _ _) hrr MK.nil (hbody i y hy)) fun e a₁ w₁ hq => ?_
    cases e with
    | normal =>
     obtain ⟨L1, ρ1, ρa1, n1, σ1, F1, H1, rfl, hf1, _, t1, y1, hr1, _, hv⟩ := hq
     have q1 := o1.step t1
     have q2 := o2.step t1
     have g1 := q1.2.trans h1
     have g2 := q2.2.trans h2
     refine ⟨_, run_beginRound g1 (by rw [hrec]), ?_⟩
     obtain ⟨w₂, hw₂⟩ : ∃ w₂, w₁.putObj (w.heap.size + 1) (.loop { rec .ready none with state := .busy }) = w₂ := ⟨_, rfl⟩
     rw [hw₂]
     have u1 := s'.back t1
     have u2 := u1.put q1.1 (.loop { rec .ready none with state := .busy })
     have x2 := ext_put (n := n1) (σ := σ1) (w := w₁) (.loop { rec .ready none with state := .busy }) q1.1.nf
     have p1 := q1.1.put q1.1 (.loop { rec .ready none with state := .busy })
     have p2 := q2.1.put q1.1 (.loop { rec .ready none with state := .busy })
     have k1 : w₂.heap[w.heap.size + 1]? = some (.loop { rec .ready none with state := .busy }) := by rw [← hw₂]; exact World.putObj_heap_same q1.1.lt
     have k2 : w₂.heap[w.heap.size]? = some (.deferred (some [])) := by rw [← hw₂, World.putObj_heap_other (by omega)]; exact g2
     rw [hw₂] at u2 x2 p1 p2
     refine Go.wpIn_mono (ihb false (some (w.heap.size + 1)) (fun L => L = []) (fun _ => true) _ ρa1 n1 H1 ρ1 ρ1 a₁ w₂ σ1 F1 n1 σ1 F1 w₂ [] w₂ (Mut w₂ σ1 H1) F1 (fun e => by cases e) hcb rfl hf1 (Same.refl _ _) u2.start (Ext.refl _ _ _ _) (fun s => (hr1 s).mono x2) MK.nil hv) fun e a₃ w₃ hq3 => ?_
     cases e with
     | normal =>
      obtain ⟨L3, ρ3, ρa3, n3, σ3, F3, H3, rfl, hf3, _, t3, y3, hr3, _, hv3⟩ := hq3
      have v1 := p1.step t3
      have v2 := p2.step t3
      have m1 := v1.2.trans k1
      have m2 := v2.2.trans k2
      obtain ⟨σ4, F4, s4, _, l4, f4⟩ := hv3.holds w₃ (Mut w₃ σ3 H3) F3 σ3 F3 w₃ ρ3 (u2.back t3).start fun s hs => by cases hs
      have z1 := v1.1.step s4
      have z2 := v2.1.step s4
      have sz : St G w (Mut w σ H) F nl σ4 F4 (Hs (i + 1)) w₃ := (u2.back t3).back s4
      have hend := run_endRound (P := P) none m1
      refine ⟨_, _, hend, rfl, σ4, F4, sz.put z1.1 _, ?_, ⟨z1.1.put z1.1 _, ?_⟩, z2.1.put z1.1 _, ?_⟩
      ·have xA : Ext n σ F w n3 σ3 F3 w₃ := (x'.trans y1).trans (x2.trans y3)
       have xB : Ext n σ F w nl σ4 F4 w₃ := ⟨hle, fun l hl => (l4 l hl).trans (xA.s l hl), fun b hb => ⟨f4 b (xA.f b hb).1, (xA.f b hb).2⟩, xA.sz⟩
       exact xB.trans (ext_put _ z1.1.nf)
      ·rw [World.putObj_heap_same z1.1.lt]
       simp only [hrec, Option.isNone_none, if_true]
      ·rw [World.putObj_heap_other (by omega)]; exact m2
     | exit id => obtain ⟨L3, ρ3, ρa3, n3, σ3, F3, H3, _, _, _, _, _, _, _, hv3⟩ := hq3; exact hv3.elim
     | ret => obtain ⟨L3, ρ3, ρa3, n3, σ3, F3, H3, _, _, _, _, _, _, _, hv3⟩ := hq3; exact hv3.elim
     | goto l => exact hq3.elim
     | panic ch => exact hq3.elim
     | outgrown => exact hq3.elim
    | exit id => obtain ⟨L1, ρ1, ρa1, n1, σ1, F1, H1, _, _, _, _, _, _, _, hv⟩ := hq; exact hv.elim
    | ret => obtain ⟨L1, ρ1, ρa1, n1, σ1, F1, H1, _, _, _, _, _, _, _, hv⟩ := hq; exact hv.elim
    | goto l => exact hq.elim
    | panic ch => exact hq.elim
    | outgrown => exact hq.elim) hJ0
  refine ⟨w.heap.size + 1, [mark w.heap.size], W1, { target := .fn (.func gf) vs.toArray, args := #[.func (.yield (w.heap.size + 1)) #[] #[]] }, W1, gf, #[.func (.yield (w.heap.size + 1)) #[] #[]] ++ vs.toArray, W1, ?_, ?_, fun _ _ => trivial, ?_, fun h => (by cases h), ?_⟩
  ·rw [← hW1, hrec]; exact run_enterLoop_outer _ _ _ _ _
  ·simp only [resolve, hev]
   simp [go_sem]
  ·simp only [invoke]
   exact run_callFunc hcal
  refine hcall.mono ?_
  rintro e W' ⟨⟨v, rfl⟩, σ', F', s', x', ⟨o1, h1⟩, o2, h2⟩
  refine ⟨none, W'.putObj (w.heap.size + 1) (.loop { rec .ready none with state := .exhausted }), ?_, ?_⟩
  ·have := run_endLoop (P := P) h1 (by rw [hrec]; simp)
   rw [this, hrec]
  ·have xp := ext_put (n := nl) (σ := σ') (w := W') (.loop { rec .ready none with state := .exhausted }) o1.nf
   have sp := s'.put o1 (.loop { rec .ready none with state := .exhausted })
   refine ⟨w.heap.size :: L, ρ, ρa, nl, σ', F', Hs xs.length, hLp _ _ hlp, ⟨hf.size, hf.get, ?_⟩, hs, st.back sp, (x.trans x').trans xp, fun s => (hr s).mono (x'.trans xp), ?_, hdone⟩
   ·show [mark w.heap.size] ++ a.defers = _
    rw [hf.defers]; rfl
   ·have mk2 := (mk.step s')
    have hw0 := st.chg.size
    refine ⟨List.nodup_cons.2 ⟨fun hm => ?_, mk.nodup⟩, fun D hD => ?_, fun D hD => ?_⟩
    ·have := (mk.off _ hm).lt; omega
    ·rcases List.mem_cons.1 hD with rfl | hD
     ·exact (Off.mk (by omega) o2.nb o2.lt o2.nf o2.nm : Off G w₀ σ' F' (Hs xs.length) W' w.heap.size).put o1 _
     ·exact (mk2.off D hD).put o1 _
    ·rcases List.mem_cons.1 hD with rfl | hD
     ·rw [World.putObj_heap_other (by omega)]; exact h2
     ·have := (mk.off D hD).lt
      rw [World.putObj_heap_other (by omega)]; exact mk2.obj D hD
 | _ => intro rf r Lp W Q ρa n H ρ ρ₀ a w σ F nb σb Fb wb L w₀ M₀ F₀ _ hc; simp [codeY] at hc
end
section
variable {P : Program} {G : Glob} {n : Nat} {H : AHeap}
theorem afnY_of {f : FuncId} {fn : Func} {c : Code} {args : List AV} {R : AV → Nat → AHeap → Prop} (hf : P.funcs[f]? = some fn) (hb : fn.body = some c) (hm : P.follows .mixedOrders = true)
  (hok : (Nat.ble args.length fn.ntmps && codeY true fn.ntmps (fun _ => true) c) = true) (h : aY P G c (afin P G n fn R) (aframe0 args) n H) : AFn P G f args n H R := by
 intro w σ F vs st r
 simp only [Bool.and_eq_true] at hok
 have hN := Nat.le_of_ble_eq_true hok.1
 have hl := r.len
 refine (callsIn_wide (n := 0)).1 (callsIn_of_wp_marks hf hb trivial ?_)
 have hfit : Fits fn.ntmps ([].map mark) (frame0 vs.toArray) { tmps := vs.toArray ++ Array.replicate (fn.ntmps - vs.toArray.size) undef, defers := [] } := by
  refine ⟨by simp; omega, fun t => ?_, rfl⟩
  simp only [frame0, nth_getD]
  rw [Array.getD_eq_getD_getElem?, List.getD_eq_getElem?_getD, Array.getElem?_append]
  by_cases ht : t < vs.toArray.size
  ·simp only [if_pos ht, List.getElem?_toArray]
  ·simp only [ht, if_false]
   have ht' : vs.length ≤ t := by simpa using ht
   rw [List.getElem?_eq_none ht']
   rw [Array.getElem?_replicate]
   split <;> rfl
 refine Go.wpIn_mono (aY_sound hm c true none (fun _ => True) (fun _ => true) _ (aframe0 args) n H _ (frame0 vs.toArray) _ w σ F n σ F w [] w (Mut w σ H) F (fun _ => ⟨rfl, fun _ _ _ => trivial⟩) hok.2 trivial hfit (Same.refl _ _) st (Ext.refl _ _ _ _) (fun s => by
  have := anth_rep r s
  simpa [frame0, aframe0] using this) MK.nil h) fun e a' w' hq => ?_
 have res : ∀ {L' : List Nat} {ρ' : Regs} {ρa' : ARegs} {n' : Nat} {σ' : Nat → Loc} {F' : Nat → Prop} {H' : AHeap}, Fits fn.ntmps (L'.map mark) ρ' a' → St G w (Mut w σ H) F n' σ' F' H' w' → Ext n σ F w n' σ' F' w' → Reps n' σ' F' w' ρa' ρ' → MK G w L' σ' F' H' w' →
   (aRes P fn.results.toList ρa' H' fun vs => AEnd G n R (atup vs) n' H') →
   LeavesInM (Fen none) 0 P fn a'.tmps (fun e w' => ∃ v, e = .returned v ∧ ∃ a n' σ' F' H', R a n' H' ∧ St G w (Mut w σ H) F n' σ' F' H' w' ∧ Ext n σ F w n' σ' F' w' ∧ ARep n' σ' F' w' a v) a'.defers .returning w' := by
  intro L' ρ' ρa' n' σ' F' H' hf' st' x' hr' mk' hv
  rw [hf'.defers]
  refine marks_leave L' w' mk' st' fun w'' s2 x2 => ?_
  obtain ⟨vs, hrun, hk⟩ := vRes_run hf'.get _ _ (aRes_sound s2.hrep (fun s => (hr' s).mono x2) _ _ (fun vs => ∃ a n' σ' F' H', R a n' H' ∧ St G w (Mut w σ H) F n' σ' F' H' w'' ∧ Ext n σ F w n' σ' F' w'' ∧ ARep n' σ' F' w'' a (tup vs)) hv fun ars vs he hl => by
   obtain ⟨a1, n1, H1, hR, hn, hco⟩ := he.ex
   obtain ⟨σ1, F1, s1, r1, l1, f1⟩ := hco _ _ _ _ _ _ _ s2 (atup_rep hl)
   have x3 := x'.trans x2
   exact ⟨a1, n1, σ1, F1, H1, hR, s1, ⟨hn, fun l hl => (l1 l hl).trans (x3.s l hl), fun b hb => ⟨f1 b (x3.f b hb).1, (x3.f b hb).2⟩, x3.sz⟩, r1⟩)
  refine ⟨tup vs, ?_, tup vs, rfl, hk⟩
  rw [results_eq, Sem.run_bind, Array.mapM_eq_mapM_toList, Sem.run_map]
  rw [hrun]
  simp only [Result.andThen_ok, Sem.run_pure]
  congr 1
  match vs with
  | [] => rfl
  | [v] => rfl
  | v :: u :: r => simp [tup]
 cases e with
 | normal => obtain ⟨L', ρ', ρa', n', σ', F', H', _, hf', _, st', x', hr', mk', hv⟩ := hq; exact res hf' st' x' hr' mk' hv
 | ret => obtain ⟨L', ρ', ρa', n', σ', F', H', _, hf', _, st', x', hr', mk', hv⟩ := hq; exact res hf' st' x' hr' mk' hv
 | exit id => obtain ⟨L', ρ', ρa', n', σ', F', H', _, hf', _, st', x', hr', mk', hv⟩ := hq; exact hv.elim
 | goto l => exact hq.elim
 | panic ch => exact hq.elim
 | outgrown => exact hq.elim
end
structure VYield (P : Program) (l : Nat) (args : Array Value) (w : World) (K : Value → World → Prop) : Prop where
 runs : YieldAt (Fen none) 0 P l args w fun e w' => ∃ v, e = .returned v ∧ K v w'
def vOpY (P : Program) (o : Oper) (ρ : Regs) (w : World) (K : Value → World → Prop) : Prop :=
 match o.op with
 | .call c => (match c.callee with
  | .value f => (match opd ρ f with
   | .func (.yield l) first _ => VYield P l (first.toList ++ c.args.toList.map (opd ρ)).toArray w K
   | _ => vOp P false o ρ w K)
  | _ => vOp P false o ρ w K)
 | _ => vOp P false o ρ w K
def vGuardY (P : Program) (all : List Oper) (o : Oper) (ρ : Regs) (w : World) (K : Regs → Value → World → Prop) (K₀ : Regs → Prop) : Prop :=
 match o.guard with
 | none => vOpY P o ρ w fun v w' => K ρ v w'
 | some (g, want) => (match slotOf all g with
  | some s => (match ρ s with
   | .bool t => vif t
     (bif want then vOpY P o (upd ρ s (.bool true)) w fun v w' => K (upd ρ s (.bool true)) v w' else K₀ (upd ρ s (.bool true)))
     (bif want then K₀ (upd ρ s (.bool false)) else vOpY P o (upd ρ s (.bool false)) w fun v w' => K (upd ρ s (.bool false)) v w')
   | _ => K₀ ρ)
  | none => K₀ ρ)
def vOpsY (P : Program) (all : List Oper) (l : List Oper) (ρ : Regs) (w : World) (K : Regs → World → Prop) : Prop :=
 match l with
 | [] => K ρ w
 | o :: rest => vGuardY P all o ρ w (fun ρ' v w' => vOpsY P all rest (updO ρ' o.dst v) w' K) fun ρ' => vOpsY P all rest (updO ρ' o.dst undef) w K
section
variable {P : Program}
theorem vOpY_in {o : Oper} {ρ : Regs} {a : Act} {w : World} {K : Value → World → Prop} {next : Act → World → Prop} {Q : Exit → Act → World → Prop} (hd : noDefer o = true) (he : a.eval = opd ρ) (h : vOpY P o ρ w K) (hk : ∀ v w', K v w' → next (a.put o.dst v) w') : o.wpIn (Fen none) 0 P a w next Q := by
 have plain : vOp P false o ρ w K → o.wpIn (Fen none) 0 P a w next Q := fun h => wp_toIn (Q := Q) hd (fun _ _ h => h) ((vOp_did h).wp he hk)
 unfold vOpY at h
 split at h
 ·rename_i c ho
  split at h
  ·rename_i f hc
   split at h
   ·rename_i l first cap hf
    obtain ⟨fn, tmps, assign, body, hy, hR⟩ := h.runs
    refine ⟨fun _ _ => trivial, ?_⟩
    have e : o.semAt (Fen none).round a.eval = execOp a.eval o := Oper.semAt_plain (Fen none) _ o (noDefer_ne hd)
    rw [e, he]
    have ea : (first.toList ++ c.args.toList.map (opd ρ)).toArray = first ++ c.args.map (opd ρ) := by apply Array.ext'; simp
    rw [ea] at hy
    have hrun : (execOp (opd ρ) o).run P w = .ok (.round l fn tmps assign body) w := by
     simp only [execOp, ho, resolve, hc, hf]
     simp [go_sem, Deferred.ofValue, invoke, hy]
    rw [hrun]
    exact ⟨fun h => (by cases h), RoundIn.mono hR fun e w' ⟨v, hv, k⟩ => by subst hv; exact hk _ _ k⟩
   ·exact plain h
  ·exact plain h
 ·exact plain h
theorem vGuardY_cases {N : Nat} {ds : List Deferred} {ρ : Regs} {a : Act} {ops : Array Oper} {o : Oper} {w : World} {K : Regs → Value → World → Prop} {K₀ : Regs → Prop}
  (hf : Fits N ds ρ a) (h : vGuardY P ops.toList o ρ w K K₀) :
  (Region.wanted o (yielded ops a.tmps) = true ∧ vOpY P o ρ w fun v w' => K ρ v w') ∨
  (Region.wanted o (yielded ops a.tmps) = false ∧ K₀ ρ) := by
 unfold vGuardY at h
 unfold Region.wanted
 split at h
 ·rename_i hg; rw [hg]; exact .inl ⟨rfl, h⟩
 ·rename_i g want hg
  rw [hg]
  simp only [yielded_eq hf g]
  split at h
  ·rename_i s hs
   simp only [hs]
   cases hv : ρ s with
   | bool t =>
    have hu : upd ρ s (.bool t) = ρ := upd_self hv
    rw [hv] at h
    cases t <;> cases want <;> simp only [vif, cond_true, cond_false] at h <;> rw [hu] at h
    ·exact .inl ⟨rfl, h⟩
    ·exact .inr ⟨rfl, h⟩
    ·exact .inr ⟨rfl, h⟩
    ·exact .inl ⟨rfl, h⟩
   | _ => rw [hv] at h; exact .inr ⟨rfl, h⟩
  ·rename_i hs; simp only [hs]; exact .inr ⟨rfl, h⟩
theorem vOpsY_sound {N : Nat} {ds : List Deferred} {W : Nat → Bool} {ops : Array Oper} {Q : Exit → Act → World → Prop} {K : Regs → World → Prop} {ρ₀ : Regs}
  (hK : ∀ ρ' a' w', Fits N ds ρ' a' → Same W ρ₀ ρ' → K ρ' w' → Q .normal a' w') :
  ∀ (l : List Oper) (k : Nat) (ρ : Regs) (a : Act) (w : World), (∀ j, l[j]? = ops.toList[k + j]?) → (∀ o ∈ l, opOK N W o = true ∧ noDefer o = true) → Fits N ds ρ a → Same W ρ₀ ρ →
   vOpsY P ops.toList l ρ w K → wpOpsIn (Fen none) 0 P ops Q (List.range' k l.length) a w := by
 intro l
 induction l with
 | nil => intro k ρ a w _ _ hf hs h; exact hK _ _ _ hf hs h
 | cons o rest ih =>
  intro k ρ a w hl hok hf hs h
  have ho : ops[k]? = some o := by
   have := hl 0
   simp only [List.getElem?_cons_zero, Nat.add_zero] at this
   rw [← Array.getElem?_toList]; exact this.symm
  obtain ⟨ho1, ho2⟩ := hok o (by simp)
  have step : ∀ (v : Value) (w' : World), vOpsY P ops.toList rest (updO ρ o.dst v) w' K → wpOpsIn (Fen none) 0 P ops Q (List.range' (k + 1) rest.length) (a.put o.dst v) w' := fun v w' hv =>
   ih (k + 1) _ _ _ (fun j => by have := hl (j + 1); simp only [List.getElem?_cons_succ] at this; rw [this]; congr 1; omega) (fun o' ho' => hok o' (by simp [ho']))
    (hf.put o.dst v (opOK_lt ho1)) (hs.updO ho1) hv
  simp only [List.length_cons, List.range'_succ]
  simp only [wpOpsIn, ho]
  rcases vGuardY_cases hf h with ⟨hw, hv⟩ | ⟨hw, hv⟩
  ·simp only [hw, if_true]
   exact vOpY_in ho2 hf.eval hv step
  ·simp only [hw, Bool.false_eq_true, if_false]
   exact ⟨fun _ _ => trivial, step undef w hv⟩
def vY (P : Program) (c : Code) (Q : Ex → Regs → World → Prop) (ρ : Regs) (w : World) : Prop :=
 match c with
 | .skip => Q .normal ρ w
 | .region id ops draw => (match draw with
  | false => vOpsY P ops.toList ops.toList ρ w (Q .normal)
  | true => VDraw P id ops (Q .normal) ρ w)
 | .seq a b => vY P a (qSeq (vY P b) Q) ρ w
 | .cond c t e => (match opd ρ c with
  | .bool b => vif b (vY P t Q ρ w) (vY P e Q ρ w)
  | _ => False)
 | .block id body => vY P body (qBlk id Q) ρ w
 | .loop body => VLoop body (vY P body) Q ρ w
 | .exit id => Q (.exit id) ρ w
 | .ret => Q .ret ρ w
 | _ => False
theorem VDraw.soundIn {id : Nat} {N : Nat} {ds : List Deferred} {W : Nat → Bool} {ops : Array Oper} {K : Regs → World → Prop} {ρ ρ₀ : Regs} {a : Act} {w : World} {r : Option Nat}
  (hm : P.follows .mixedOrders = true) (hok : ∀ o ∈ ops.toList, opOK N W o = true) (hnd : ∀ (i : Nat) (o : Oper), ops[i]? = some o → noDefer o = true) (hf : Fits N ds ρ a) (hs : Same W ρ₀ ρ) (h : VDraw P id ops K ρ w) :
  (Code.region id ops true).wpIn (Fen r) 0 P (RQ N ds W ρ₀ K) a w := by
 obtain ⟨p, eqm, S, hd, he, hS, hv⟩ := h.ex
 simp only [drawOK, Bool.and_eq_true] at hd
 obtain ⟨⟨hsel, hdep⟩, hp⟩ := hd
 exact wpIn_region_any hm (any_toIn (fun ⟨_, _, h⟩ => h) hnd _ _ _ _ (wpAny_of_G _ _ _ _ (vD_sound hsel hok w.drew p S he _ ρ a w.drew hp (fun j o _ hl => by rw [getD_rep] at hl; cases hl) hf hs hS hv ops.size (Nat.le_of_ble_eq_true hdep))))
theorem vY_sound (hm : P.follows .mixedOrders = true) {N : Nat} : ∀ (c : Code) (W : Nat → Bool) (Q : Ex → Regs → World → Prop) (ρ ρ₀ : Regs) (a : Act) (w : World),
  codeY false N W c = true → Fits N [] ρ a → Same W ρ₀ ρ → vY P c Q ρ w → c.wpIn (Fen none) 0 P (CQ N [] W ρ₀ Q) a w := by
 intro c
 induction c with
 | skip => intro W Q ρ ρ₀ a w _ hf hs h; exact wpIn_skip ⟨ρ, hf, hs, h⟩
 | region id ops draw =>
  intro W Q ρ ρ₀ a w hc hf hs h
  have hok0 : ∀ o ∈ ops.toList, (opOK N W o = true ∧ hiOK o = true) ∧ noDefer o = true := by simpa only [codeY, List.all_eq_true, Bool.and_eq_true] using hc
  have hok : ∀ o ∈ ops.toList, opOK N W o = true := fun o ho => (hok0 o ho).1.1
  have hnd : ∀ (i : Nat) (o : Oper), ops[i]? = some o → noDefer o = true := fun i o ho => (hok0 o (by rw [← Array.getElem?_toList] at ho; exact List.mem_of_getElem? ho)).2
  have mono : ∀ e a w, RQ N [] W ρ₀ (Q .normal) e a w → CQ N [] W ρ₀ Q e a w := fun e a w hq => by cases e <;> first | exact hq | exact hq.elim
  cases draw with
  | false =>
   refine Go.wpIn_mono (wpIn_region ?_) mono
   have hlen : ops.toList.length = ops.size := by simp
   rw [List.range_eq_range', ← hlen]
   exact vOpsY_sound (K := Q .normal) (Q := RQ N [] W ρ₀ (Q .normal)) (fun ρ' a' w' hf' hs' hk => ⟨ρ', hf', hs', hk⟩) ops.toList 0 ρ a w (fun j => by rw [Nat.zero_add]) (fun o ho => ⟨hok o ho, (hok0 o ho).2⟩) hf hs h
  | true => exact Go.wpIn_mono (VDraw.soundIn hm hok hnd hf hs h) mono
 | seq x y ihx ihy =>
  intro W Q ρ ρ₀ a w hc hf hs h
  simp only [codeY, Bool.and_eq_true] at hc
  refine wpIn_seq (Go.wpIn_mono (ihx W _ ρ ρ₀ a w hc.1 hf hs h) fun e a' w' hq => ?_)
  cases e with
  | normal =>
   obtain ⟨ρ', hf', hs', hv⟩ := hq
   exact ihy W Q ρ' ρ₀ a' w' hc.2 hf' hs' hv
  | exit id => exact hq
  | ret => exact hq
  | goto l => exact hq
  | panic ch => exact hq
  | outgrown => exact hq
 | cond c x y ihx ihy =>
  intro W Q ρ ρ₀ a w hc hf hs h
  simp only [codeY, Bool.and_eq_true] at hc
  simp only [vY] at h
  split at h
  ·rename_i b hb
   refine wpIn_cond (t := b) (by rw [hf.eval]; exact hb) ?_
   cases b with
   | true => exact ihx W Q ρ ρ₀ a w hc.1 hf hs h
   | false => exact ihy W Q ρ ρ₀ a w hc.2 hf hs h
  ·exact h.elim
 | block id b ih =>
  intro W Q ρ ρ₀ a w hc hf hs h
  refine wpIn_block (Go.wpIn_mono (ih W _ ρ ρ₀ a w hc hf hs h) fun e a' w' hq => ?_)
  cases e with
  | normal => exact hq
  | exit j =>
   obtain ⟨ρ', hf', hs', hv⟩ := hq
   simp only [qBlk] at hv
   simp only [Exit.inBlock]
   by_cases hj : j = id
   ·subst hj
    rw [Nat.beq_refl, cond_true] at hv
    simp only [if_true]
    exact ⟨ρ', hf', hs', hv⟩
   ·have hb : Nat.beq j id = false := by
     cases hb : Nat.beq j id with
     | false => rfl
     | true => exact absurd (Nat.eq_of_beq_eq_true hb) hj
    rw [hb, cond_false] at hv
    rw [if_neg hj]
    exact ⟨ρ', hf', hs', hv⟩
  | ret => exact hq
  | goto l => exact hq
  | panic ch => exact hq
  | outgrown => exact hq
 | loop b ih =>
  intro W Q ρ ρ₀ a w hc hf hs h
  obtain ⟨ws, I, n, hw, h₀, hr⟩ := h.ex
  have hc' := codeY_inter b hc hw
  refine wpIn_loop_ix (fun n a' w' => ∃ ρ', I n ρ' w' ∧ Fits N [] ρ' a' ∧ Same (fun k => W k && ws k) ρ ρ') n ⟨ρ, h₀, hf, Same.refl _ _⟩ fun n a' w' ⟨ρ', hI, hf', hs'⟩ => ?_
  have hsw : Same ws ρ ρ' := fun k hk => hs' k (by simp [hk])
  refine Go.wpIn_mono (ih (fun k => W k && ws k) _ ρ' ρ a' w' hc' hf' hs' (hr n ρ' w' hI hsw)) fun e a'' w'' hq => ?_
  have up : ∀ {ρ''}, Same (fun k => W k && ws k) ρ ρ'' → Same W ρ₀ ρ'' := fun h' => hs.trans fun k hk => h' k (by simp [hk])
  cases e with
  | normal =>
   obtain ⟨ρ'', hf'', hs'', ⟨m, hlt, hI'⟩⟩ := hq
   exact ⟨m, hlt, ρ'', hI', hf'', hs''⟩
  | exit id => obtain ⟨ρ'', hf'', hs'', hv⟩ := hq; exact ⟨ρ'', hf'', up hs'', hv⟩
  | ret => obtain ⟨ρ'', hf'', hs'', hv⟩ := hq; exact ⟨ρ'', hf'', up hs'', hv⟩
  | goto l => exact hq
  | panic ch => exact hq
  | outgrown => exact hq
 | exit id => intro W Q ρ ρ₀ a w _ hf hs h; exact Go.wpIn_exit ⟨ρ, hf, hs, h⟩
 | ret => intro W Q ρ ρ₀ a w _ hf hs h; exact Go.wpIn_ret ⟨ρ, hf, hs, h⟩
 | _ => intro W Q ρ ρ₀ a w hc; simp [codeY] at hc
def finI (K : World → Prop) (e : Ex) (_ : Regs) (w : World) : Prop :=
 match e with
 | .normal => VEnd (K w)
 | .ret => VEnd (K w)
 | .exit _ => False
theorem calls_of_vy {f : FuncId} {fn : Func} {c : Code} {args : Array Value} {w : World} {K : World → Prop}
  (hf : P.funcs[f]? = some fn) (hb : fn.body = some c) (hm : P.follows .mixedOrders = true) (hN : args.size ≤ fn.ntmps) (hres : fn.results = #[]) (hok : codeY false fn.ntmps (fun _ => true) c = true)
  (h : vY P c (finI K) (frame0 args) w) : CallsIn (Fen none) 0 P f args w fun e w' => (∃ v, e = .returned v) ∧ K w' := by
 refine callsIn_of_wp hf hb trivial ?_
 have hfit : Fits fn.ntmps [] (frame0 args) { tmps := args ++ Array.replicate (fn.ntmps - args.size) undef, defers := [] } := by
  refine ⟨by simp; omega, fun t => ?_, rfl⟩
  simp only [frame0, nth_getD]
  rw [Array.getD_eq_getD_getElem?, List.getD_eq_getElem?_getD, Array.getElem?_append]
  by_cases ht : t < args.size
  ·simp [ht]
  ·simp only [ht, if_false, Array.getElem?_toList]
   rw [Array.getElem?_eq_none (Nat.le_of_not_lt ht)]
   by_cases h2 : t - args.size < fn.ntmps - args.size
   ·simp [h2]
   ·simp [h2]
 refine Go.wpIn_mono (vY_sound hm c (fun _ => true) _ _ _ _ w hok hfit (Same.refl _ _) h) fun e a' w' hq => ?_
 have res : ∀ {ρ' : Regs}, Fits fn.ntmps [] ρ' a' → K w' → a'.defers = [] ∧ ∃ v, (results fn a'.tmps).run P w' = .ok v w' ∧ (∃ u, Ending.returned v = .returned u) ∧ K w' := by
  intro ρ' hf' hk
  refine ⟨hf'.defers, .tuple #[], ?_, ⟨_, rfl⟩, hk⟩
  rw [results_eq, hres]
  simp
 cases e with
 | normal => obtain ⟨ρ', hf', _, hv⟩ := hq; exact res hf' hv.holds
 | ret => obtain ⟨ρ', hf', _, hv⟩ := hq; exact res hf' hv.holds
 | exit id => obtain ⟨ρ', hf', _, hv⟩ := hq; exact hv.elim
 | goto l => exact hq.elim
 | panic ch => exact hq.elim
 | outgrown => exact hq.elim
end
theorem FRep.down {n : Nat} {σ : Nat → Loc} {F : Nat → Prop} {w : World} {a : FV} {v : Value} (h : ARep n σ F w a.up v) : FRep F w a v := by
 cases a with
 | top => exact .top v
 | v x => cases h; exact .v _
 | lst sz l => cases h with | lst h => exact h
 | fp cs o => cases h with | fp h => exact h
 | fm M => cases h with | fm h => exact h
theorem aendClo {G : Glob} {n : Nat} {H : AHeap} {R : AV → Nat → AHeap → Prop} {f : Fn} (ls : List (Nat × TypeId × List FV)) (k : R (.fn f [] (ls.map fun p => .fp p.2.2 0)) 0 [])
  (hl : ∀ p ∈ ls, look H p.1 = some (.var p.2.1 (p.2.2.map FV.up))) : AEnd G 0 R (.fn f [] (ls.map fun p => .ptr p.1 0)) n H := by
 refine ⟨_, 0, [], k, Nat.le_refl _, fun w₀ M₀ F₀ σ F w v st ra => ?_⟩
 have hsub : ∀ b, (F b ∨ ∃ p ∈ ls, (σ p.1).b = some b) → b < w.heap.size ∧ (F₀ b ∨ w₀.heap.size ≤ b ∨ M₀ b) := fun b hb => by
  rcases hb with hb | ⟨p, hp, hb⟩
  ·exact st.fsub b hb
  ·obtain ⟨_, _, h3, h4⟩ := st.mu _ _ b (hl p hp) rfl (.inl hb)
   exact ⟨h3, h4.elim (fun h => .inr (.inr h)) fun h => .inr (.inl h)⟩
 refine ⟨σ, fun b => F b ∨ ∃ p ∈ ls, (σ p.1).b = some b, ⟨st.glob, st.chg, hsub, (fun _ _ h => by cases h), (fun _ _ _ h => by cases h), (fun _ _ _ _ _ h => by cases h), (fun _ _ h => by cases h)⟩, ?_, fun _ h => absurd h (Nat.not_lt_zero _), fun b hb => .inl hb⟩
 cases ra with
 | fn _ _ _ us vs hx hy rx ry =>
  refine .fn f [] _ us vs hx (by simpa using hy) (fun j a v h => by simp at h) fun j a v h1 h2 => ?_
  rw [List.getElem?_map] at h1
  cases hp : ls[j]? with
  | none => rw [hp] at h1; cases h1
  | some p =>
   rw [hp] at h1
   injection h1 with h1
   subst h1
   have hm := List.mem_of_getElem? hp
   have r := ry j (.ptr p.1 0) v (by rw [List.getElem?_map, hp]; rfl) h2
   cases r with
   | ptr _ _ b hlt hb =>
    obtain ⟨g, xs, hg, hblk, hr, hone⟩ := st.blk _ _ (hl p hm)
    rw [hb] at hg
    injection hg with hg
    subst hg
    have hlen := hr.len
    rw [List.length_map] at hlen
    refine .fp (.fp p.2.2 0 b 0 (.inr ⟨p, hm, hb⟩) (fun j hj => ?_) fun j a v h1 h3 => ?_)
    ·have hj' : j < xs.length := by omega
     exact ⟨xs[j], by rw [Nat.zero_add, hblk.cell, List.getElem?_eq_getElem hj'], hone _ (List.getElem_mem hj')⟩
    ·rw [Nat.zero_add, hblk.cell] at h3
     exact (FRep.down (hr.at j a.up v (by rw [List.getElem?_map, h1]; rfl) h3)).mono fun b hb => ⟨.inl hb, rfl⟩
theorem AFn.up {P : Program} {f : FuncId} {args : List AV} {n : Nat} {H : AHeap} {R : AV → Nat → AHeap → Prop} (h : AFn P ⟨0, fun _ => none, fun _ => none⟩ f args n H R) (G : Glob) : AFn P G f args n H R := by
 intro w σ F vs st r
 have st0 : St ⟨0, fun _ => none, fun _ => none⟩ w (Mut w σ H) F n σ F H w :=
  ⟨⟨Nat.zero_le _, (fun _ _ h => by cases h), fun _ _ h => by cases h⟩, st.chg, st.fsub, st.lab, fun ell b g h1 h2 h3 => ⟨(st.mu ell b g h1 h2 h3).1, Nat.zero_le _, (st.mu ell b g h1 h2 h3).2.2⟩, st.inj, st.blk⟩
 refine (h w σ F vs st0 r).mono fun v w' ⟨a, n', σ', F', H', hR, s, x, ra⟩ => ⟨a, n', σ', F', H', hR, ?_, x, ra⟩
 have hnb := st.glob.1
 refine ⟨Glob.chg st.glob s.chg.size fun b hb => s.chg.block b (by omega) fun ⟨ell, blk, h1, h2, h3⟩ => by have := (st.mu ell blk b h1 h2 h3).2.1; omega, s.chg, s.fsub, s.lab, fun ell b g h1 h2 h3 => ?_, s.inj, s.blk⟩
 obtain ⟨a1, a2, a3, a4⟩ := s.mu ell b g h1 h2 h3
 refine ⟨a1, ?_, a3, a4⟩
 rcases a4 with ⟨ell', blk', e1, e2, e3⟩ | h4
 ·exact (st.mu ell' blk' g e1 e2 e3).2.1
 ·omega
section
variable {P : Program} {G : Glob}
theorem arange {gv : AV} {ps : Array Tmp} {A B : (Ex → ARegs → Nat → AHeap → Prop) → ARegs → Nat → AHeap → Prop} {Q : Ex → ARegs → Nat → AHeap → Prop} {ρ : ARegs} {n : Nat} {H : AHeap}
  {gf : FuncId} {caps : List AV} {xs : List (List AV)} (hit : AIt P G gf caps xs) (nl : Nat) (Hs : Nat → AHeap) (θ : List (Nat × Src)) (Z : List Nat) (hg : gv = .fn (.func gf) [] caps) (hc : callable P gf = true) (hle : Nat.ble n nl = true) (hx : ∀ x ∈ xs, x.length = ps.size)
  (hw : wfB n nl θ Z (Hs 0) = true) (hH : coH H θ Z n (Hs 0))
  (hbody : ∀ i x, xs[i]? = some x → A (yThen (B (yThen fun ρ' n' H' => ABack (Reb G (fun _ => false) n ρ' n' H' ρ nl (Hs (i + 1)))))) (setPs ρ ps.toList x) nl (Hs i))
  (hdone : Q .normal ρ nl (Hs xs.length)) : ARange P G gv ps A B Q ρ n H :=
 ⟨⟨gf, caps, xs, nl, Hs, hg, hc, hit, Nat.le_of_ble_eq_true hle, hx, reb_of (ws := []) (sl := []) θ Z hw hH trivial, hbody, hdone⟩⟩
theorem arback {ρ ρ' : ARegs} {nb nl n' : Nat} {H' H₁ : AHeap} (θ : List (Nat × Src)) (Z : List Nat) (hw : wfB nb nl θ Z H₁ = true) (hH : coH H' θ Z nb H₁) : ABack (Reb G (fun _ => false) nb ρ' n' H' ρ nl H₁) :=
 ⟨reb_of (ws := []) (sl := []) θ Z hw hH trivial⟩
theorem aendE {n n1 : Nat} {H1 : AHeap} {a : AV} {K : AV → Nat → AHeap → Prop} (a' : AV) (k : spine (lowH n H1) fun H0 => K a' n H0) (hwf : wfB n n [] [] (lowH n H1) = true) (hH : coH H1 [] [] n (lowH n H1)) (hc : co H1 [] [] n a' a) : AEnd G n K a n1 H1 :=
 aend a' n _ [] [] (by rw [spine_eq] at k; exact k) hwf hH hc
end
end Go.Proofs.YtocckceefcmeaaaGreatDoor.Ax
