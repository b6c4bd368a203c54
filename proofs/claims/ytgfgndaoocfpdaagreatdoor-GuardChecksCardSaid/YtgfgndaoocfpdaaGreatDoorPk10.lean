/- Joined parts of the proof. Calls of functions that change memory of the caller's: the labels lent come back changed -/
import Derived.Test.YtgfgndaoocfpdaaGreatDoorPk8
import Derived.Sort.Grow
import Derived.Test.YtgfgndaoocfpdaaGreatDoorPk2
import Derived.Test.YtgfgndaoocfpdaaGreatDoorPk9
import Derived.Test.YtgfgndaoocfpdaaGreatDoorProg
set_option linter.unusedVariables false
set_option linter.unusedSimpArgs false
set_option maxRecDepth 100000
set_option maxHeartbeats 16000000
namespace Go.Proofs.YtgfgndaoocfpdaaGreatDoor.Ax
open Go Go.RowKit Go.Proofs.YtgfgndaoocfpdaaGreatDoor.Vc
mutual
def rnA (f : Nat → Nat) : AV → AV
 | .ptr e o => .ptr (f e) o
 | .ep e i o => .ep (f e) i o
 | .own e => .own (f e)
 | .sub e o k => .sub (f e) o k
 | .mp e => .mp (f e)
 | .fn g xs ys => .fn g (rnL f xs) (rnL f ys)
 | .agg cs => .agg (rnL f cs)
 | .tup cs => .tup (rnL f cs)
 | .top => .top
 | .v x => .v x
 | .lst sz l => .lst sz l
 | .fp cs o => .fp cs o
 | .fm M => .fm M
def rnL (f : Nat → Nat) : List AV → List AV
 | [] => []
 | a :: r => rnA f a :: rnL f r
end
def rnB (f : Nat → Nat) : ABlk → ABlk
 | .var t cs => .var t (rnL f cs)
 | .tree t sz l (some (i, j, e)) => .tree t sz l (some (i, j, f e))
 | b => b
def rnH (f : Nat → Nat) : AHeap → AHeap
 | [] => []
 | p :: r => (f p.1, rnB f p.2) :: rnH f r
theorem rnL_eq (f : Nat → Nat) : ∀ l : List AV, rnL f l = l.map (rnA f) := by
 intro l
 induction l with
 | nil => rfl
 | cons a r ih => simp [rnL, ih]
theorem rnB_own (f : Nat → Nat) (b : ABlk) : (rnB f b).own = b.own := by
 cases b with
 | tree t sz l h => cases h <;> rfl
 | _ => rfl
theorem rnB_occ {f : Nat → Nat} {b : ABlk} {w : World} {L : Loc} {g : Nat} (h : Occ w L (rnB f b) g) : Occ w L b g := by
 cases b with
 | tree t sz l o => cases o <;> exact h
 | _ => exact h
section
variable {n m : Nat} {σ σ' : Nat → Loc} {F : Nat → Prop} {w : World} {f : Nat → Nat}
theorem rn_rep (hs : ∀ k, k < m → f k < n ∧ σ' (f k) = σ k) {a : AV} {v : Value} (r : ARep m σ F w a v) : ARep n σ' F w (rnA f a) v := by
 induction r with
 | top x => exact .top x
 | v x => exact .v x
 | lst h => exact .lst h
 | fp h => exact .fp h
 | fm h => exact .fm h
 | ptr l o b hl hb => exact .ptr _ o b (hs l hl).1 (by rw [(hs l hl).2]; exact hb)
 | ep l i o b hl hb => rw [← (hs l hl).2]; exact .ep _ i o b (hs l hl).1 (by rw [(hs l hl).2]; exact hb)
 | own l hl => rw [← (hs l hl).2]; exact .own _ (hs l hl).1
 | ownz l oa hl hn hc => exact .ownz _ oa (hs l hl).1 (by rw [(hs l hl).2]; exact hn) (by rw [(hs l hl).2]; exact hc)
 | sub l o k oa c hl hk hc hnil ho => exact .sub _ o k oa c (hs l hl).1 (by rw [(hs l hl).2]; exact hk) hc hnil (by rw [(hs l hl).2]; exact ho)
 | mp l b hl hb => exact .mp _ b (hs l hl).1 (by rw [(hs l hl).2]; exact hb)
 | fn g xs ys us vs hx hy _ _ ih1 ih2 =>
  simp only [rnA, rnL_eq]
  refine .fn g _ _ us vs (by simp [hx]) (by simp [hy]) (fun j a v h1 h2 => ?_) (fun j a v h1 h2 => ?_)
  ·rw [List.getElem?_map] at h1
   cases hx : xs[j]? with
   | none => rw [hx] at h1; cases h1
   | some x => rw [hx] at h1; injection h1 with h1; rw [← h1]; exact ih1 j x v hx h2
  ·rw [List.getElem?_map] at h1
   cases hy : ys[j]? with
   | none => rw [hy] at h1; cases h1
   | some y => rw [hy] at h1; injection h1 with h1; rw [← h1]; exact ih2 j y v hy h2
 | agg xs us hx _ ih =>
  simp only [rnA, rnL_eq]
  refine .agg _ us (by simp [hx]) (fun j a v h1 h2 => ?_)
  rw [List.getElem?_map] at h1
  cases hx : xs[j]? with
  | none => rw [hx] at h1; cases h1
  | some x => rw [hx] at h1; injection h1 with h1; rw [← h1]; exact ih j x v hx h2
 | tup xs us hx _ ih =>
  simp only [rnA, rnL_eq]
  refine .tup _ us (by simp [hx]) (fun j a v h1 h2 => ?_)
  rw [List.getElem?_map] at h1
  cases hx : xs[j]? with
  | none => rw [hx] at h1; cases h1
  | some x => rw [hx] at h1; injection h1 with h1; rw [← h1]; exact ih j x v hx h2
theorem rnL_rep (hs : ∀ k, k < m → f k < n ∧ σ' (f k) = σ k) {l : List AV} {vs : List Value} (r : RepL m σ F w l vs) : RepL n σ' F w (rnL f l) vs := by
 rw [rnL_eq]
 refine .of (by simp [r.len]) fun j a v h1 h2 => ?_
 rw [List.getElem?_map] at h1
 cases hx : l[j]? with
 | none => rw [hx] at h1; cases h1
 | some x => rw [hx] at h1; injection h1 with h1; rw [← h1]; exact rn_rep hs (r.at j x v hx h2)
theorem rnB_rep (hs : ∀ k, k < m → f k < n ∧ σ' (f k) = σ k) {L : Loc} {b : ABlk} (r : BRep m σ F w L b) : BRep n σ' F w L (rnB f b) := by
 cases b with
 | var t cs => obtain ⟨g, vs, h1, h2, h3, h4⟩ := r; exact ⟨g, vs, h1, h2, rnL_rep hs h3, h4⟩
 | tree t sz l h =>
  cases h with
  | none => obtain ⟨h1, h2, xs, h3, h4, h5, _⟩ := r; exact ⟨h1, h2, xs, h3, h4, h5, fun _ _ _ h => by cases h⟩
  | some p =>
   obtain ⟨i, j, e⟩ := p
   obtain ⟨h1, h2, xs, h3, h4, h5, h6⟩ := r
   refine ⟨h1, h2, xs, h3, h4, h5, fun i' j' e' h => ?_⟩
   injection h with h
   injection h with e1 h
   injection h with e2 e3
   subst e1; subst e2; subst e3
   obtain ⟨a1, a2, a3, a4, v, a5, a6⟩ := h6 _ _ _ rfl
   exact ⟨(hs e a1).1, a2, a3, a4, v, a5, rn_rep hs a6⟩
 | _ => exact r
theorem look_rnH : ∀ {H : AHeap} {k : Nat} {b : ABlk}, look (rnH f H) k = some b → ∃ j c, k = f j ∧ c ∈ H.map (·.2) ∧ (j, c) ∈ H ∧ b = rnB f c := by
 intro H
 induction H with
 | nil => intro k b h; cases h
 | cons p r ih =>
  intro k b h
  obtain ⟨x, c⟩ := p
  simp only [rnH] at h
  rw [look_cons] at h
  split at h
  ·rename_i e
   injection h with h
   exact ⟨x, c, e.symm, by simp, by simp, h.symm⟩
  ·obtain ⟨j, d, h1, h2, h3, h4⟩ := ih h
   exact ⟨j, d, h1, by simp at h2 ⊢; exact .inr h2, by simp [h3], h4⟩
end
def once : AHeap → Bool
 | [] => true
 | p :: r => (match look r p.1 with | some _ => false | none => true) && once r
theorem once_look : ∀ {H : AHeap} {k : Nat} {b : ABlk}, once H = true → (k, b) ∈ H → look H k = some b := by
 intro H
 induction H with
 | nil => intro k b _ h; cases h
 | cons p r ih =>
  intro k b ho h
  obtain ⟨x, c⟩ := p
  simp only [once, Bool.and_eq_true] at ho
  rw [look_cons]
  rcases List.mem_cons.1 h with e | e
  ·injection e with e1 e2
   subst e1; subst e2
   rw [if_pos rfl]
  ·have := ih ho.2 e
   split
   ·rename_i e'
    subst e'
    rw [this] at ho
    cases ho.1
   ·exact this
def rmL (L : List Nat) (H : AHeap) : AHeap :=
 match L with
 | [] => H
 | l :: r => rmL r (rmH H l)
theorem look_rmL : ∀ {L : List Nat} {H : AHeap} {k : Nat} {b : ABlk}, look (rmL L H) k = some b → k ∉ L ∧ look H k = some b := by
 intro L
 induction L with
 | nil => intro H k b h; exact ⟨by simp, h⟩
 | cons l r ih =>
  intro H k b h
  obtain ⟨h1, h2⟩ := ih h
  obtain ⟨h3, h4⟩ := look_rmH h2
  exact ⟨by simp [h1, h3], h4⟩
def lendT (i : Nat) (L : List Nat) : List (Nat × Src) :=
 match L with
 | [] => []
 | l :: r => (i, .lab l) :: lendT (i + 1) r
theorem tr_lendT : ∀ {L : List Nat} {i k l : Nat}, L[k]? = some l → tr (lendT i L) (i + k) = some (.lab l) := by
 intro L
 induction L with
 | nil => intro i k l h; simp at h
 | cons x r ih =>
  intro i k l h
  cases k with
  | zero =>
   simp only [List.getElem?_cons_zero, Option.some.injEq] at h
   subst h
   simp [lendT, tr]
  | succ k =>
   simp only [List.getElem?_cons_succ] at h
   have := ih (i := i + 1) h
   simp only [lendT, tr]
   have e : Nat.beq i (i + (k + 1)) = false := by
    cases hb : Nat.beq i (i + (k + 1)) with
    | false => rfl
    | true => have := Nat.eq_of_beq_eq_true hb; omega
   rw [e, cond_false, show i + (k + 1) = i + 1 + k by omega]
   exact this
def bkL (L : List Nat) (n k : Nat) : Nat :=
 match L, k with
 | [], k => n + k
 | l :: _, 0 => l
 | _ :: r, k + 1 => bkL r n k
theorem bkL_lt : ∀ {L : List Nat} {n k l : Nat}, L[k]? = some l → bkL L n k = l := by
 intro L
 induction L with
 | nil => intro n k l h; simp at h
 | cons x r ih =>
  intro n k l h
  cases k with
  | zero => simp only [List.getElem?_cons_zero, Option.some.injEq] at h; exact h
  | succ k => exact ih (by simpa using h)
theorem bkL_ge : ∀ {L : List Nat} {n k : Nat}, L.length ≤ k → bkL L n k = n + (k - L.length) := by
 intro L
 induction L with
 | nil => intro n k _; simp [bkL]
 | cons x r ih =>
  intro n k h
  cases k with
  | zero => simp at h
  | succ k =>
   simp only [List.length_cons] at h ⊢
   show bkL r n k = _
   rw [ih (by omega)]
   congr 1
   omega
def hasAll (H : AHeap) : Nat → Bool
 | 0 => true
 | k + 1 => (match look H k with | some _ => true | none => false) && hasAll H k
theorem hasAll_look {H : AHeap} : ∀ {n k : Nat}, hasAll H n = true → k < n → ∃ b, look H k = some b := by
 intro n
 induction n with
 | zero => intro k _ h; omega
 | succ n ih =>
  intro k h hk
  simp only [hasAll, Bool.and_eq_true] at h
  by_cases e : k = n
  ·subst e
   cases hl : look H k with
   | none => rw [hl] at h; cases h.1
   | some b => exact ⟨b, rfl⟩
  ·exact ih h.2 (by omega)
structure Once (H : AHeap) : Prop where
 ok : once H = true
section
variable {P : Program} {G : Glob} {n : Nat} {H : AHeap}
theorem acallM0 {f : FuncId} {args args' : List AV} {H0 : AHeap} {R : AV → Nat → AHeap → Prop} {K : AV → Nat → AHeap → Prop} (L : List Nat) (Z : List Nat) (hc : callable P f = true) (h : AFn P G f args' L.length H0 R)
  (hwf : (wfB 0 L.length (lendT 0 L) Z H0 && hasAll H0 L.length) = true) (hH : coH H (lendT 0 L) Z 0 H0) (ha : coL H (lendT 0 L) Z 0 args' args)
  (k : ∀ a m H', R a m H' → once H' = true ∧ K (rnA (bkL L n) a) (n + (m - L.length)) (rnH (bkL L n) H' ++ frz Z (rmL L H))) : ACall P G f args n H K := by
 simp only [Bool.and_eq_true] at hwf
 obtain ⟨hwf, hall⟩ := hwf
 have hwf' := hwf
 simp only [wfB, Bool.and_eq_true] at hwf'
 obtain ⟨⟨_, hT⟩, hwH⟩ := hwf'
 refine ⟨hc, fun w σ F vs st hr => ?_⟩
 have s1 := rebase (H' := H0) (θ := lendT 0 L) (Z := Z) (nb := 0) (n' := L.length) st hwf hH
 have r1 := coL_rep (n' := L.length) (szs := szOf H0) st hT (Nat.zero_le _) args' args vs ha hr
 have lent : ∀ j, (hj : j < L.length) → tr (lendT 0 L) j = some (.lab L[j]) := fun j hj => by
  have := tr_lendT (i := 0) (List.getElem?_eq_getElem hj)
  rwa [Nat.zero_add] at this
 have σ1 : ∀ j, (hj : j < L.length) → σR (lendT 0 L) σ (szOf H0) j = σ L[j] := fun j hj => by unfold σR; rw [lent j hj]
 have inH : ∀ j, (hj : j < L.length) → ∃ b b', look H L[j] = some b ∧ look H0 j = some b' ∧ coB H (lendT 0 L) Z 0 b' b := fun j hj => by
  obtain ⟨b', hb'⟩ := hasAll_look hall hj
  rcases coH_look hH hb' with ⟨e, b, hs, hk, hb⟩ | ⟨ht, _⟩
  ·unfold srcOf at hs
   rw [lent j hj] at hs
   injection hs with hs
   subst hs
   exact ⟨b, b', hk, hb', hb⟩
  ·rw [lent j hj] at ht; cases ht
 have key0 : ∀ {j b'}, look H0 j = some b' → j < L.length := fun h => (wfH_look hwH h).1
 refine (h w _ _ vs s1.start r1).mono fun v w' ⟨a, m, σ', F', H', hR, s, x, ra⟩ => ?_
 obtain ⟨hon, hK⟩ := k a m H' hR
 have hmu : ∀ b, Mut w (σR (lendT 0 L) σ (szOf H0)) H0 b → ∃ j, ∃ hj : j < L.length, ∃ c, look H L[j] = some c ∧ c.own = true ∧ Occ w (σ L[j]) c b := fun b ⟨j, c, e, ho, hg⟩ => by
  have hj := key0 e
  obtain ⟨b0, b', h1, h2, h3⟩ := inH j hj
  rw [h2] at e
  injection e with e
  subst e
  exact ⟨j, hj, b0, h1, by rw [← coB_own h3]; exact ho, by rw [σ1 j hj] at hg; exact coB_occ h3 hg⟩
 have hm : L.length ≤ m := x.le
 let σn : Nat → Loc := fun l => if l < n then σ l else σ' (l - n + L.length)
 have inN : ∀ j, (hj : j < L.length) → L[j] < n := fun j hj => by obtain ⟨b, _, h1, _⟩ := inH j hj; exact st.lab _ b h1
 have ho : ∀ k, k < n → σn k = σ k := fun k hk => if_pos hk
 have hs : ∀ k, k < m → bkL L n k < n + (m - L.length) ∧ σn (bkL L n k) = σ' k := fun k hk => by
  by_cases hkl : k < L.length
  ·rw [bkL_lt (List.getElem?_eq_getElem hkl)]
   have := inN k hkl
   refine ⟨by omega, ?_⟩
   rw [ho _ this, x.s k hkl, σ1 k hkl]
  ·rw [bkL_ge (by omega)]
   refine ⟨by omega, ?_⟩
   show (if n + (k - L.length) < n then _ else _) = _
   rw [if_neg (by omega)]
   congr 1
   omega
 have hF : ∀ b, F b → F' b ∧ w'.heap[b]? = w.heap[b]? := fun b hb => x.f b (.inl hb)
 have hE : Ext n σ F w (n + (m - L.length)) σn F' w' := ⟨by omega, ho, hF, x.sz⟩
 have notL : ∀ k b g, k ∉ L → look H k = some b → b.own = true → Occ w (σ k) b g → ¬ Mut w (σR (lendT 0 L) σ (szOf H0)) H0 g := fun k b g hkL hk hm hg hmut => by
  obtain ⟨j, hj, c, h1, h2, h3⟩ := hmu g hmut
  have := st.inj k L[j] b c g hk h1 hm h2 hg h3
  exact hkL (by rw [this]; exact List.getElem_mem hj)
 have old : ∀ k b g, look (frz Z (rmL L H)) k = some b → b.own = true → Occ w (σ k) b g → k ∉ L ∧ look H k = some b ∧ ¬ F' g ∧ G.nb ≤ g ∧ g < w.heap.size ∧ Mut w σ H g := by
  intro k b g hk hm hg
  rcases look_frz hk with ⟨h1, h2⟩ | ⟨_, t, sz, l, _, rfl⟩
  ·obtain ⟨hkL, h1⟩ := look_rmL h1
   obtain ⟨m1, m2, m3, m4⟩ := st.mu k b g h1 hm hg
   refine ⟨hkL, h1, fun hf => ?_, m2, m3, ⟨k, b, h1, hm, hg⟩⟩
   rcases (s.fsub g hf).2 with e | e | e
   ·rcases e with e | ⟨k', t, sz, l, hz, hk', hg'⟩
    ·exact m1 e
    ·have := st.inj k k' b _ g h1 hk' hm rfl hg (.inl hg')
     subst this
     rw [h1] at hk'
     injection hk' with hk'
     exact h2 hz t sz l hk'
   ·omega
   ·exact notL k b g hkL h1 hm hg e
  ·cases hm
 have new : ∀ k b g, look (rnH (bkL L n) H') k = some b → b.own = true → Occ w' (σn k) b g → ∃ j c, k = bkL L n j ∧ look H' j = some c ∧ c.own = true ∧ Occ w' (σ' j) c g ∧ ¬ F' g ∧ G.nb ≤ g ∧ g < w'.heap.size ∧ (Mut w (σR (lendT 0 L) σ (szOf H0)) H0 g ∨ w.heap.size ≤ g) := by
  intro k b g hk hm hg
  obtain ⟨j, c, rfl, _, hj, rfl⟩ := look_rnH hk
  have hj := once_look hon hj
  rw [rnB_own] at hm
  rw [(hs j (s.lab j c hj)).2] at hg
  have hg := rnB_occ hg
  obtain ⟨m1, m2, m3, m4⟩ := s.mu j c g hj hm hg
  exact ⟨j, c, rfl, hj, hm, hg, m1, m2, m3, m4⟩
 have bk : ∀ {k b g}, look (frz Z (rmL L H)) k = some b → b.own = true → Occ w' (σ k) b g → Occ w (σ k) b g := fun hk hm hg => hg.back fun y hy => (let ⟨o1, o2, _, _, o5, _⟩ := old _ _ y hk hm (.inl hy); s.chg.block y o5 (notL _ _ y o1 o2 hm (.inl hy)))
 have labO : ∀ k b, look (frz Z (rmL L H)) k = some b → k < n := fun k b hk => by
  rcases look_frz hk with ⟨h1, _⟩ | ⟨_, t, sz, l, h1, _⟩
  ·exact st.lab k _ (look_rmL h1).2
  ·exact st.lab k _ (look_rmL h1).2
 have cross : ∀ k k' b b' g, look (rnH (bkL L n) H') k = some b → look (frz Z (rmL L H)) k' = some b' → b.own = true → b'.own = true → Occ w' (σn k) b g → Occ w (σ k') b' g → False := by
  intro k k' b b' g hk hk' hm hm' hg hg'
  obtain ⟨j, c, e1, h1, h2, h3, _, _, _, h4⟩ := new k b g hk hm hg
  obtain ⟨o1, o2, _, _, o5, _⟩ := old k' b' g hk' hm' hg'
  rcases h4 with h4 | h4
  ·exact notL k' b' g o1 o2 hm' hg' h4
  ·omega
 have hst : St G w (Mut w σ H) F (n + (m - L.length)) σn F' (rnH (bkL L n) H' ++ frz Z (rmL L H)) w' := by
  refine ⟨s.glob, ⟨s.chg.os, s.chg.tape, s.chg.output, x.sz, fun b hb hn => s.chg.block b hb fun hmut => hn ?_⟩, fun b hb => ⟨(s.fsub b hb).1, ?_⟩, fun k b hk => ?_, fun k b g hk hm hg => ?_, fun k k' b b' g hk hk' hm hm' hg hg' => ?_, fun k b hk => ?_⟩
  ·obtain ⟨j, hj, c, h1, h2, h3⟩ := hmu b hmut
   exact ⟨L[j], c, h1, h2, h3⟩
  ·rcases (s.fsub b hb).2 with e | e | e
   ·rcases e with e | ⟨k', t, sz, l, hz, hk', hg'⟩
    ·exact .inl e
    ·exact .inr (.inr ⟨k', _, hk', rfl, .inl hg'⟩)
   ·exact .inr (.inl e)
   ·obtain ⟨j, hj, c, h1, h2, h3⟩ := hmu b e
    exact .inr (.inr ⟨L[j], c, h1, h2, h3⟩)
  ·rcases look_append hk with hk | ⟨_, hk⟩
   ·obtain ⟨j, c, rfl, _, hj, _⟩ := look_rnH hk
    exact (hs j (s.lab j c (once_look hon hj))).1
   ·have := labO k b hk; omega
  ·rcases look_append hk with hk | ⟨_, hk⟩
   ·obtain ⟨j, c, _, _, _, _, m1, m2, m3, m4⟩ := new k b g hk hm hg
    refine ⟨m1, m2, m3, m4.elim (fun h => ?_) .inr⟩
    obtain ⟨j, hj, c, h1, h2, h3⟩ := hmu g h
    exact .inl ⟨L[j], c, h1, h2, h3⟩
   ·rw [ho k (labO k b hk)] at hg
    obtain ⟨_, _, m1, m2, m3, m4⟩ := old k b g hk hm (bk hk hm hg)
    exact ⟨m1, m2, Nat.lt_of_lt_of_le m3 x.sz, .inl m4⟩
  ·rcases look_append hk with hk | ⟨_, hk⟩
   ·rcases look_append hk' with hk' | ⟨_, hk'⟩
    ·obtain ⟨j, c, e1, h1, h2, h3, _⟩ := new k b g hk hm hg
     obtain ⟨j', c', e1', h1', h2', h3', _⟩ := new k' b' g hk' hm' hg'
     have := s.inj j j' c c' g h1 h1' h2 h2' h3 h3'
     rw [e1, e1', this]
    ·rw [ho k' (labO k' b' hk')] at hg'
     exact (cross k k' b b' g hk hk' hm hm' hg (bk hk' hm' hg')).elim
   ·rcases look_append hk' with hk' | ⟨_, hk'⟩
    ·rw [ho k (labO k b hk)] at hg
     exact (cross k' k b' b g hk' hk hm' hm hg' (bk hk hm hg)).elim
    ·rw [ho k (labO k b hk)] at hg
     rw [ho k' (labO k' b' hk')] at hg'
     have h5 := old k b g hk hm (bk hk hm hg)
     have h6 := old k' b' g hk' hm' (bk hk' hm' hg')
     exact st.inj k k' b b' g h5.2.1 h6.2.1 hm hm' (bk hk hm hg) (bk hk' hm' hg')
  ·rcases look_append hk with hk | ⟨_, hk⟩
   ·obtain ⟨j, c, rfl, _, hj, rfl⟩ := look_rnH hk
    have hj := once_look hon hj
    rw [(hs j (s.lab j c hj)).2]
    exact rnB_rep hs (s.blk j c hj)
   ·rw [ho k (labO k b hk)]
    rcases look_frz hk with ⟨h1, _⟩ | ⟨hz, t, sz, l, h1, rfl⟩
    ·obtain ⟨hkL, h1⟩ := look_rmL h1
     exact (st.blk k b h1).mono hE fun hm g hg => s.chg.block g (st.mu k b g h1 hm hg).2.2.1 (notL k b g hkL h1 hm hg)
    ·obtain ⟨hkL, h1⟩ := look_rmL h1
     have hb := (st.blk k _ h1).mono hE fun hm g hg => s.chg.block g (st.mu k _ g h1 rfl hg).2.2.1 (notL k _ g hkL h1 rfl hg)
     exact fz_of_rows hb (fun _ h => h) fun g hg => (x.f g (.inr ⟨k, t, sz, l, hz, h1, hg⟩)).1
 exact ⟨rnA (bkL L n) a, n + (m - L.length), σn, F', _, hK, hst, hE, rn_rep hs ra⟩
theorem acallM {f : FuncId} {args args' : List AV} {H0 : AHeap} {R : AV → Nat → AHeap → Prop} {K : AV → Nat → AHeap → Prop} (L : List Nat) (Z : List Nat) (hc : callable P f = true) (h : AFn P G f args' L.length H0 R)
  (hwf : (wfB 0 L.length (lendT 0 L) Z H0 && hasAll H0 L.length) = true) (hH : coH H (lendT 0 L) Z 0 H0) (ha : coL H (lendT 0 L) Z 0 args' args)
  (k : ∀ a m H', R a m H' → once H' = true ∧ frc (n + (m - L.length)) (rnH (bkL L n) H' ++ frz Z (rmL L H)) fun n' H'' => K (rnA (bkL L n) a) n' H'') : ACall P G f args n H K :=
 acallM0 L Z hc h hwf hH ha fun a m H' hR => by have := k a m H' hR; rwa [frc_eq] at this
end
section
open Go.Proofs
section
variable {P : Program} {G : Glob}
def en1 {α : Type} (enc : α → Value) (a : α) : List FV := [.v (enc a)]
theorem rep_en1 {α : Type} {enc : α → Value} (h1 : ∀ a, (enc a).oneCell' = true) {F : Nat → Prop} {w : World} : ∀ zs : List α, RepR F w 1 (zs.map (en1 enc)) (zs.map enc) := by
 intro zs
 induction zs with
 | nil => exact RepR.nil 1
 | cons a r ih => exact RepR.cons (xs := r.map enc) (vs := [enc a]) (zs_rep [enc a]) rfl (by simp [h1]) ih
theorem recs_en1 {α : Type} (enc : α → Value) : ∀ zs : List α, recs (fun a => [enc a]) zs = zs.map enc := by
 intro zs
 unfold recs
 induction zs with
 | nil => rfl
 | cons a r ih => simp only [List.map_cons, List.flatten_cons, ih]; rfl
theorem afn_place {α : Type} [Inhabited α] {enc : α → Value} (h1 : ∀ a, (enc a).oneCell' = true) {f : FuncId} {T : TypeId} {zs zs' : List α} {A : AV} {V : Nat → Nat → Value → Prop} (hne : zs ≠ []) (hl : zs'.length = zs.length)
  (h : ∀ w blk cap, Sort.Holds enc w blk 0 zs.toArray → blk < w.heap.size → zs.length ≤ cap → Ret P f #[.slice (some ⟨blk, 0, none⟩) zs.length cap] w fun v w' => V blk cap v ∧ ∃ q os, w' = Sort.grow (Sort.putRow enc (Sort.ahead w q) blk 0 zs'.toArray) os)
  (hv : ∀ w (σ : Nat → Loc) F blk cap v, σ 0 = ⟨some blk, zs.length, cap, 1⟩ → zs.length ≤ cap → V blk cap v → ARep 1 σ F w A v) :
  AFn P G f [.own 0] 1 [(0, .rows T 1 (zs.map (en1 enc)))] (fun a n H => a = A ∧ n = 1 ∧ H = [(0, .rows T 1 (zs'.map (en1 enc)))]) := by
 intro w σ F vs st r
 have hpos : 0 < zs.length := List.length_pos_iff.2 hne
 obtain ⟨hsz, hn, xs, hown, hrep⟩ := st.blk 0 _ rfl
 rw [List.length_map] at hn hown
 have hxs : xs = zs.map enc := by rw [← recs_en1]; exact repR_flat (c := fun a => [enc a]) (fun _ => rfl) hrep
 rcases hown.2 with ⟨_, h0⟩ | ⟨g, cap, cur, hval, _, hb, hnc, hcm, hcs, htk⟩
 ·omega
 injection hval with e1 e2 e3
 have hLb : (σ 0).b = some g := by
  unfold Loc.oa at e1
  cases hbb : (σ 0).b with
  | none => rw [hbb] at e1; cases e1
  | some g' => rw [hbb] at e1; injection e1 with e1; injection e1 with e1; rw [e1]
 have hσ : σ 0 = ⟨some g, zs.length, cap, 1⟩ := by
  cases hs : σ 0 with
  | mk b n c sz => rw [hs] at hLb hn e3 hsz; simp only at hLb hn e3 hsz; subst hLb; subst hn; subst e3; subst hsz; rfl
 obtain ⟨v0, rfl, hv0⟩ : ∃ v0, vs = [v0] ∧ v0 = .slice (some ⟨g, 0, none⟩) zs.length cap := by
  match vs, r with
  | [v0], r =>
   refine ⟨v0, rfl, ?_⟩
   cases r.1 with
   | own _ hl => rw [hσ]; rfl
   | ownz _ oa hl hn0 hc => rw [hσ] at hn0; simp only at hn0; omega
 subst hv0
 have hg : g < w.heap.size := (Array.getElem?_eq_some_iff.1 hb).1
 have hsz2 : zs.length ≤ cur.size := by omega
 have hH : Sort.Holds enc w g 0 zs.toArray := by
  intro j hj
  have hj' : j < zs.length := by simpa using hj
  refine ⟨?_, by simp [World.frozen?, hb]⟩
  have h2 : (cur.toList.take zs.length)[j]? = (zs.map enc)[j]? := by rw [← hxs, ← htk, Nat.mul_one]
  rw [List.getElem?_take_of_lt hj'] at h2
  simp only [World.cell?, hb, Nat.zero_add]
  simp only [Option.isSome_none, Bool.false_eq_true, if_false]
  rw [← Array.getElem?_toList, h2]
  simp [hj']
 have hmu := st.mu 0 (.rows T 1 (zs.map (en1 enc))) g rfl rfl (.inl hLb)
 refine (h w g cap hH hg hnc).mono fun v w' ⟨hV, q, os, hw'⟩ => ?_
 have hheap : w'.heap[g]? = some (.cells (Sort.putCells enc 0 zs'.toArray cur) T (0, 0)) := by
  rw [hw', Sort.heap_grow_old _ _ (by simpa using hg)]
  simp [Sort.putRow, Sort.mapBlock, Sort.ahead, Array.getElem?_modify, hb, Sort.onCells]
 have hother : ∀ k, k < w.heap.size → k ≠ g → w'.heap[k]? = w.heap[k]? := fun k hk hne => by
  rw [hw', Sort.heap_grow_old _ _ (by simpa using hk)]
  have : g ≠ k := fun e => hne e.symm
  simp [Sort.putRow, Sort.mapBlock, Sort.ahead, Array.getElem?_modify, this]
 have hsize : w.heap.size ≤ w'.heap.size := by rw [hw']; simp
 have htake : (Sort.putCells enc 0 zs'.toArray cur).toList.take zs'.length = zs'.map enc := by
  apply List.ext_getElem?
  intro j
  by_cases hj : j < zs'.length
  ·rw [List.getElem?_take_of_lt hj, Array.getElem?_toList]
   simp [Sort.putCells, hj, show j < cur.size by omega]
  ·rw [List.getElem?_take_eq_none (by omega), List.getElem?_eq_none (by simp; omega)]
 have hFne : ∀ b, F b → b ≠ g := fun b hb e => hmu.1 (e ▸ hb)
 refine ⟨A, 1, σ, F, _, ⟨rfl, rfl, rfl⟩, ⟨?_, ?_, ?_, ?_, ?_, ?_, ?_⟩, ⟨Nat.le_refl _, fun _ _ => rfl, fun b hb => ⟨hb, hother b (st.fsub b hb).1 (hFne b hb)⟩, hsize⟩, hv w' σ F g cap v hσ hnc hV⟩
 ·exact Glob.chg st.glob hsize fun b hb => hother b (Nat.lt_of_lt_of_le hb st.glob.1) (by omega)
 ·refine ⟨by rw [hw']; rfl, by rw [hw']; rfl, by rw [hw']; rfl, hsize, fun k hk hm => hother k hk fun e => hm ⟨0, _, rfl, rfl, by rw [e]; exact .inl hLb⟩⟩
 ·exact fun b hb => ⟨Nat.lt_of_lt_of_le (st.fsub b hb).1 hsize, .inl hb⟩
 ·intro k b hk
  simp only [look] at hk
  cases hb0 : Nat.beq 0 k with
  | true => have := Nat.eq_of_beq_eq_true hb0; omega
  | false => rw [hb0, cond_false] at hk; cases hk
 ·intro k b g' hk hm hg'
  simp only [look] at hk
  cases hb0 : Nat.beq 0 k with
  | true =>
   have := Nat.eq_of_beq_eq_true hb0
   subst this
   rw [hb0, cond_true] at hk
   injection hk with hk
   subst hk
   have hg' := hg'.flat rfl
   rw [hLb] at hg'
   injection hg' with hg'
   subst hg'
   exact ⟨hmu.1, hmu.2.1, Nat.lt_of_lt_of_le hg hsize, .inl ⟨0, _, rfl, rfl, .inl hLb⟩⟩
  | false => rw [hb0, cond_false] at hk; cases hk
 ·intro k k' b b' g' hk hk' _ _ _ _
  simp only [look] at hk hk'
  cases hb0 : Nat.beq 0 k with
  | true =>
   cases hb1 : Nat.beq 0 k' with
   | true => rw [← Nat.eq_of_beq_eq_true hb0, ← Nat.eq_of_beq_eq_true hb1]
   | false => rw [hb1, cond_false] at hk'; cases hk'
  | false => rw [hb0, cond_false] at hk; cases hk
 ·intro k b hk
  simp only [look] at hk
  cases hb0 : Nat.beq 0 k with
  | true =>
   have := Nat.eq_of_beq_eq_true hb0
   subst this
   rw [hb0, cond_true] at hk
   injection hk with hk
   subst hk
   refine ⟨hsz, by rw [List.length_map, hl]; exact hn, zs'.map enc, ⟨by simp, .inr ⟨g, cap, _, ?_, Nat.zero_le _, hheap, by rw [List.length_map]; omega, hcm, by simp [Sort.putCells, hcs], ?_⟩⟩, rep_en1 h1 zs'⟩
   ·rw [hσ, List.length_map]; rfl
   ·rw [List.length_map, Nat.mul_one]; exact htake
  | false => rw [hb0, cond_false] at hk; cases hk
end
end
end Go.Proofs.YtgfgndaoocfpdaaGreatDoor.Ax
namespace Go.Proofs.YtgfgndaoocfpdaaGreatDoor.Vc
def pln4 (id : Nat) : Plan :=
 match id with
 | 6 => (.take 0 (.take 1 (.take 2 (.take 3 (.take 4 (.take 5 (.take 6 (.take 7 (.take 8 (.take 9 (.take 10 (.take 11 (.take 13 (.take 14 (.take 15 (.take 16 (.take 17 (.take 18 (.take 19 (.take 20 (.take 21 (.take 22 (.take 23 (.take 24 (.one 12 (.post 25 (.take 26 (.take 27 (.take 28 (.take 29 (.take 30 (.take 31 (.take 32 (.take 33 (.take 35 (.take 36 (.take 37 (.take 38 (.take 39 (.take 40 (.one 34 (.post 41 (.take 42 (.take 43 (.take 44 (.take 45 (.take 46 (.take 47 (.take 48 (.take 49 (.take 50 (.take 51 (.take 53 (.take 54 (.take 55 (.take 56 (.take 57 (.take 58 (.take 59 (.one 52 (.post 60 (.take 61 (.take 62 (.take 63 .done))))))))))))))))))))))))))))))))))))))))))))))))))))))))))))))))
 | _ => .done
def pln5 (id : Nat) : Plan :=
 match id with
 | 8 => (.take 0 (.take 1 (.take 2 (.take 3 (.take 6 (.take 7 (.take 8 (.take 9 (.one 4 (.one 5 (.one 10 (.post 11 (.post 12 (.take 13 (.take 14 (.take 15 (.take 16 (.take 17 (.take 19 (.take 20 (.take 21 (.take 22 (.one 18 (.post 23 (.post 24 (.take 25 (.take 26 (.take 27 (.take 28 (.take 29 (.take 30 (.one 31 (.post 32 (.take 33 (.take 34 (.take 35 (.take 36 .done)))))))))))))))))))))))))))))))))))))
 | _ => .done
def ws10_1 : List (Nat × Nat) := [(4, 20)]
def ws11_1 : List (Nat × Nat) := [(4, 7), (34, 85)]
def pln11 (id : Nat) : Plan :=
 match id with
 | 1 => (.take 1 (.take 2 (.take 3 (.take 6 (.take 7 (.take 8 (.take 9 (.take 10 (.take 11 (.take 12 (.take 13 (.take 14 (.take 15 (.take 16 (.take 17 (.take 18 (.take 19 (.take 20 (.take 21 (.take 22 (.take 23 (.take 24 (.two 0 (.take 4 (.take 5 (.take 25 (.one 26 (.post 27 .done))))) 26 (.one 0 (.take 4 (.take 5 (.take 25 (.post 27 .done))))))))))))))))))))))))))))
 | 8 => (.take 0 (.take 1 (.take 2 (.take 3 (.take 4 (.take 5 (.take 6 (.take 7 (.take 8 (.take 9 (.take 10 (.take 11 (.take 12 (.take 13 (.take 14 (.take 15 (.take 16 (.take 17 .done))))))))))))))))))
 | _ => .done
def ws12_1 : List (Nat × Nat) := [(2, 2), (4, 5), (44, 73)]
def ws13_1 : List (Nat × Nat) := [(2, 5), (36, 74)]
def ws14_1 : List (Nat × Nat) := [(4, 5), (7, 11), (16, 116)]
def pln14 (id : Nat) : Plan :=
 match id with
 | 12 => (.take 1 (.take 4 (.take 5 (.take 6 (.take 7 (.take 8 (.take 9 (.three 0 (.take 2 (.take 3 (.two 10 (.two 11 (.take 12 (.one 13 (.post 14 .done))) 13 (.one 11 (.take 12 (.post 14 .done)))) 13 (.one 10 (.one 11 (.take 12 (.post 14 .done))))))) 10 (.three 0 (.take 2 (.take 3 (.two 11 (.take 12 (.one 13 (.post 14 .done))) 13 (.one 11 (.take 12 (.post 14 .done)))))) 11 (.two 0 (.take 2 (.take 3 (.take 12 (.one 13 (.post 14 .done))))) 13 (.one 0 (.take 2 (.take 3 (.take 12 (.post 14 .done)))))) 13 (.two 0 (.take 2 (.take 3 (.one 11 (.take 12 (.post 14 .done))))) 11 (.one 0 (.take 2 (.take 3 (.take 12 (.post 14 .done))))))) 13 (.two 0 (.take 2 (.take 3 (.one 10 (.one 11 (.take 12 (.post 14 .done)))))) 10 (.two 0 (.take 2 (.take 3 (.one 11 (.take 12 (.post 14 .done))))) 11 (.one 0 (.take 2 (.take 3 (.take 12 (.post 14 .done)))))))))))))))
 | 18 => (.take 1 (.take 6 (.take 11 (.take 15 (.take 19 (.one 0 (.one 2 (.take 3 (.take 4 (.take 5 (.one 7 (.take 8 (.take 9 (.take 10 (.one 12 (.take 13 (.take 14 (.one 16 (.take 17 (.take 18 (.one 20 (.take 21 (.one 22 (.take 23 (.one 24 (.take 25 (.post 26 .done)))))))))))))))))))))))))))
 | 21 => (.take 0 (.take 2 (.take 3 (.one 1 (.take 4 .done)))))
 | 14 => (.take 1 (.take 6 (.take 9 (.one 0 (.one 2 (.take 3 (.take 4 (.take 5 (.one 7 (.take 8 (.one 10 (.take 11 (.one 12 (.take 13 (.post 14 .done)))))))))))))))
 | _ => .done
def ws16_1 : List (Nat × Nat) := [(14, 14), (16, 16), (38, 76)]
def ws16_2 : List (Nat × Nat) := [(18, 20), (101, 142)]
def pln16 (id : Nat) : Plan :=
 match id with
 | 24 => (.take 0 (.take 1 (.take 2 (.take 3 (.take 4 (.take 5 (.take 7 (.take 8 (.take 9 (.take 10 (.take 11 (.take 12 (.take 13 (.take 14 (.one 6 (.post 15 (.take 16 .done)))))))))))))))))
 | 25 => (.take 0 (.take 1 (.take 2 (.take 4 (.take 5 (.one 3 (.take 6 (.take 7 (.take 8 (.take 9 (.take 10 (.take 12 (.take 13 (.one 11 (.take 14 (.take 15 .done))))))))))))))))
 | _ => .done
def ws17_1 : List (Nat × Nat) := [(13, 13), (16, 17), (35, 78)]
def ws18_1 : List (Nat × Nat) := [(4, 5), (11, 25)]
def pln18 (id : Nat) : Plan :=
 match id with
 | 6 => (.take 0 (.take 1 (.take 2 (.take 3 (.take 4 (.take 5 (.take 6 (.take 7 (.take 8 .done)))))))))
 | _ => .done
def ws19_1 : List (Nat × Nat) := [(9, 12), (14, 15), (32, 65)]
def pln19 (id : Nat) : Plan :=
 match id with
 | 4 => (.take 0 (.take 1 (.take 2 (.take 3 (.take 4 (.take 5 (.take 6 (.take 7 (.take 8 .done)))))))))
 | _ => .done
def ws20_1 : List (Nat × Nat) := [(3, 35)]
def ws21_1 : List (Nat × Nat) := [(8, 14), (18, 72)]
def pln21 (id : Nat) : Plan :=
 match id with
 | 9 => (.take 0 (.take 1 (.take 2 (.take 3 (.take 4 (.take 5 (.take 6 (.take 7 (.take 8 (.take 9 .done))))))))))
 | _ => .done
def ws22_1 : List (Nat × Nat) := [(6, 11), (14, 72)]
def ws22_2 : List (Nat × Nat) := [(10, 11), (37, 55)]
def pln22 (id : Nat) : Plan :=
 match id with
 | 13 => (.take 0 (.take 1 (.take 2 (.take 3 (.take 4 (.take 5 (.take 6 (.take 7 (.take 8 (.take 9 (.post 10 (.take 11 (.take 12 (.take 13 .done))))))))))))))
 | _ => .done
def ws24_1 : List (Nat × Nat) := [(9, 47)]
def ws25_1 : List (Nat × Nat) := [(11, 11), (29, 50)]
def ws25_2 : List (Nat × Nat) := [(12, 19), (51, 208)]
def ws25_3 : List (Nat × Nat) := [(15, 16), (18, 19), (80, 186)]
def pln25 (id : Nat) : Plan :=
 match id with
 | 8 => (.take 0 (.take 1 (.take 2 (.take 3 (.take 4 (.take 5 (.take 6 (.take 7 (.take 8 (.take 9 (.take 10 (.take 11 (.take 12 (.take 13 (.one 14 (.take 15 (.post 16 .done)))))))))))))))))
 | 13 => (.take 0 (.take 1 (.take 2 (.take 3 (.take 4 (.take 5 (.take 6 (.take 7 (.take 8 (.take 9 .done))))))))))
 | 16 => (.take 0 (.take 2 (.take 3 (.take 4 (.take 5 (.take 6 (.one 1 (.post 7 (.take 8 .done)))))))))
 | 21 => (.take 0 (.take 1 (.take 2 (.take 3 (.take 4 (.take 5 (.take 6 (.take 7 (.take 8 (.take 9 (.take 10 (.take 11 (.take 12 (.take 13 (.take 14 (.take 15 (.take 16 (.take 17 (.take 18 (.take 19 (.take 20 (.take 21 (.take 22 (.take 23 (.take 24 (.take 25 (.take 26 (.take 27 (.take 28 .done)))))))))))))))))))))))))))))
 | 24 => (.take 0 (.take 1 (.take 2 (.take 3 (.take 4 (.take 5 (.take 6 (.take 7 (.take 8 (.take 9 (.take 10 (.take 11 (.take 12 (.take 13 (.take 14 (.take 15 (.take 16 (.take 17 (.take 18 .done)))))))))))))))))))
 | 26 => (.take 0 (.take 1 (.take 2 (.take 3 (.take 4 (.take 5 (.take 6 (.take 7 (.take 8 (.take 9 (.take 10 (.take 11 (.take 12 (.take 13 (.take 14 (.take 15 (.take 16 (.take 17 (.take 18 (.take 19 (.take 20 (.take 21 (.take 22 (.take 23 (.take 24 (.take 25 (.take 26 (.take 27 (.take 28 (.take 29 (.take 30 (.take 31 (.take 32 (.take 33 (.take 34 (.post 35 (.take 36 .done)))))))))))))))))))))))))))))))))))))
 | _ => .done
def ws26_1 : List (Nat × Nat) := [(5, 24)]
def ws27_1 : List (Nat × Nat) := [(5, 23)]
def pln29 (id : Nat) : Plan :=
 match id with
 | 2 => (.take 0 (.take 4 (.take 8 (.take 11 (.two 1 (.take 2 (.two 3 (.two 5 (.take 6 (.take 7 (.two 9 (.take 10 (.two 12 (.take 13 (.take 14 (.one 15 (.post 16 .done)))) 15 (.one 12 (.take 13 (.take 14 (.post 16 .done)))))) 15 (.one 9 (.take 10 (.one 12 (.take 13 (.take 14 (.post 16 .done))))))))) 15 (.one 5 (.take 6 (.take 7 (.one 9 (.take 10 (.one 12 (.take 13 (.take 14 (.post 16 .done)))))))))) 15 (.one 3 (.one 5 (.take 6 (.take 7 (.one 9 (.take 10 (.one 12 (.take 13 (.take 14 (.post 16 .done)))))))))))) 15 (.one 1 (.take 2 (.one 3 (.one 5 (.take 6 (.take 7 (.one 9 (.take 10 (.one 12 (.take 13 (.take 14 (.post 16 .done)))))))))))))))))
 | _ => .done
def ws30_1 : List (Nat × Nat) := [(2, 5), (18, 49)]
def ws30_2 : List (Nat × Nat) := [(2, 2), (7, 7), (52, 59)]
def ws32_1 : List (Nat × Nat) := [(2, 2), (4, 4), (14, 25)]
def pln35 (id : Nat) : Plan :=
 match id with
 | 1 => (.take 0 (.take 1 (.take 2 (.take 3 (.take 4 (.take 5 (.take 6 (.take 7 (.take 8 (.take 9 (.take 10 .done)))))))))))
 | _ => .done
def pln36 (id : Nat) : Plan :=
 match id with
 | 1 => (.take 0 (.take 1 (.take 2 (.take 3 (.take 4 (.take 5 (.take 6 (.take 7 (.take 8 (.take 9 .done))))))))))
 | 4 => (.take 0 (.take 1 (.take 2 (.take 3 (.take 4 (.take 5 (.take 6 (.take 7 (.take 8 (.take 9 (.take 10 (.take 11 (.take 12 (.take 13 (.take 14 .done)))))))))))))))
 | _ => .done
def ws40_1 : List (Nat × Nat) := [(6, 7), (9, 14), (18, 89)]
def pln40 (id : Nat) : Plan :=
 match id with
 | 9 => (.take 0 (.take 1 (.take 2 (.take 3 (.take 4 (.take 5 (.take 6 (.take 7 (.take 8 (.take 9 (.take 10 (.take 11 .done))))))))))))
 | 14 => (.take 0 (.take 1 (.take 2 (.take 3 (.take 4 (.take 5 (.take 6 (.take 8 (.take 9 (.one 7 (.one 10 (.take 11 (.take 12 (.take 13 (.take 14 (.post 15 .done))))))))))))))))
 | _ => .done
def ws42_1 : List (Nat × Nat) := [(9, 11), (13, 15), (18, 50)]
def ws42_2 : List (Nat × Nat) := [(9, 9), (13, 15), (25, 49)]
def ws43_1 : List (Nat × Nat) := [(14, 18), (44, 77), (113, 124)]
def pln43 (id : Nat) : Plan :=
 match id with
 | 15 => (.take 0 (.take 1 (.take 2 (.take 3 (.take 4 (.take 5 (.one 6 (.post 7 .done))))))))
 | 16 => (.take 0 (.take 1 (.take 2 (.take 3 (.take 4 (.post 5 (.take 6 (.take 7 (.take 8 (.take 9 (.one 10 (.take 11 (.post 12 .done)))))))))))))
 | 21 => (.take 0 (.take 1 (.take 2 (.take 3 (.take 4 (.take 5 (.take 6 (.take 7 (.take 8 (.take 9 (.take 10 (.take 11 (.take 12 (.take 13 (.take 14 (.take 15 (.take 16 (.take 17 (.take 18 (.take 19 (.take 20 (.take 22 (.take 23 (.take 24 (.take 25 (.take 26 (.one 21 (.post 27 (.take 28 (.take 29 .done))))))))))))))))))))))))))))))
 | _ => .done
def ws46_1 : List (Nat × Nat) := [(7, 7), (16, 25)]
def ws46_2 : List (Nat × Nat) := [(5, 5), (8, 12), (26, 124)]
def ws46_3 : List (Nat × Nat) := [(10, 10), (32, 50)]
def pln46 (id : Nat) : Plan :=
 match id with
 | 12 => (.take 0 (.take 1 (.take 2 (.take 3 (.take 4 (.take 5 (.take 6 (.take 7 (.take 8 (.take 9 (.take 10 (.take 11 (.take 12 (.take 13 (.take 14 (.take 15 (.take 16 .done)))))))))))))))))
 | 17 => (.take 0 (.take 1 (.take 2 (.take 3 (.take 4 (.take 5 (.take 6 (.take 7 (.take 8 (.take 9 (.take 10 (.take 12 (.take 13 (.take 14 (.take 15 (.take 16 (.one 11 (.one 17 (.take 18 (.take 19 (.take 20 (.take 21 (.take 22 (.post 23 .done))))))))))))))))))))))))
 | _ => .done
def ws47_1 : List (Nat × Nat) := [(8, 58)]
def pln47 (id : Nat) : Plan :=
 match id with
 | 7 => (.take 0 (.take 1 (.take 2 (.take 4 (.take 5 (.one 3 (.take 6 (.take 7 (.take 8 (.take 9 (.take 10 (.take 12 (.take 13 (.one 11 (.take 14 (.take 15 .done))))))))))))))))
 | _ => .done
def ws48_1 : List (Nat × Nat) := [(3, 35)]
def pln48 (id : Nat) : Plan :=
 match id with
 | 6 => (.take 0 (.take 1 (.take 2 (.take 3 (.take 4 (.take 5 (.take 6 (.take 7 (.take 8 (.take 9 (.take 10 (.take 11 (.take 12 (.take 13 (.take 14 (.take 15 (.take 16 (.one 17 (.post 18 (.take 19 .done))))))))))))))))))))
 | _ => .done
def ws49_1 : List (Nat × Nat) := [(5, 26)]
def ws51_1 : List (Nat × Nat) := [(4, 19)]
def ws53_1 : List (Nat × Nat) := [(5, 23)]
def ws54_1 : List (Nat × Nat) := [(11, 11), (14, 14), (74, 94)]
def pln54 (id : Nat) : Plan :=
 match id with
 | 1 => (.take 0 (.take 1 (.take 2 (.take 3 (.take 4 (.take 5 .done))))))
 | _ => .done
def ws55_1 : List (Nat × Nat) := [(8, 8), (11, 12), (20, 49)]
def ws55_2 : List (Nat × Nat) := [(8, 8), (12, 12), (33, 49)]
def pln55 (id : Nat) : Plan :=
 match id with
 | 10 => (.take 0 (.take 1 (.take 2 (.take 3 (.take 4 (.take 5 (.take 6 (.take 7 (.take 8 (.take 9 .done))))))))))
 | _ => .done
def ws56_1 : List (Nat × Nat) := [(6, 10), (14, 53)]
def pln56 (id : Nat) : Plan :=
 match id with
 | 19 => (.take 0 (.take 1 (.take 2 (.take 4 (.take 5 (.take 6 (.one 3 (.post 7 (.take 8 (.take 9 .done))))))))))
 | _ => .done
def ws58_1 : List (Nat × Nat) := [(3, 8), (13, 35)]
def ws58_2 : List (Nat × Nat) := [(12, 12), (42, 55)]
def ws58_3 : List (Nat × Nat) := [(10, 12), (57, 94)]
def ws58_4 : List (Nat × Nat) := [(12, 12), (80, 93)]
def ws60_1 : List (Nat × Nat) := [(2, 43)]
def ws66_1 : List (Nat × Nat) := [(4, 5), (8, 18)]
def ws68_1 : List (Nat × Nat) := [(11, 14), (32, 46)]
def pln68 (id : Nat) : Plan :=
 match id with
 | 8 => (.take 0 (.take 1 (.take 2 (.take 3 (.take 4 (.take 5 (.take 6 (.take 7 (.take 8 (.take 9 (.take 10 .done)))))))))))
 | _ => .done
def ws69_1 : List (Nat × Nat) := [(4, 6), (9, 19)]
def ws71_1 : List (Nat × Nat) := [(11, 11), (14, 14), (51, 65)]
def pln71 (id : Nat) : Plan :=
 match id with
 | 13 => (.take 0 (.take 2 (.take 3 (.take 4 (.take 6 (.take 8 (.take 10 (.take 11 (.take 14 (.take 16 (.take 17 (.take 18 (.take 19 (.take 20 (.two 1 (.take 5 (.two 7 (.take 9 (.two 12 (.take 13 (.two 15 (.take 21 (.take 22 (.take 23 (.take 24 (.one 25 (.post 26 .done)))))) 25 (.one 15 (.take 21 (.take 22 (.take 23 (.take 24 (.post 26 .done)))))))) 25 (.one 12 (.take 13 (.one 15 (.take 21 (.take 22 (.take 23 (.take 24 (.post 26 .done)))))))))) 25 (.one 7 (.take 9 (.one 12 (.take 13 (.one 15 (.take 21 (.take 22 (.take 23 (.take 24 (.post 26 .done)))))))))))) 25 (.one 1 (.take 5 (.one 7 (.take 9 (.one 12 (.take 13 (.one 15 (.take 21 (.take 22 (.take 23 (.take 24 (.post 26 .done)))))))))))))))))))))))))))
 | 18 => (.take 0 (.take 1 (.take 2 (.take 4 (.take 5 (.take 7 (.take 8 (.take 9 (.one 3 (.take 6 (.take 10 (.take 11 (.take 12 (.post 13 .done))))))))))))))
 | 20 => (.take 0 (.take 1 (.take 2 (.take 4 (.take 5 (.take 7 (.take 8 (.take 9 (.one 3 (.take 6 (.take 10 (.take 11 (.take 12 (.post 13 .done))))))))))))))
 | _ => .done
def pln72 (id : Nat) : Plan :=
 match id with
 | 4 => (.take 0 (.take 1 (.take 2 (.take 3 (.take 4 (.take 5 (.take 6 (.take 7 (.take 8 (.take 9 (.take 10 (.take 11 (.take 12 (.take 13 (.take 14 .done)))))))))))))))
 | _ => .done
def ws74_1 : List (Nat × Nat) := [(8, 8), (10, 11), (18, 37)]
def pln75 (id : Nat) : Plan :=
 match id with
 | 1 => (.take 0 (.take 1 (.take 2 (.take 3 (.take 4 (.take 5 (.take 6 (.one 7 (.one 8 (.take 9 (.post 10 .done)))))))))))
 | _ => .done
def pln76 (id : Nat) : Plan :=
 match id with
 | 1 => (.take 0 (.take 1 (.take 2 (.take 3 (.take 4 (.take 5 (.take 6 (.take 7 (.take 8 (.take 9 (.take 10 (.take 11 (.take 12 (.take 13 (.take 14 (.take 15 (.take 16 (.take 17 (.take 18 (.take 19 (.take 20 (.take 21 (.take 22 (.post 23 .done))))))))))))))))))))))))
 | _ => .done
def ws77_1 : List (Nat × Nat) := [(7, 8), (10, 10), (20, 59)]
def ws78_1 : List (Nat × Nat) := [(10, 10), (12, 15), (17, 17), (38, 75)]
def ws78_2 : List (Nat × Nat) := [(12, 15), (17, 17), (48, 74)]
def ws78_3 : List (Nat × Nat) := [(17, 17), (64, 73)]
def ws81_1 : List (Nat × Nat) := [(11, 13), (25, 42)]
def pln81 (id : Nat) : Plan :=
 match id with
 | 8 => (.take 0 (.take 1 (.take 2 (.take 3 (.take 4 (.take 5 (.take 6 (.take 7 (.take 8 (.take 9 (.take 10 (.take 11 (.take 12 (.take 13 .done))))))))))))))
 | 10 => (.take 0 (.take 1 (.take 2 (.take 3 (.take 4 (.take 5 (.take 6 (.take 7 (.take 8 (.take 9 (.take 10 (.take 11 (.take 12 (.take 13 (.take 14 (.take 15 (.take 16 (.take 17 (.take 18 (.take 20 (.one 19 (.take 21 (.take 22 .done)))))))))))))))))))))))
 | _ => .done
def ws82_1 : List (Nat × Nat) := [(4, 17)]
def ws83_1 : List (Nat × Nat) := [(5, 10), (13, 50)]
def ws83_2 : List (Nat × Nat) := [(5, 10), (14, 50)]
def plan83 (id : Nat) : Plan :=
 match id with
 | 8 => (.take 0 (.take 1 (.take 2 (.take 3 (.take 4 (.take 5 (.take 7 (.take 8 (.take 9 (.take 10 (.take 11 (.take 12 (.one 6 (.one 13 (.take 14 (.take 15 .done))))))))))))))))
 | _ => .done
def pln83 (id : Nat) : Plan :=
 match id with
 | 8 => (.take 0 (.take 1 (.take 2 (.take 3 (.take 4 (.take 5 (.take 7 (.take 8 (.take 9 (.take 10 (.take 11 (.take 12 (.one 6 (.post 13 (.take 14 (.take 15 .done))))))))))))))))
 | _ => .done
def ws84_1 : List (Nat × Nat) := [(9, 13), (22, 65)]
def pln84 (id : Nat) : Plan :=
 match id with
 | 9 => (.take 0 (.take 1 (.take 2 (.take 3 (.take 4 (.take 6 (.take 7 (.take 8 (.take 9 (.take 10 (.one 5 (.post 11 (.take 12 .done)))))))))))))
 | _ => .done
def ws86_1 : List (Nat × Nat) := [(9, 13), (16, 64)]
def ws86_2 : List (Nat × Nat) := [(11, 13), (22, 49)]
def pln86 (id : Nat) : Plan :=
 match id with
 | 10 => (.take 0 (.take 1 (.take 2 (.take 3 (.take 4 (.take 5 (.take 6 (.take 7 (.take 8 (.take 9 (.post 10 (.take 11 (.take 12 (.take 13 (.take 14 (.take 15 .done))))))))))))))))
 | 12 => (.take 0 (.take 1 (.take 2 (.take 3 (.take 4 (.take 5 (.take 6 (.take 7 (.take 8 (.take 9 (.take 10 (.take 11 (.take 12 (.one 13 (.post 14 (.take 15 .done))))))))))))))))
 | _ => .done
def ws93_1 : List (Nat × Nat) := [(8, 10), (46, 71)]
def ws95_1 : List (Nat × Nat) := [(15, 16), (67, 85)]
def ws95_2 : List (Nat × Nat) := [(16, 16), (18, 18), (102, 120)]
def pln95 (id : Nat) : Plan :=
 match id with
 | 6 => (.take 0 (.take 1 (.take 2 (.take 3 (.take 4 (.take 5 (.take 6 (.take 7 .done))))))))
 | _ => .done
def ws97_1 : List (Nat × Nat) := [(8, 8), (11, 13), (15, 15), (31, 70)]
def ws97_2 : List (Nat × Nat) := [(12, 13), (15, 15), (38, 64)]
def pln97 (id : Nat) : Plan :=
 match id with
 | 12 => (.take 0 (.take 1 (.take 2 (.take 3 (.take 4 (.take 5 (.take 6 (.take 7 .done))))))))
 | _ => .done
def ws100_1 : List (Nat × Nat) := [(5, 5), (8, 22)]
def ws105_1 : List (Nat × Nat) := [(3, 3), (6, 6), (10, 24)]
def ws106_1 : List (Nat × Nat) := [(5, 5), (7, 7), (10, 22)]
def ws107_1 : List (Nat × Nat) := [(7, 7), (9, 9), (11, 11), (21, 45)]
def ws107_2 : List (Nat × Nat) := [(7, 7), (11, 11), (31, 44)]
def ws108_1 : List (Nat × Nat) := [(5, 7), (9, 24)]
def pln110 (id : Nat) : Plan :=
 match id with
 | 3 => (.take 0 (.take 1 (.take 2 (.take 3 (.take 4 (.take 6 (.take 7 (.one 5 (.post 8 (.take 9 .done))))))))))
 | _ => .done
def ws111_1 : List (Nat × Nat) := [(8, 9), (43, 74)]
def ws113_1 : List (Nat × Nat) := [(5, 19)]
def plan113 (id : Nat) : Plan :=
 match id with
 | 4 => (.take 1 (.take 2 (.take 3 (.take 5 (.take 8 (.take 9 (.take 10 (.two 0 (.two 4 (.one 6 (.one 7 (.one 11 (.take 12 .done)))) 6 (.one 4 (.one 7 (.one 11 (.take 12 .done))))) 6 (.one 0 (.one 4 (.one 7 (.one 11 (.take 12 .done)))))))))))))
 | _ => .done
def pln113 (id : Nat) : Plan :=
 match id with
 | 4 => (.take 1 (.take 2 (.take 3 (.take 5 (.take 8 (.take 9 (.take 10 (.two 0 (.two 4 (.one 6 (.one 7 (.post 11 (.take 12 .done)))) 6 (.one 4 (.one 7 (.post 11 (.take 12 .done))))) 6 (.one 0 (.one 4 (.one 7 (.post 11 (.take 12 .done)))))))))))))
 | _ => .done
def ws114_1 : List (Nat × Nat) := [(0, 0), (3, 9)]
def ws121_1 : List (Nat × Nat) := [(4, 5), (8, 18)]
def ws123_1 : List (Nat × Nat) := [(5, 5), (9, 19)]
def ws124_1 : List (Nat × Nat) := [(1, 1), (4, 16)]
def ws127_1 : List (Nat × Nat) := [(9, 9), (11, 16), (21, 57)]
def ws127_2 : List (Nat × Nat) := [(12, 16), (26, 51)]
end Go.Proofs.YtgfgndaoocfpdaaGreatDoor.Vc
namespace Go.Proofs.YtgfgndaoocfpdaaGreatDoor.Cl
open Go Go.RowKit Go.Proofs Go.Proofs.YtgfgndaoocfpdaaGreatDoor.Vc Go.Proofs.YtgfgndaoocfpdaaGreatDoor.Ax
abbrev By := List UInt8
abbrev Tx := List By
def I64 (n : Int) : Prop := -9223372036854775808 ≤ n ∧ n ≤ 9223372036854775807
theorem i64_nat {n : Nat} (h : n ≤ 9223372036854775807) : I64 (n : Int) := by unfold I64; omega
theorem toNat_ofNat {u : Nat} (h : u < 256) : (UInt8.ofNat u).toNat = u := by
 simp [UInt8.toNat_ofNat', Nat.mod_eq_of_lt h]
abbrev Li := List Int
def AllI (l : Li) : Prop := ∀ x ∈ l, I64 x
theorem mixed : Tryz.prog.follows .mixedOrders = true := by kernel_rfl
def GC : Glob := ⟨0, fun _ => none, fun _ => none⟩
abbrev iv (n : Int) : AV := .v (.int .i64 n)
abbrev bv (b : Bool) : AV := .v (.bool b)
abbrev uv (n : Nat) : AV := .v (.int .u64 (n : Int))
def enI (x : Int) : List FV := [.v (.int .i64 x)]
abbrev bs (b : By) : AV := .lst 1 (b.map enB)
abbrev li (l : Li) : AV := .lst 1 (l.map enI)
theorem AAr.to {k : IntKind} {x y : Int} {K : Int → Prop} (h : k.wrap x = y) (c : K y) : AAr k x K := ⟨by rw [h]; exact c⟩
theorem ABy.of {s : By} {K : ByteArray → Prop} (c : K ⟨s.toArray⟩) : ABy (s.map enB) K := ⟨⟨s, rfl, c⟩⟩
abbrev u8v (n : Nat) : AV := .v (.int .u8 (n : Int))
theorem sEq_tx (a b : By) : sEq ⟨a.toArray⟩ ⟨b.toArray⟩ = decide (a = b) := by
 rw [sEqD]
 by_cases h : a = b
 ·subst h; simp
 ·rw [decide_eq_false h]
  refine decide_eq_false fun e => h ?_
  injection e with e
  simpa using congrArg Array.toList e
def enBo (b : Bool) : List FV := [.v (.bool b)]
end Go.Proofs.YtgfgndaoocfpdaaGreatDoor.Cl
