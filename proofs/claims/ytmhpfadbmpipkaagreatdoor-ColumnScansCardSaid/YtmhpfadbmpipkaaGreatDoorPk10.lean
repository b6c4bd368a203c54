/- Joined parts of the proof. Calls of functions that change memory of the caller's: the labels lent come back changed -/
import Derived.Test.YtmhpfadbmpipkaaGreatDoorPk7
import Derived.Test.YtmhpfadbmpipkaaGreatDoorPk9
import Derived.Test.YtmhpfadbmpipkaaGreatDoorPk8
import Derived.Test.YtmhpfadbmpipkaaGreatDoorProg
import Derived.Sort.Grow
import Derived.Shelf.Sort.Plain
import Derived.Shelf.Bits.Mul64
import Derived.Ground.Names2Prog
import Derived.Shelf.Slices.CompactI
import Derived.Shelf.Slices.CompactS
set_option linter.unusedVariables false
set_option linter.unusedSimpArgs false
set_option maxRecDepth 100000
set_option maxHeartbeats 16000000
namespace Go.Proofs.YtmhpfadbmpipkaaGreatDoor.Ax
open Go Go.RowKit Go.Proofs.YtmhpfadbmpipkaaGreatDoor.Vc
mutual
def rnA (f : Nat → Nat) : AV → AV
 | .ptr e o => .ptr (f e) o
 | .ep e i o => .ep (f e) i o
 | .own e => .own (f e)
 | .sub e o k => .sub (f e) o k
 | .mp e => .mp (f e)
 | .fn g xs ys => .fn g (rnL f xs) (rnL f ys)
 | .agg cs => .agg (rnL f cs)
 | .tup cs => .tup (rnL f cs)
 | .top => .top
 | .v x => .v x
 | .lst sz l => .lst sz l
 | .fp cs o => .fp cs o
def rnL (f : Nat → Nat) : List AV → List AV
 | [] => []
 | a :: r => rnA f a :: rnL f r
end
def rnB (f : Nat → Nat) : ABlk → ABlk
 | .var t cs => .var t (rnL f cs)
 | b => b
def rnH (f : Nat → Nat) : AHeap → AHeap
 | [] => []
 | p :: r => (f p.1, rnB f p.2) :: rnH f r
theorem rnL_eq (f : Nat → Nat) : ∀ l : List AV, rnL f l = l.map (rnA f) := by
 intro l
 induction l with
 | nil => rfl
 | cons a r ih => simp [rnL, ih]
theorem rnB_own (f : Nat → Nat) (b : ABlk) : (rnB f b).own = b.own := by cases b <;> rfl
section
variable {n m : Nat} {σ σ' : Nat → Loc} {F : Nat → Prop} {w : World} {f : Nat → Nat}
theorem rn_rep (hs : ∀ k, k < m → f k < n ∧ σ' (f k) = σ k) {a : AV} {v : Value} (r : ARep m σ F w a v) : ARep n σ' F w (rnA f a) v := by
 induction r with
 | top x => exact .top x
 | v x => exact .v x
 | lst h => exact .lst h
 | fp h => exact .fp h
 | ptr l o b hl hb => exact .ptr _ o b (hs l hl).1 (by rw [(hs l hl).2]; exact hb)
 | ep l i o b hl hb => rw [← (hs l hl).2]; exact .ep _ i o b (hs l hl).1 (by rw [(hs l hl).2]; exact hb)
 | own l hl => rw [← (hs l hl).2]; exact .own _ (hs l hl).1
 | ownz l oa hl hn hc => exact .ownz _ oa (hs l hl).1 (by rw [(hs l hl).2]; exact hn) (by rw [(hs l hl).2]; exact hc)
 | sub l o k oa c hl hk hc hnil ho => exact .sub _ o k oa c (hs l hl).1 (by rw [(hs l hl).2]; exact hk) hc hnil (by rw [(hs l hl).2]; exact ho)
 | mp l b hl hb => exact .mp _ b (hs l hl).1 (by rw [(hs l hl).2]; exact hb)
 | fn g xs ys us vs hx hy _ _ ih1 ih2 =>
  simp only [rnA, rnL_eq]
  refine .fn g _ _ us vs (by simp [hx]) (by simp [hy]) (fun j a v h1 h2 => ?_) (fun j a v h1 h2 => ?_)
  ·rw [List.getElem?_map] at h1
   cases hx : xs[j]? with
   | none => rw [hx] at h1; cases h1
   | some x => rw [hx] at h1; injection h1 with h1; rw [← h1]; exact ih1 j x v hx h2
  ·rw [List.getElem?_map] at h1
   cases hy : ys[j]? with
   | none => rw [hy] at h1; cases h1
   | some y => rw [hy] at h1; injection h1 with h1; rw [← h1]; exact ih2 j y v hy h2
 | agg xs us hx _ ih =>
  simp only [rnA, rnL_eq]
  refine .agg _ us (by simp [hx]) (fun j a v h1 h2 => ?_)
  rw [List.getElem?_map] at h1
  cases hx : xs[j]? with
  | none => rw [hx] at h1; cases h1
  | some x => rw [hx] at h1; injection h1 with h1; rw [← h1]; exact ih j x v hx h2
 | tup xs us hx _ ih =>
  simp only [rnA, rnL_eq]
  refine .tup _ us (by simp [hx]) (fun j a v h1 h2 => ?_)
  rw [List.getElem?_map] at h1
  cases hx : xs[j]? with
  | none => rw [hx] at h1; cases h1
  | some x => rw [hx] at h1; injection h1 with h1; rw [← h1]; exact ih j x v hx h2
theorem rnL_rep (hs : ∀ k, k < m → f k < n ∧ σ' (f k) = σ k) {l : List AV} {vs : List Value} (r : RepL m σ F w l vs) : RepL n σ' F w (rnL f l) vs := by
 rw [rnL_eq]
 refine .of (by simp [r.len]) fun j a v h1 h2 => ?_
 rw [List.getElem?_map] at h1
 cases hx : l[j]? with
 | none => rw [hx] at h1; cases h1
 | some x => rw [hx] at h1; injection h1 with h1; rw [← h1]; exact rn_rep hs (r.at j x v hx h2)
theorem rnB_rep (hs : ∀ k, k < m → f k < n ∧ σ' (f k) = σ k) {L : Loc} {b : ABlk} (r : BRep m σ F w L b) : BRep n σ' F w L (rnB f b) := by
 cases b with
 | var t cs => obtain ⟨g, vs, h1, h2, h3, h4⟩ := r; exact ⟨g, vs, h1, h2, rnL_rep hs h3, h4⟩
 | _ => exact r
theorem look_rnH : ∀ {H : AHeap} {k : Nat} {b : ABlk}, look (rnH f H) k = some b → ∃ j c, k = f j ∧ c ∈ H.map (·.2) ∧ (j, c) ∈ H ∧ b = rnB f c := by
 intro H
 induction H with
 | nil => intro k b h; cases h
 | cons p r ih =>
  intro k b h
  obtain ⟨x, c⟩ := p
  simp only [rnH] at h
  rw [look_cons] at h
  split at h
  ·rename_i e
   injection h with h
   exact ⟨x, c, e.symm, by simp, by simp, h.symm⟩
  ·obtain ⟨j, d, h1, h2, h3, h4⟩ := ih h
   exact ⟨j, d, h1, by simp at h2 ⊢; exact .inr h2, by simp [h3], h4⟩
end
def once : AHeap → Bool
 | [] => true
 | p :: r => (match look r p.1 with | some _ => false | none => true) && once r
theorem once_look : ∀ {H : AHeap} {k : Nat} {b : ABlk}, once H = true → (k, b) ∈ H → look H k = some b := by
 intro H
 induction H with
 | nil => intro k b _ h; cases h
 | cons p r ih =>
  intro k b ho h
  obtain ⟨x, c⟩ := p
  simp only [once, Bool.and_eq_true] at ho
  rw [look_cons]
  rcases List.mem_cons.1 h with e | e
  ·injection e with e1 e2
   subst e1; subst e2
   rw [if_pos rfl]
  ·have := ih ho.2 e
   split
   ·rename_i e'
    subst e'
    rw [this] at ho
    cases ho.1
   ·exact this
def rmL (L : List Nat) (H : AHeap) : AHeap :=
 match L with
 | [] => H
 | l :: r => rmL r (rmH H l)
theorem look_rmL : ∀ {L : List Nat} {H : AHeap} {k : Nat} {b : ABlk}, look (rmL L H) k = some b → k ∉ L ∧ look H k = some b := by
 intro L
 induction L with
 | nil => intro H k b h; exact ⟨by simp, h⟩
 | cons l r ih =>
  intro H k b h
  obtain ⟨h1, h2⟩ := ih h
  obtain ⟨h3, h4⟩ := look_rmH h2
  exact ⟨by simp [h1, h3], h4⟩
def lendT (i : Nat) (L : List Nat) : List (Nat × Src) :=
 match L with
 | [] => []
 | l :: r => (i, .lab l) :: lendT (i + 1) r
theorem tr_lendT : ∀ {L : List Nat} {i k l : Nat}, L[k]? = some l → tr (lendT i L) (i + k) = some (.lab l) := by
 intro L
 induction L with
 | nil => intro i k l h; simp at h
 | cons x r ih =>
  intro i k l h
  cases k with
  | zero =>
   simp only [List.getElem?_cons_zero, Option.some.injEq] at h
   subst h
   simp [lendT, tr]
  | succ k =>
   simp only [List.getElem?_cons_succ] at h
   have := ih (i := i + 1) h
   simp only [lendT, tr]
   have e : Nat.beq i (i + (k + 1)) = false := by
    cases hb : Nat.beq i (i + (k + 1)) with
    | false => rfl
    | true => have := Nat.eq_of_beq_eq_true hb; omega
   rw [e, cond_false, show i + (k + 1) = i + 1 + k by omega]
   exact this
def bkL (L : List Nat) (n k : Nat) : Nat :=
 match L, k with
 | [], k => n + k
 | l :: _, 0 => l
 | _ :: r, k + 1 => bkL r n k
theorem bkL_lt : ∀ {L : List Nat} {n k l : Nat}, L[k]? = some l → bkL L n k = l := by
 intro L
 induction L with
 | nil => intro n k l h; simp at h
 | cons x r ih =>
  intro n k l h
  cases k with
  | zero => simp only [List.getElem?_cons_zero, Option.some.injEq] at h; exact h
  | succ k => exact ih (by simpa using h)
theorem bkL_ge : ∀ {L : List Nat} {n k : Nat}, L.length ≤ k → bkL L n k = n + (k - L.length) := by
 intro L
 induction L with
 | nil => intro n k _; simp [bkL]
 | cons x r ih =>
  intro n k h
  cases k with
  | zero => simp at h
  | succ k =>
   simp only [List.length_cons] at h ⊢
   show bkL r n k = _
   rw [ih (by omega)]
   congr 1
   omega
def hasAll (H : AHeap) : Nat → Bool
 | 0 => true
 | k + 1 => (match look H k with | some _ => true | none => false) && hasAll H k
theorem hasAll_look {H : AHeap} : ∀ {n k : Nat}, hasAll H n = true → k < n → ∃ b, look H k = some b := by
 intro n
 induction n with
 | zero => intro k _ h; omega
 | succ n ih =>
  intro k h hk
  simp only [hasAll, Bool.and_eq_true] at h
  by_cases e : k = n
  ·subst e
   cases hl : look H k with
   | none => rw [hl] at h; cases h.1
   | some b => exact ⟨b, rfl⟩
  ·exact ih h.2 (by omega)
structure Once (H : AHeap) : Prop where
 ok : once H = true
section
variable {P : Program} {G : Glob} {n : Nat} {H : AHeap}
theorem acallM0 {f : FuncId} {args args' : List AV} {H0 : AHeap} {R : AV → Nat → AHeap → Prop} {K : AV → Nat → AHeap → Prop} (L : List Nat) (Z : List Nat) (hc : callable P f = true) (h : AFn P G f args' L.length H0 R)
  (hwf : (wfB 0 L.length (lendT 0 L) Z H0 && hasAll H0 L.length) = true) (hH : coH H (lendT 0 L) Z 0 H0) (ha : coL H (lendT 0 L) Z 0 args' args)
  (k : ∀ a m H', R a m H' → once H' = true ∧ K (rnA (bkL L n) a) (n + (m - L.length)) (rnH (bkL L n) H' ++ frz Z (rmL L H))) : ACall P G f args n H K := by
 simp only [Bool.and_eq_true] at hwf
 obtain ⟨hwf, hall⟩ := hwf
 have hwf' := hwf
 simp only [wfB, Bool.and_eq_true] at hwf'
 obtain ⟨⟨_, hT⟩, hwH⟩ := hwf'
 refine ⟨hc, fun w σ F vs st hr => ?_⟩
 have s1 := rebase (H' := H0) (θ := lendT 0 L) (Z := Z) (nb := 0) (n' := L.length) st hwf hH
 have r1 := coL_rep (n' := L.length) (szs := szOf H0) st hT (Nat.zero_le _) args' args vs ha hr
 have lent : ∀ j, (hj : j < L.length) → tr (lendT 0 L) j = some (.lab L[j]) := fun j hj => by
  have := tr_lendT (i := 0) (List.getElem?_eq_getElem hj)
  rwa [Nat.zero_add] at this
 have σ1 : ∀ j, (hj : j < L.length) → σR (lendT 0 L) σ (szOf H0) j = σ L[j] := fun j hj => by unfold σR; rw [lent j hj]
 have inH : ∀ j, (hj : j < L.length) → ∃ b b', look H L[j] = some b ∧ look H0 j = some b' ∧ coB H (lendT 0 L) Z 0 b' b := fun j hj => by
  obtain ⟨b', hb'⟩ := hasAll_look hall hj
  rcases coH_look hH hb' with ⟨e, b, hs, hk, hb⟩ | ⟨ht, _⟩
  ·unfold srcOf at hs
   rw [lent j hj] at hs
   injection hs with hs
   subst hs
   exact ⟨b, b', hk, hb', hb⟩
  ·rw [lent j hj] at ht; cases ht
 have key0 : ∀ {j b'}, look H0 j = some b' → j < L.length := fun h => (wfH_look hwH h).1
 refine (h w _ _ vs s1.start r1).mono fun v w' ⟨a, m, σ', F', H', hR, s, x, ra⟩ => ?_
 obtain ⟨hon, hK⟩ := k a m H' hR
 have hmu : ∀ b, Mut (σR (lendT 0 L) σ (szOf H0)) H0 b → ∃ j, ∃ hj : j < L.length, ∃ c, look H L[j] = some c ∧ c.own = true ∧ (σ L[j]).b = some b := fun b ⟨j, c, e, ho, hg⟩ => by
  have hj := key0 e
  obtain ⟨b0, b', h1, h2, h3⟩ := inH j hj
  rw [h2] at e
  injection e with e
  subst e
  exact ⟨j, hj, b0, h1, by rw [← coB_own h3]; exact ho, by rw [σ1 j hj] at hg; exact hg⟩
 have hm : L.length ≤ m := x.le
 let σn : Nat → Loc := fun l => if l < n then σ l else σ' (l - n + L.length)
 have inN : ∀ j, (hj : j < L.length) → L[j] < n := fun j hj => by obtain ⟨b, _, h1, _⟩ := inH j hj; exact st.lab _ b h1
 have ho : ∀ k, k < n → σn k = σ k := fun k hk => if_pos hk
 have hs : ∀ k, k < m → bkL L n k < n + (m - L.length) ∧ σn (bkL L n k) = σ' k := fun k hk => by
  by_cases hkl : k < L.length
  ·rw [bkL_lt (List.getElem?_eq_getElem hkl)]
   have := inN k hkl
   refine ⟨by omega, ?_⟩
   rw [ho _ this, x.s k hkl, σ1 k hkl]
  ·rw [bkL_ge (by omega)]
   refine ⟨by omega, ?_⟩
   show (if n + (k - L.length) < n then _ else _) = _
   rw [if_neg (by omega)]
   congr 1
   omega
 have hF : ∀ b, F b → F' b ∧ w'.heap[b]? = w.heap[b]? := fun b hb => x.f b (.inl hb)
 have hE : Ext n σ F w (n + (m - L.length)) σn F' w' := ⟨by omega, ho, hF, x.sz⟩
 have notL : ∀ k b g, k ∉ L → look H k = some b → b.own = true → (σ k).b = some g → ¬ Mut (σR (lendT 0 L) σ (szOf H0)) H0 g := fun k b g hkL hk hm hg hmut => by
  obtain ⟨j, hj, c, h1, h2, h3⟩ := hmu g hmut
  have := st.inj k L[j] b c g hk h1 hm h2 hg h3
  exact hkL (by rw [this]; exact List.getElem_mem hj)
 have old : ∀ k b g, look (frz Z (rmL L H)) k = some b → b.own = true → (σ k).b = some g → k ∉ L ∧ look H k = some b ∧ ¬ F' g ∧ G.nb ≤ g ∧ g < w.heap.size ∧ Mut σ H g := by
  intro k b g hk hm hg
  rcases look_frz hk with ⟨h1, h2⟩ | ⟨_, t, sz, l, _, rfl⟩
  ·obtain ⟨hkL, h1⟩ := look_rmL h1
   obtain ⟨m1, m2, m3, m4⟩ := st.mu k b g h1 hm hg
   refine ⟨hkL, h1, fun hf => ?_, m2, m3, ⟨k, b, h1, hm, hg⟩⟩
   rcases (s.fsub g hf).2 with e | e | e
   ·rcases e with e | ⟨k', t, sz, l, hz, hk', hg'⟩
    ·exact m1 e
    ·have := st.inj k k' b _ g h1 hk' hm rfl hg hg'
     subst this
     rw [h1] at hk'
     injection hk' with hk'
     exact h2 hz t sz l hk'
   ·omega
   ·exact notL k b g hkL h1 hm hg e
  ·cases hm
 have new : ∀ k b g, look (rnH (bkL L n) H') k = some b → b.own = true → (σn k).b = some g → ∃ j c, k = bkL L n j ∧ look H' j = some c ∧ c.own = true ∧ (σ' j).b = some g ∧ ¬ F' g ∧ G.nb ≤ g ∧ g < w'.heap.size ∧ (Mut (σR (lendT 0 L) σ (szOf H0)) H0 g ∨ w.heap.size ≤ g) := by
  intro k b g hk hm hg
  obtain ⟨j, c, rfl, _, hj, rfl⟩ := look_rnH hk
  have hj := once_look hon hj
  rw [rnB_own] at hm
  rw [(hs j (s.lab j c hj)).2] at hg
  obtain ⟨m1, m2, m3, m4⟩ := s.mu j c g hj hm hg
  exact ⟨j, c, rfl, hj, hm, hg, m1, m2, m3, m4⟩
 have labO : ∀ k b, look (frz Z (rmL L H)) k = some b → k < n := fun k b hk => by
  rcases look_frz hk with ⟨h1, _⟩ | ⟨_, t, sz, l, h1, _⟩
  ·exact st.lab k _ (look_rmL h1).2
  ·exact st.lab k _ (look_rmL h1).2
 have cross : ∀ k k' b b' g, look (rnH (bkL L n) H') k = some b → look (frz Z (rmL L H)) k' = some b' → b.own = true → b'.own = true → (σn k).b = some g → (σ k').b = some g → False := by
  intro k k' b b' g hk hk' hm hm' hg hg'
  obtain ⟨j, c, e1, h1, h2, h3, _, _, _, h4⟩ := new k b g hk hm hg
  obtain ⟨o1, o2, _, _, o5, _⟩ := old k' b' g hk' hm' hg'
  rcases h4 with h4 | h4
  ·exact notL k' b' g o1 o2 hm' hg' h4
  ·omega
 have hst : St G w (Mut σ H) F (n + (m - L.length)) σn F' (rnH (bkL L n) H' ++ frz Z (rmL L H)) w' := by
  refine ⟨s.glob, ⟨s.chg.os, s.chg.tape, s.chg.output, x.sz, fun b hb hn => s.chg.block b hb fun hmut => hn ?_⟩, fun b hb => ⟨(s.fsub b hb).1, ?_⟩, fun k b hk => ?_, fun k b g hk hm hg => ?_, fun k k' b b' g hk hk' hm hm' hg hg' => ?_, fun k b hk => ?_⟩
  ·obtain ⟨j, hj, c, h1, h2, h3⟩ := hmu b hmut
   exact ⟨L[j], c, h1, h2, h3⟩
  ·rcases (s.fsub b hb).2 with e | e | e
   ·rcases e with e | ⟨k', t, sz, l, hz, hk', hg'⟩
    ·exact .inl e
    ·exact .inr (.inr ⟨k', _, hk', rfl, hg'⟩)
   ·exact .inr (.inl e)
   ·obtain ⟨j, hj, c, h1, h2, h3⟩ := hmu b e
    exact .inr (.inr ⟨L[j], c, h1, h2, h3⟩)
  ·rcases look_append hk with hk | ⟨_, hk⟩
   ·obtain ⟨j, c, rfl, _, hj, _⟩ := look_rnH hk
    exact (hs j (s.lab j c (once_look hon hj))).1
   ·have := labO k b hk; omega
  ·rcases look_append hk with hk | ⟨_, hk⟩
   ·obtain ⟨j, c, _, _, _, _, m1, m2, m3, m4⟩ := new k b g hk hm hg
    refine ⟨m1, m2, m3, m4.elim (fun h => ?_) .inr⟩
    obtain ⟨j, hj, c, h1, h2, h3⟩ := hmu g h
    exact .inl ⟨L[j], c, h1, h2, h3⟩
   ·rw [ho k (labO k b hk)] at hg
    obtain ⟨_, _, m1, m2, m3, m4⟩ := old k b g hk hm hg
    exact ⟨m1, m2, Nat.lt_of_lt_of_le m3 x.sz, .inl m4⟩
  ·rcases look_append hk with hk | ⟨_, hk⟩
   ·rcases look_append hk' with hk' | ⟨_, hk'⟩
    ·obtain ⟨j, c, e1, h1, h2, h3, _⟩ := new k b g hk hm hg
     obtain ⟨j', c', e1', h1', h2', h3', _⟩ := new k' b' g hk' hm' hg'
     have := s.inj j j' c c' g h1 h1' h2 h2' h3 h3'
     rw [e1, e1', this]
    ·rw [ho k' (labO k' b' hk')] at hg'
     exact (cross k k' b b' g hk hk' hm hm' hg hg').elim
   ·rcases look_append hk' with hk' | ⟨_, hk'⟩
    ·rw [ho k (labO k b hk)] at hg
     exact (cross k' k b' b g hk' hk hm' hm hg' hg).elim
    ·rw [ho k (labO k b hk)] at hg
     rw [ho k' (labO k' b' hk')] at hg'
     have h5 := old k b g hk hm hg
     have h6 := old k' b' g hk' hm' hg'
     exact st.inj k k' b b' g h5.2.1 h6.2.1 hm hm' hg hg'
  ·rcases look_append hk with hk | ⟨_, hk⟩
   ·obtain ⟨j, c, rfl, _, hj, rfl⟩ := look_rnH hk
    have hj := once_look hon hj
    rw [(hs j (s.lab j c hj)).2]
    exact rnB_rep hs (s.blk j c hj)
   ·rw [ho k (labO k b hk)]
    rcases look_frz hk with ⟨h1, _⟩ | ⟨hz, t, sz, l, h1, rfl⟩
    ·obtain ⟨hkL, h1⟩ := look_rmL h1
     exact (st.blk k b h1).mono hE fun hm g hg => s.chg.block g (st.mu k b g h1 hm hg).2.2.1 (notL k b g hkL h1 hm hg)
    ·obtain ⟨hkL, h1⟩ := look_rmL h1
     have hb := (st.blk k _ h1).mono hE fun hm g hg => s.chg.block g (st.mu k _ g h1 rfl hg).2.2.1 (notL k _ g hkL h1 rfl hg)
     exact fz_of_rows hb (fun _ h => h) fun g hg => (x.f g (.inr ⟨k, t, sz, l, hz, h1, hg⟩)).1
 exact ⟨rnA (bkL L n) a, n + (m - L.length), σn, F', _, hK, hst, hE, rn_rep hs ra⟩
theorem acallM {f : FuncId} {args args' : List AV} {H0 : AHeap} {R : AV → Nat → AHeap → Prop} {K : AV → Nat → AHeap → Prop} (L : List Nat) (Z : List Nat) (hc : callable P f = true) (h : AFn P G f args' L.length H0 R)
  (hwf : (wfB 0 L.length (lendT 0 L) Z H0 && hasAll H0 L.length) = true) (hH : coH H (lendT 0 L) Z 0 H0) (ha : coL H (lendT 0 L) Z 0 args' args)
  (k : ∀ a m H', R a m H' → once H' = true ∧ frc (n + (m - L.length)) (rnH (bkL L n) H' ++ frz Z (rmL L H)) fun n' H'' => K (rnA (bkL L n) a) n' H'') : ACall P G f args n H K :=
 acallM0 L Z hc h hwf hH ha fun a m H' hR => by have := k a m H' hR; rwa [frc_eq] at this
end
end Go.Proofs.YtmhpfadbmpipkaaGreatDoor.Ax
namespace Go.Proofs.YtmhpfadbmpipkaaGreatDoor.Cl
open Go Go.RowKit Go.Proofs Go.Proofs.YtmhpfadbmpipkaaGreatDoor.Vc Go.Proofs.YtmhpfadbmpipkaaGreatDoor.Ax
attribute [local irreducible] loadVar storeVar Instr.indexAt Instr.index Instr.sliceAt Instr.makeSlice Instr.lookup Instr.mapUpdate Instr.range Instr.next Instr.entry Instr.makeMap Builtin.append_ Builtin.copy_ Builtin.len_ Builtin.min_ Builtin.max_ Builtin.cap_ Builtin.delete_ Builtin.clear_ convert binOp eqGuard Op.unary Calls
theorem mixed : Tryz.prog.follows .mixedOrders = true := by kernel_rfl
def GC : Glob := ⟨0, fun _ => none⟩
abbrev iv (n : Int) : AV := .v (.int .i64 n)
abbrev bv (b : Bool) : AV := .v (.bool b)
abbrev uv (n : Nat) : AV := .v (.int .u64 (n : Int))
def enI (x : Int) : List FV := [.v (.int .i64 x)]
abbrev bs (b : By) : AV := .lst 1 (b.map enB)
abbrev li (l : Li) : AV := .lst 1 (l.map enI)
theorem AAr.to {k : IntKind} {x y : Int} {K : Int → Prop} (h : k.wrap x = y) (c : K y) : AAr k x K := ⟨by rw [h]; exact c⟩
theorem ownA (b more : By) (hb : b.length + more.length ≤ 4000000) : AFn Tryz.prog GC 45 [bs b, bs more] 0 [] (Own1 5 1 ((b ++ more).map enB)) := by
 refine afn_of Tryz.func45 rfl mixed (by kernel_rfl) ?_
 conv => whnf
 (repeat' ((first | refine And.intro ?_ ?_ | (apply vif_split <;> intro h <;> try simp only [bl] at h) | refine AAr.i64 (by first | omega | ((try simp only [List.length_map] at *); omega)) ?_ | refine AIn.mk' _ rfl (by first | omega | (simp only [ln]; omega) | (simp only [ln] at *; omega)) ?_ | refine ARd.mapAt (by assumption) ?_ | refine ARd.set (by (try simp only [ln] at *); omega) ?_ | refine ARd.map (by first | omega | (simp only [List.length_map] at *; omega)) ?_ | refine VReq.mk (by first | decide | omega) ?_ | refine AEq.mk (by kernel_rfl) rfl rfl ?_ | refine VReq.mk (app_ok (by (try simp only [ln] at *); omega) (by kernel_rfl)) ?_) <;> conv => whnf))
 refine AMk.cap (by_ := 1) 0 (b.length + more.length) rfl (by rw [List.length_map, List.length_map]; omega) (Nat.zero_le _) (by unfold maxLen; omega) ?_
 conv => whnf
 (repeat' ((first | refine And.intro ?_ ?_ | (apply vif_split <;> intro h <;> try simp only [bl] at h) | refine AAr.i64 (by first | omega | ((try simp only [List.length_map] at *); omega)) ?_ | refine AIn.mk' _ rfl (by first | omega | (simp only [ln]; omega) | (simp only [ln] at *; omega)) ?_ | refine ARd.mapAt (by assumption) ?_ | refine ARd.set (by (try simp only [ln] at *); omega) ?_ | refine ARd.map (by first | omega | (simp only [List.length_map] at *; omega)) ?_ | refine VReq.mk (by first | decide | omega) ?_ | refine AEq.mk (by kernel_rfl) rfl rfl ?_ | refine VReq.mk (app_ok (by (try simp only [ln] at *); omega) (by kernel_rfl)) ?_) <;> conv => whnf))
 rw [List.map_append]
 exact aend (.own 0) 1 _ [(0, .lab 2)] [] ⟨rfl, rfl, rfl⟩ rfl (by repeat' (first | rfl | trivial | apply And.intro)) (by repeat' (first | rfl | trivial | apply And.intro))
theorem p2_1 : (2 : Int) ^ min (Int.toNat 1) IntKind.u64.bits = 2 := by decide
theorem p2_7 : (2 : Int) ^ min (Int.toNat 7) IntKind.u64.bits = 128 := by decide
theorem p2_63 : (2 : Int) ^ min (Int.toNat 63) IntKind.u64.bits = 9223372036854775808 := by decide
def GI (f u : Nat) (out : By) : Prop := u < 2 * 128 ^ f ∧ f ≤ 9 ∧ out.length + f = 9
theorem GI.next {f u : Nat} {out : By} (h : GI f u out) (hu : 128 ≤ u) : ∃ g, f = g + 1 ∧ GI g (u / 128) (out ++ [UInt8.ofNat (128 + u % 128)]) ∧ out ++ grp f u = (out ++ [UInt8.ofNat (128 + u % 128)]) ++ grp g (u / 128) := by
 obtain ⟨h1, h2, h3⟩ := h
 cases f with
 | zero => simp at h1; omega
 | succ g =>
  refine ⟨g, rfl, ⟨?_, by omega, by simp; omega⟩, ?_⟩
  ·rw [pow128] at h1; omega
  ·rw [show grp (g + 1) u = UInt8.ofNat (128 + u % 128) :: grp g (u / 128) by unfold grp; rw [if_neg (by omega)]; cases g <;> rfl]; simp
theorem grp_last {f u : Nat} (h : u < 128) : grp f u = [UInt8.ofNat u] := by cases f with
 | zero => rfl
 | succ f => unfold grp; rw [if_pos h]
theorem GI.start {n : Int} (hn : I64 n) : GI 9 (zu n) [] ∧ [] ++ grp 9 (zu n) = num n := by
 have hz := zu_lt hn
 have e : (128 : Nat) ^ 9 = 9223372036854775808 := by decide
 exact ⟨⟨by rw [e]; omega, Nat.le_refl _, rfl⟩, rfl⟩
structure GX where
 f : Nat
 u : Nat
 out : By
theorem enB_snoc (out : By) (c : UInt8) : (out ++ [c]).map enB = out.map enB ++ [[FV.v (.int .u8 (c.toNat : Int))]] := by rw [List.map_append]; rfl
theorem groupsA (n : Int) (hn : I64 n) : AFn Tryz.prog GC 46 [iv n] 0 [] (Own1 5 1 ((num n).map enB)) := by
 have hz := zu_lt hn
 have hbits : bitsOp .xor .u64 (IntKind.u64.wrap (IntKind.u64.wrap n * 2 ^ min (Int.toNat 1) IntKind.u64.bits)) (IntKind.u64.wrap (n.fdiv (2 ^ min (Int.toNat 63) IntKind.u64.bits))) = (zu n : Int) := by
  rw [p2_1, p2_63]; exact zu_bits n hn
 refine afn_of Tryz.func46 rfl mixed (by kernel_rfl) ?_
 conv => whnf
 refine AAr.to rfl ?_
 conv => whnf
 (repeat' ((first | refine And.intro ?_ ?_ | (apply vif_split <;> intro h <;> try simp only [bl] at h) | refine AAr.i64 (by first | omega | ((try simp only [List.length_map] at *); omega)) ?_ | refine AIn.mk' _ rfl (by first | omega | (simp only [ln]; omega) | (simp only [ln] at *; omega)) ?_ | refine ARd.mapAt (by assumption) ?_ | refine ARd.set (by (try simp only [ln] at *); omega) ?_ | refine ARd.map (by first | omega | (simp only [List.length_map] at *; omega)) ?_ | refine VReq.mk (by first | decide | omega) ?_ | refine AEq.mk (by kernel_rfl) rfl rfl ?_ | refine VReq.mk (app_ok (by (try simp only [ln] at *); omega) (by kernel_rfl)) ?_) <;> conv => whnf))
 refine AAr.to rfl ?_
 conv => whnf
 (repeat' ((first | refine And.intro ?_ ?_ | (apply vif_split <;> intro h <;> try simp only [bl] at h) | refine AAr.i64 (by first | omega | ((try simp only [List.length_map] at *); omega)) ?_ | refine AIn.mk' _ rfl (by first | omega | (simp only [ln]; omega) | (simp only [ln] at *; omega)) ?_ | refine ARd.mapAt (by assumption) ?_ | refine ARd.set (by (try simp only [ln] at *); omega) ?_ | refine ARd.map (by first | omega | (simp only [List.length_map] at *; omega)) ?_ | refine VReq.mk (by first | decide | omega) ?_ | refine AEq.mk (by kernel_rfl) rfl rfl ?_ | refine VReq.mk (app_ok (by (try simp only [ln] at *); omega) (by kernel_rfl)) ?_) <;> conv => whnf))
 refine AAr.to rfl ?_
 conv => whnf
 refine aloop ws46_1 1 [3, 4] (fun x : GX => [(3, uv x.u), (4, .own 0)]) (fun x => [(0, .rows 5 1 (x.out.map enB))]) (fun x => GI x.f x.u x.out ∧ x.out ++ grp x.f x.u = num n) (fun x => x.f) [(0, .nil)] [] ⟨9, zu n, []⟩ (by kernel_rfl) (fun _ => rfl) rfl (GI.start hn) ⟨rfl, trivial⟩ ⟨congrArg (Value.int .u64) hbits, trivial, trivial⟩ ?_
 rintro ⟨f, u, out⟩ ⟨hg, hout⟩
 have hlen := hg.2.2
 conv => whnf
 apply vif_split <;> intro h
 ·have hu : 128 ≤ u := by simp at h; omega
  obtain ⟨g, rfl, hg2, ho2⟩ := hg.next hu
  conv => whnf
  refine AAr.to rfl ?_
  conv => whnf
  (repeat' ((first | refine And.intro ?_ ?_ | (apply vif_split <;> intro h <;> try simp only [bl] at h) | refine AAr.i64 (by first | omega | ((try simp only [List.length_map] at *); omega)) ?_ | refine AIn.mk' _ rfl (by first | omega | (simp only [ln]; omega) | (simp only [ln] at *; omega)) ?_ | refine ARd.mapAt (by assumption) ?_ | refine ARd.set (by (try simp only [ln] at *); omega) ?_ | refine ARd.map (by first | omega | (simp only [List.length_map] at *; omega)) ?_ | refine VReq.mk (by first | decide | omega) ?_ | refine AEq.mk (by kernel_rfl) rfl rfl ?_ | refine VReq.mk (app_ok (by (try simp only [ln] at *); omega) (by kernel_rfl)) ?_) <;> conv => whnf))
  refine aback ⟨g, u / 128, out ++ [UInt8.ofNat (128 + u % 128)]⟩ [(0, .lab 2)] [] rfl (Nat.lt_succ_self g) ⟨hg2, by rw [← ho2]; exact hout⟩ ?_ ?_
  ·refine ⟨⟨rfl, rfl, ?_⟩, trivial⟩
   rw [enB_snoc, ← grp_byte]
  ·refine ⟨congrArg (Value.int .u64) (by rw [p2_7]; exact shr7 u), ?_⟩
   repeat' (first | rfl | trivial | apply And.intro)
 ·have hu : u < 128 := by simp at h; omega
  conv => whnf
  refine AAr.to (last_byte hu) ?_
  conv => whnf
  (repeat' ((first | refine And.intro ?_ ?_ | (apply vif_split <;> intro h <;> try simp only [bl] at h) | refine AAr.i64 (by first | omega | ((try simp only [List.length_map] at *); omega)) ?_ | refine AIn.mk' _ rfl (by first | omega | (simp only [ln]; omega) | (simp only [ln] at *; omega)) ?_ | refine ARd.mapAt (by assumption) ?_ | refine ARd.set (by (try simp only [ln] at *); omega) ?_ | refine ARd.map (by first | omega | (simp only [List.length_map] at *; omega)) ?_ | refine VReq.mk (by first | decide | omega) ?_ | refine AEq.mk (by kernel_rfl) rfl rfl ?_ | refine VReq.mk (app_ok (by (try simp only [ln] at *); omega) (by kernel_rfl)) ?_) <;> conv => whnf))
  refine aend (.own 0) 1 _ [(0, .lab 2)] [] ⟨rfl, rfl, rfl⟩ rfl ⟨⟨rfl, rfl, ?_⟩, trivial⟩ (by repeat' (first | rfl | trivial | apply And.intro))
  rw [← hout, grp_last hu, enB_snoc]
theorem putA (b : By) (n : Int) (hn : I64 n) (hb : b.length ≤ 3999990) : AFn Tryz.prog GC 20 [bs b, iv n] 0 [] (Own1 5 1 ((b ++ num n).map enB)) := by
 have hl := (num_len n).2
 refine afn_of Tryz.func20 rfl mixed (by kernel_rfl) ?_
 conv => whnf
 (refine acallF [] (by kernel_rfl) (groupsA n hn) ?_ ?_; (focus (repeat' (first | rfl | trivial | apply And.intro))))
 rintro _ _ _ ⟨rfl, rfl, rfl⟩
 conv => whnf
 (refine acallF [0] (by kernel_rfl) (ownA b (num n) (by omega)) ?_ ?_; (focus (repeat' (first | rfl | trivial | apply And.intro))))
 rintro _ _ _ ⟨rfl, rfl, rfl⟩
 conv => whnf
 exact aend (.own 0) 1 _ [(0, .lab 1)] [] ⟨rfl, rfl, rfl⟩ rfl (by repeat' (first | rfl | trivial | apply And.intro)) (by repeat' (first | rfl | trivial | apply And.intro))
theorem and_byte {u : Nat} (hu : u < 18446744073709551616) : IntKind.u8.wrap (bitsOp .and .u64 (u : Int) 127) = ((u % 128 : Nat) : Int) := by
 have e : (127 : Int) = ((127 : Nat) : Int) := rfl
 rw [e, bo_and64 u 127 hu (by decide), and127, wr_u8 (by omega)]
theorem or_byte {u : Nat} : bitsOp .or .u8 ((u % 128 : Nat) : Int) 128 = ((UInt8.ofNat (128 + u % 128)).toNat : Int) := by
 have e2 : (128 : Int) = ((128 : Nat) : Int) := rfl
 rw [e2, bo_or8 _ _ (by omega) (by omega), or128 (by omega), toNat_ofNat (by omega)]
 congr 1
 omega
theorem GI.u64 {f u : Nat} {out : By} (h : GI f u out) : u < 18446744073709551616 := by
 have e : (128 : Nat) ^ 9 = 9223372036854775808 := by decide
 have := Nat.pow_le_pow_right (show 0 < 128 by decide) h.2.1
 have := h.1
 omega
theorem zu_doc (n : Int) (hn : I64 n) : (n < 0 → bitsOp .xor .u64 (bif IntKind.u64.signed then -1 else IntKind.u64.max) (IntKind.u64.wrap (IntKind.u64.wrap n * 2 ^ min (Int.toNat 1) IntKind.u64.bits)) = (zu n : Int)) ∧ (¬ n < 0 → IntKind.u64.wrap (IntKind.u64.wrap n * 2 ^ min (Int.toNat 1) IntKind.u64.bits) = (zu n : Int)) := by
 have e : IntKind.u64.bits = 64 := rfl
 have s : IntKind.u64.signed = false := rfl
 have hm : IntKind.u64.max = ((18446744073709551615 : Nat) : Int) := by decide
 rw [p2_1]
 unfold I64 at hn
 unfold zu
 constructor
 ·intro h
  have e1 : IntKind.u64.wrap (IntKind.u64.wrap n * 2) = ((18446744073709551616 - (-2 * n).toNat : Nat) : Int) := by
   simp only [IntKind.wrap, e, s, Bool.false_and, Bool.false_eq_true, if_false]; omega
  rw [if_pos h, e1, s, cond_false, hm, bo_xor64 _ _ (by omega) (by omega), Nat.xor_comm, xor_ones (by omega)]
  omega
 ·intro h
  rw [if_neg h]
  simp only [IntKind.wrap, e, s, Bool.false_and, Bool.false_eq_true, if_false]; omega
theorem put2A (b : By) (n : Int) (hn : I64 n) (hb : b.length ≤ 3999990) : AFn Tryz.prog GC 24 [bs b, iv n] 0 [] (Own1 5 1 ((b ++ num n).map enB)) := by
 have hd := zu_doc n hn
 refine afn_of Tryz.func24 rfl mixed (by kernel_rfl) ?_
 conv => whnf
 (repeat' ((first | refine And.intro ?_ ?_ | (apply vif_split <;> intro h <;> try simp only [bl] at h) | refine AAr.i64 (by first | omega | ((try simp only [List.length_map] at *); omega)) ?_ | refine AIn.mk' _ rfl (by first | omega | (simp only [ln]; omega) | (simp only [ln] at *; omega)) ?_ | refine ARd.mapAt (by assumption) ?_ | refine ARd.set (by (try simp only [ln] at *); omega) ?_ | refine ARd.map (by first | omega | (simp only [List.length_map] at *; omega)) ?_ | refine VReq.mk (by first | decide | omega) ?_ | refine AEq.mk (by kernel_rfl) rfl rfl ?_ | refine VReq.mk (app_ok (by (try simp only [ln] at *); omega) (by kernel_rfl)) ?_) <;> conv => whnf))
 refine AAr.to rfl ?_
 conv => whnf
 refine VReq.mk (by decide) ?_
 conv => whnf
 refine AAr.to rfl ?_
 conv => whnf
 apply vif_split <;> intro h
 all_goals
  have hu0 := (by simp at h; first | exact hd.1 (by omega) | exact hd.2 (by omega))
  conv => whnf
  refine aloop ws24_1 2 [0, 5] (fun x : GX => [(0, .own 1), (5, uv x.u)]) (fun x => [(1, .rows 5 1 ((b ++ x.out).map enB))]) (fun x => GI x.f x.u x.out ∧ x.out ++ grp x.f x.u = num n) (fun x => x.f) [(1, .lab 0)] [] ⟨9, zu n, []⟩ (by kernel_rfl) (fun _ => rfl) rfl (GI.start hn) ⟨⟨rfl, rfl, by rw [List.append_nil]⟩, trivial⟩ ⟨rfl, congrArg (Value.int .u64) hu0, trivial⟩ ?_
  rintro ⟨f, u, out⟩ ⟨hg, hout⟩
  have hlen := hg.2.2
  have h64 := hg.u64
  conv => whnf
  apply vif_split <;> intro h
  ·have hu : 128 ≤ u := by simp at h; omega
   obtain ⟨g, rfl, hg2, ho2⟩ := hg.next hu
   conv => whnf
   refine AAr.to (and_byte h64) ?_
   conv => whnf
   (repeat' ((first | refine And.intro ?_ ?_ | (apply vif_split <;> intro h <;> try simp only [bl] at h) | refine AAr.i64 (by first | omega | ((try simp only [List.length_map] at *); omega)) ?_ | refine AIn.mk' _ rfl (by first | omega | (simp only [ln]; omega) | (simp only [ln] at *; omega)) ?_ | refine ARd.mapAt (by assumption) ?_ | refine ARd.set (by (try simp only [ln] at *); omega) ?_ | refine ARd.map (by first | omega | (simp only [List.length_map] at *; omega)) ?_ | refine VReq.mk (by first | decide | omega) ?_ | refine AEq.mk (by kernel_rfl) rfl rfl ?_ | refine VReq.mk (app_ok (by (try simp only [ln] at *); omega) (by kernel_rfl)) ?_) <;> conv => whnf))
   refine aback ⟨g, u / 128, out ++ [UInt8.ofNat (128 + u % 128)]⟩ [(1, .lab 3)] [] rfl (Nat.lt_succ_self g) ⟨hg2, by rw [← ho2]; exact hout⟩ ?_ ?_
   ·refine ⟨⟨rfl, rfl, ?_⟩, trivial⟩
    rw [← List.append_assoc, enB_snoc, ← or_byte]
   ·refine ⟨rfl, congrArg (Value.int .u64) (by rw [p2_7]; exact shr7 u), trivial⟩
  ·have hu : u < 128 := by simp at h; omega
   conv => whnf
   refine AAr.to (last_byte hu) ?_
   conv => whnf
   (repeat' ((first | refine And.intro ?_ ?_ | (apply vif_split <;> intro h <;> try simp only [bl] at h) | refine AAr.i64 (by first | omega | ((try simp only [List.length_map] at *); omega)) ?_ | refine AIn.mk' _ rfl (by first | omega | (simp only [ln]; omega) | (simp only [ln] at *; omega)) ?_ | refine ARd.mapAt (by assumption) ?_ | refine ARd.set (by (try simp only [ln] at *); omega) ?_ | refine ARd.map (by first | omega | (simp only [List.length_map] at *; omega)) ?_ | refine VReq.mk (by first | decide | omega) ?_ | refine AEq.mk (by kernel_rfl) rfl rfl ?_ | refine VReq.mk (app_ok (by (try simp only [ln] at *); omega) (by kernel_rfl)) ?_) <;> conv => whnf))
   refine aend (.own 0) 1 _ [(0, .lab 3)] [] ⟨rfl, rfl, rfl⟩ rfl ⟨⟨rfl, rfl, ?_⟩, trivial⟩ (by repeat' (first | rfl | trivial | apply And.intro))
   rw [← hout, grp_last hu, ← List.append_assoc, enB_snoc]
structure LX where
 k : Nat
 p : Int
 out : By
theorem b1_snoc (l : Li) (x : Int) : b1 (l ++ [x]) = b1 l ++ num x := by simp [b1]
theorem b1_take {l : Li} {k : Nat} (h : k < l.length) : b1 (l.take (k + 1)) = b1 (l.take k) ++ num l[k] := by rw [List.take_succ_eq_append_getElem h, b1_snoc]
theorem b1_take_len (l : Li) (k : Nat) : (b1 (l.take k)).length ≤ 10 * l.length := by
 have := b1_len (l.take k); rw [List.length_take] at this; omega
theorem putPlainA (b : By) (l : Li) (hl : AllI l) (hs : b.length + 10 * l.length ≤ 3000000) : AFn Tryz.prog GC 62 [bs b, li l] 0 [] (Is (bs (b ++ b1 l))) := by
 refine afn_of Tryz.func62 rfl mixed (by kernel_rfl) ?_
 conv => whnf
 refine aloop ws62_1 0 [0, 9] (fun k : Nat => [(0, bs (b ++ b1 (l.take k))), (9, iv k)]) (fun _ => []) (fun k => k ≤ l.length) (fun k => l.length - k) [] [] 0 (by kernel_rfl) (fun _ => rfl) rfl (Nat.zero_le _) trivial ⟨⟨rfl, by simp [b1]⟩, rfl, trivial⟩ ?_
 rintro k hk
 have hbl := b1_take_len l k
 conv => whnf
 refine vif_split (fun hlt => ?_) (fun hge => ?_)
 ·have hlt : k < l.length := by simpa using hlt
  conv => whnf
  (repeat' ((first | refine And.intro ?_ ?_ | (apply vif_split <;> intro h <;> try simp only [bl] at h) | refine AAr.i64 (by first | omega | ((try simp only [List.length_map] at *); omega)) ?_ | refine AIn.mk' _ rfl (by first | omega | (simp only [ln]; omega) | (simp only [ln] at *; omega)) ?_ | refine ARd.mapAt (by assumption) ?_ | refine ARd.set (by (try simp only [ln] at *); omega) ?_ | refine ARd.map (by first | omega | (simp only [List.length_map] at *; omega)) ?_ | refine VReq.mk (by first | decide | omega) ?_ | refine AEq.mk (by kernel_rfl) rfl rfl ?_ | refine VReq.mk (app_ok (by (try simp only [ln] at *); omega) (by kernel_rfl)) ?_) <;> conv => whnf))
  (refine acallF [] (by kernel_rfl) (putA (b ++ b1 (l.take k)) l[k] (hl _ (List.getElem_mem hlt)) (by rw [List.length_append]; omega)) ?_ ?_; (focus (repeat' (first | rfl | trivial | apply And.intro))))
  rintro _ _ _ ⟨rfl, rfl, rfl⟩
  conv => whnf
  (repeat' ((first | refine And.intro ?_ ?_ | (apply vif_split <;> intro h <;> try simp only [bl] at h) | refine AAr.i64 (by first | omega | ((try simp only [List.length_map] at *); omega)) ?_ | refine AIn.mk' _ rfl (by first | omega | (simp only [ln]; omega) | (simp only [ln] at *; omega)) ?_ | refine ARd.mapAt (by assumption) ?_ | refine ARd.set (by (try simp only [ln] at *); omega) ?_ | refine ARd.map (by first | omega | (simp only [List.length_map] at *; omega)) ?_ | refine VReq.mk (by first | decide | omega) ?_ | refine AEq.mk (by kernel_rfl) rfl rfl ?_ | refine VReq.mk (app_ok (by (try simp only [ln] at *); omega) (by kernel_rfl)) ?_) <;> conv => whnf))
  refine aback (k + 1) [] [0] rfl (by show l.length - (k + 1) < l.length - k; omega) hlt trivial ⟨⟨rfl, rfl, by rw [b1_take hlt, List.append_assoc]⟩, rfl, trivial⟩
 ·have : k = l.length := by simp at hge; omega
  subst this
  conv => whnf
  rw [List.take_length]
  exact aret [] (by repeat' (first | rfl | trivial | apply And.intro))
theorem drop_cons {l : Li} {k : Nat} (h : k < l.length) : l.drop k = l[k] :: l.drop (k + 1) := List.drop_eq_getElem_cons h
theorem putStepsA (b : By) (l : Li) (hs : b.length + 10 * l.length ≤ 3000000) : AFn Tryz.prog GC 66 [bs b, li l] 0 [] (Is (bs (b ++ b3 l))) := by
 refine afn_of Tryz.func66 rfl mixed (by kernel_rfl) ?_
 conv => whnf
 refine aloop ws66_1 0 [0, 5, 10] (fun x : LX => [(0, bs x.out), (5, iv x.p), (10, iv x.k)]) (fun _ => []) (fun x => x.k ≤ l.length ∧ x.out ++ st x.p (l.drop x.k) = b ++ b3 l) (fun x => l.length - x.k) [] [] ⟨0, 0, b⟩ (by kernel_rfl) (fun _ => rfl) rfl ⟨Nat.zero_le _, rfl⟩ trivial ⟨⟨rfl, rfl⟩, rfl, rfl, trivial⟩ ?_
 rintro ⟨k, p, out⟩ ⟨hk, ho⟩
 change k ≤ l.length at hk
 change out ++ st p (l.drop k) = b ++ b3 l at ho
 have hbl := st_len l 0
 have hol : out.length ≤ b.length + 10 * l.length := by have := congrArg List.length ho; simp only [List.length_append, b3] at this; omega
 conv => whnf
 refine vif_split (fun hlt => ?_) (fun hge => ?_)
 ·have hlt : k < l.length := by simp at hlt; omega
  simp only [drop_cons hlt, st] at ho
  conv => whnf
  (repeat' ((first | refine And.intro ?_ ?_ | (apply vif_split <;> intro h <;> try simp only [bl] at h) | refine AAr.i64 (by first | omega | ((try simp only [List.length_map] at *); omega)) ?_ | refine AIn.mk' _ rfl (by first | omega | (simp only [ln]; omega) | (simp only [ln] at *; omega)) ?_ | refine ARd.mapAt (by assumption) ?_ | refine ARd.set (by (try simp only [ln] at *); omega) ?_ | refine ARd.map (by first | omega | (simp only [List.length_map] at *; omega)) ?_ | refine VReq.mk (by first | decide | omega) ?_ | refine AEq.mk (by kernel_rfl) rfl rfl ?_ | refine VReq.mk (app_ok (by (try simp only [ln] at *); omega) (by kernel_rfl)) ?_) <;> conv => whnf))
  refine AAr.to rfl ?_
  conv => whnf
  (refine acallF [] (by kernel_rfl) (putA out (w64 (l[k] - p)) (w64_i _) (by omega)) ?_ ?_; (focus (repeat' (first | rfl | trivial | apply And.intro))))
  rintro _ _ _ ⟨rfl, rfl, rfl⟩
  conv => whnf
  (repeat' ((first | refine And.intro ?_ ?_ | (apply vif_split <;> intro h <;> try simp only [bl] at h) | refine AAr.i64 (by first | omega | ((try simp only [List.length_map] at *); omega)) ?_ | refine AIn.mk' _ rfl (by first | omega | (simp only [ln]; omega) | (simp only [ln] at *; omega)) ?_ | refine ARd.mapAt (by assumption) ?_ | refine ARd.set (by (try simp only [ln] at *); omega) ?_ | refine ARd.map (by first | omega | (simp only [List.length_map] at *; omega)) ?_ | refine VReq.mk (by first | decide | omega) ?_ | refine AEq.mk (by kernel_rfl) rfl rfl ?_ | refine VReq.mk (app_ok (by (try simp only [ln] at *); omega) (by kernel_rfl)) ?_) <;> conv => whnf))
  refine aback ⟨k + 1, l[k], out ++ num (w64 (l[k] - p))⟩ [] [0] rfl (by show l.length - (k + 1) < l.length - k; omega) ⟨hlt, by rw [← ho, List.append_assoc]⟩ trivial ⟨⟨rfl, rfl, rfl⟩, rfl, rfl, trivial⟩
 ·have : k = l.length := by simp at hge; omega
  subst this
  simp only [List.drop_length, st, List.append_nil] at ho
  conv => whnf
  rw [← ho]
  exact aret [] (by repeat' (first | rfl | trivial | apply And.intro))
def RunI (l : Li) (i k : Nat) : Prop := i ≤ k ∧ k ≤ l.length ∧ l.drop i = List.replicate (k - i) (l.getD i 0) ++ l.drop k
theorem RunI.next {l : Li} {i k : Nat} (h : RunI l i k) (hk : k < l.length) (e : l[k] = l.getD i 0) : RunI l i (k + 1) := by
 obtain ⟨h1, h2, h3⟩ := h
 refine ⟨by omega, hk, ?_⟩
 rw [h3, drop_cons hk, e, show k + 1 - i = (k - i) + 1 by omega, List.replicate_succ']
 simp
theorem RunI.fin {l : Li} {i k : Nat} (h : RunI l i k) (hi : i < l.length) (e : ∀ hk : k < l.length, l[k] ≠ l.getD i 0) : i < k ∧ b2 (l.drop i) = num (l.getD i 0) ++ (num ((k - i : Nat) : Int) ++ b2 (l.drop k)) := by
 obtain ⟨h1, h2, h3⟩ := h
 have hlt : i < k := by
  rcases Nat.lt_or_ge i k with h | h
  ·exact h
  ·have : k = i := by omega
   subst this
   exact absurd (by rw [List.getD_eq_getElem?_getD, List.getElem?_eq_getElem hi]; rfl) (e hi)
 refine ⟨hlt, ?_⟩
 obtain ⟨m, hm⟩ : ∃ m, k - i = m + 1 := ⟨k - i - 1, by omega⟩
 rw [h3, hm]
 unfold b2
 rw [rl_rep _ m _ (by
  rcases Nat.lt_or_ge k l.length with h | h
  ·rw [drop_cons h]; intro e2; exact e h (by simpa [List.getElem?_eq_getElem h] using e2)
  ·rw [List.drop_eq_nil_of_le h]; simp)]
 simp [enP]
theorem putRunsA (b : By) (l : Li) (hl : AllI l) (hs : b.length + 20 * l.length ≤ 3000000) : AFn Tryz.prog GC 64 [bs b, li l] 0 [] (Is (bs (b ++ b2 l))) := by
 have hbl := b2_len l
 refine afn_of Tryz.func64 rfl mixed (by kernel_rfl) ?_
 conv => whnf
 refine aloop ws64_1 0 [0, 5] (fun x : LX => [(0, bs x.out), (5, iv x.k)]) (fun _ => []) (fun x => x.k ≤ l.length ∧ x.out ++ b2 (l.drop x.k) = b ++ b2 l) (fun x => l.length - x.k) [] [] ⟨0, 0, b⟩ (by kernel_rfl) (fun _ => rfl) rfl ⟨Nat.zero_le _, rfl⟩ trivial ⟨⟨rfl, rfl⟩, rfl, trivial⟩ ?_
 rintro ⟨i, p, out⟩ ⟨hi, ho⟩
 change i ≤ l.length at hi
 change out ++ b2 (l.drop i) = b ++ b2 l at ho
 have hol : out.length ≤ b.length + 20 * l.length := by have := congrArg List.length ho; simp only [List.length_append] at this; omega
 conv => whnf
 (repeat' ((first | refine And.intro ?_ ?_ | (apply vif_split <;> intro h <;> try simp only [bl] at h) | refine AAr.i64 (by first | omega | ((try simp only [List.length_map] at *); omega)) ?_ | refine AIn.mk' _ rfl (by first | omega | (simp only [ln]; omega) | (simp only [ln] at *; omega)) ?_ | refine ARd.mapAt (by assumption) ?_ | refine ARd.set (by (try simp only [ln] at *); omega) ?_ | refine ARd.map (by first | omega | (simp only [List.length_map] at *; omega)) ?_ | refine VReq.mk (by first | decide | omega) ?_ | refine AEq.mk (by kernel_rfl) rfl rfl ?_ | refine VReq.mk (app_ok (by (try simp only [ln] at *); omega) (by kernel_rfl)) ?_) <;> conv => whnf))
 ·have hlt : i < l.length := by simp at h; omega
  conv => whnf
  refine aloop ws64_2 0 [6] (fun k : Nat => [(6, iv k)]) (fun _ => []) (fun k => RunI l i k) (fun k => l.length - k) [] [] i (by kernel_rfl) (fun _ => rfl) rfl ⟨Nat.le_refl _, hi, by simp⟩ trivial ⟨rfl, trivial⟩ ?_
  rintro k hr
  have hk := hr.2.1
  conv => whnf
  (refine adraw pln64 [] (by kernel_rfl) ?_; conv => whnf)
  have hgi : l.getD i 0 = l[i] := by rw [List.getD_eq_getElem?_getD, List.getElem?_eq_getElem hlt]; rfl
  have done : (∀ hk : k < l.length, l[k] ≠ l.getD i 0) → i < k ∧ out ++ num l[i] ++ num ((k - i : Nat) : Int) ++ b2 (l.drop k) = b ++ b2 l := fun e => by
   have := hr.fin hlt e
   refine ⟨this.1, ?_⟩
   rw [← ho, this.2, hgi]
   simp only [List.append_assoc]
  (repeat' ((first | refine And.intro ?_ ?_ | (apply vif_split <;> intro h <;> try simp only [bl] at h) | refine AAr.i64 (by first | omega | ((try simp only [List.length_map] at *); omega)) ?_ | refine AIn.mk' _ rfl (by first | omega | (simp only [ln]; omega) | (simp only [ln] at *; omega)) ?_ | refine ARd.mapAt (by assumption) ?_ | refine ARd.set (by (try simp only [ln] at *); omega) ?_ | refine ARd.map (by first | omega | (simp only [List.length_map] at *; omega)) ?_ | refine VReq.mk (by first | decide | omega) ?_ | refine AEq.mk (by kernel_rfl) rfl rfl ?_ | refine VReq.mk (app_ok (by (try simp only [ln] at *); omega) (by kernel_rfl)) ?_) <;> conv => whnf))
  ·rename_i h1
   have hkl : k < l.length := by simp at h1; omega
   have e : l[k] = l.getD i 0 := by rw [hgi]; exact h
   exact aback (k + 1) [] [] rfl (by show l.length - (k + 1) < l.length - k; omega) (hr.next hkl e) trivial ⟨rfl, trivial⟩
  all_goals
   have ⟨hik, hd⟩ := done (by first | (intro hkl e; rw [hgi] at e; exact absurd e h) | (intro hkl; simp at h; omega))
   have h10 := (num_len l[i]).2
   have h20 := congrArg List.length hd
   simp only [List.length_append] at h20
   (refine acallF [] (by kernel_rfl) (putA out l[i] (hl _ (List.getElem_mem hlt)) (by omega)) ?_ ?_; (focus (repeat' (first | rfl | trivial | apply And.intro))))
   rintro _ _ _ ⟨rfl, rfl, rfl⟩
   conv => whnf
   (repeat' ((first | refine And.intro ?_ ?_ | (apply vif_split <;> intro h <;> try simp only [bl] at h) | refine AAr.i64 (by first | omega | ((try simp only [List.length_map] at *); omega)) ?_ | refine AIn.mk' _ rfl (by first | omega | (simp only [ln]; omega) | (simp only [ln] at *; omega)) ?_ | refine ARd.mapAt (by assumption) ?_ | refine ARd.set (by (try simp only [ln] at *); omega) ?_ | refine ARd.map (by first | omega | (simp only [List.length_map] at *; omega)) ?_ | refine VReq.mk (by first | decide | omega) ?_ | refine AEq.mk (by kernel_rfl) rfl rfl ?_ | refine VReq.mk (app_ok (by (try simp only [ln] at *); omega) (by kernel_rfl)) ?_) <;> conv => whnf))
   have hp : AFn Tryz.prog GC 20 [bs (out ++ num l[i]), iv ((k : Int) - (i : Int))] 0 [] (Own1 5 1 ((out ++ num l[i] ++ num ((k - i : Nat) : Int)).map enB)) := by
    rw [← show ((k - i : Nat) : Int) = (k : Int) - (i : Int) by omega]
    exact putA (out ++ num l[i]) ((k - i : Nat) : Int) (i64_nat (by omega)) (by rw [List.length_append]; omega)
   (refine acallF [0] (by kernel_rfl) (hp) ?_ ?_; (focus (repeat' (first | rfl | trivial | apply And.intro))))
   rintro _ _ _ ⟨rfl, rfl, rfl⟩
   conv => whnf
   (repeat' ((first | refine And.intro ?_ ?_ | (apply vif_split <;> intro h <;> try simp only [bl] at h) | refine AAr.i64 (by first | omega | ((try simp only [List.length_map] at *); omega)) ?_ | refine AIn.mk' _ rfl (by first | omega | (simp only [ln]; omega) | (simp only [ln] at *; omega)) ?_ | refine ARd.mapAt (by assumption) ?_ | refine ARd.set (by (try simp only [ln] at *); omega) ?_ | refine ARd.map (by first | omega | (simp only [List.length_map] at *; omega)) ?_ | refine VReq.mk (by first | decide | omega) ?_ | refine AEq.mk (by kernel_rfl) rfl rfl ?_ | refine VReq.mk (app_ok (by (try simp only [ln] at *); omega) (by kernel_rfl)) ?_) <;> conv => whnf))
   exact aback ⟨k, 0, out ++ num l[i] ++ num ((k - i : Nat) : Int)⟩ [] [1] rfl (by show l.length - k < l.length - i; omega) ⟨hk, hd⟩ trivial ⟨⟨rfl, rfl, rfl⟩, rfl, trivial⟩
 ·have : i = l.length := by simp at h; omega
  subst this
  simp only [List.drop_length, b2, rl, List.flatMap_nil, List.append_nil] at ho
  rw [ho]
  exact aret [] (by repeat' (first | rfl | trivial | apply And.intro))
def fnv (f : FuncId) : AV := .v (.func (.func f) #[] #[])
def cds : List AV := [fnv 62, fnv 63, fnv 64, fnv 65, fnv 66, fnv 67, fnv 68, fnv 69, fnv 70, fnv 71]
theorem codecsA : AFn Tryz.prog GC 43 [] 0 [] (Is (.agg cds)) := by
 refine afn_of Tryz.func43 rfl mixed (by kernel_rfl) ?_
 conv => whnf
 exact aret [] (by repeat' (first | rfl | trivial | apply And.intro))
theorem lo_uniq {l : Li} {m : Int} (h1 : m ∈ l) (h2 : ∀ x ∈ l, m ≤ x) : m = lo l := by
 have := lo_le h1
 have := h2 _ this.2
 omega
theorem hi_uniq {l : Li} {m : Int} (h1 : m ∈ l) (h2 : ∀ x ∈ l, x ≤ m) : m = hi l := by
 have := hi_ge h1
 have := h2 _ this.2
 omega
structure KX where
 k : Nat
 m : Int
theorem minA (l : Li) (hl : l ≠ []) (hs : l.length ≤ 1000000) : AFn Tryz.prog GC 103 [li l] 0 [] (Is (iv (lo l))) := by
 have h0 : 0 < l.length := List.length_pos_iff.2 hl
 have st : ∀ j (hj : j < 1) (hjl : j < l.length), l[j] = l[0] := fun j hj hjl => by
  have : j = 0 := by omega
  subst this; rfl
 refine afn_of Tryz.func103 rfl mixed (by kernel_rfl) ?_
 conv => whnf
 apply vif_split <;> intro h
 ·simp at h; omega
 conv => whnf
 (repeat' ((first | refine And.intro ?_ ?_ | (apply vif_split <;> intro h <;> try simp only [bl] at h) | refine AAr.i64 (by first | omega | ((try simp only [List.length_map] at *); omega)) ?_ | refine AIn.mk' _ rfl (by first | omega | (simp only [ln]; omega) | (simp only [ln] at *; omega)) ?_ | refine ARd.mapAt (by assumption) ?_ | refine ARd.set (by (try simp only [ln] at *); omega) ?_ | refine ARd.map (by first | omega | (simp only [List.length_map] at *; omega)) ?_ | refine VReq.mk (by first | decide | omega) ?_ | refine AEq.mk (by kernel_rfl) rfl rfl ?_ | refine VReq.mk (app_ok (by (try simp only [ln] at *); omega) (by kernel_rfl)) ?_) <;> conv => whnf))
 refine aloop ws103_1 0 [3, 4] (fun x : KX => [(3, iv x.m), (4, iv x.k)]) (fun _ => []) (fun x => x.k ≤ l.length ∧ x.m ∈ l ∧ ∀ j (hj : j < x.k) (hjl : j < l.length), x.m ≤ l[j]) (fun x => l.length - x.k) [] [] ⟨1, l[0]⟩ (by kernel_rfl) (fun _ => rfl) rfl ⟨h0, List.getElem_mem h0, fun j hj hjl => by have := st j hj hjl; simp only; omega⟩ trivial ⟨rfl, rfl, trivial⟩ ?_
 rintro ⟨k, m⟩ ⟨hk, hm, ha⟩
 change k ≤ l.length at hk
 change m ∈ l at hm
 conv => whnf
 apply vif_split <;> intro h
 ·have hlt : k < l.length := by simp at h; omega
  conv => whnf
  (repeat' ((first | refine And.intro ?_ ?_ | (apply vif_split <;> intro h <;> try simp only [bl] at h) | refine AAr.i64 (by first | omega | ((try simp only [List.length_map] at *); omega)) ?_ | refine AIn.mk' _ rfl (by first | omega | (simp only [ln]; omega) | (simp only [ln] at *; omega)) ?_ | refine ARd.mapAt (by assumption) ?_ | refine ARd.set (by (try simp only [ln] at *); omega) ?_ | refine ARd.map (by first | omega | (simp only [List.length_map] at *; omega)) ?_ | refine VReq.mk (by first | decide | omega) ?_ | refine AEq.mk (by kernel_rfl) rfl rfl ?_ | refine VReq.mk (app_ok (by (try simp only [ln] at *); omega) (by kernel_rfl)) ?_) <;> conv => whnf))
  refine aback ⟨k + 1, min m l[k]⟩ [] [] rfl (by show l.length - (k + 1) < l.length - k; omega) ⟨hlt, ?_, fun j hj hjl => ?_⟩ trivial ⟨rfl, rfl, trivial⟩
  ·show min m l[k] ∈ l
   have hm2 := List.getElem_mem hlt
   rcases Int.le_total m l[k] with h1 | h1
   ·rw [Int.min_eq_left h1]; exact hm
   ·rw [Int.min_eq_right h1]; exact hm2
  ·rcases Nat.lt_or_ge j k with h1 | h1
   ·have := ha j h1 hjl; simp only at this ⊢; omega
   ·have hj' : j < k + 1 := hj
    have : j = k := by omega
    subst this; simp only; omega
 ·have : k = l.length := by simp at h; omega
  subst this
  conv => whnf
  have e : m = lo l := lo_uniq hm fun x hx => by
   obtain ⟨j, hj, e⟩ := List.getElem_of_mem hx
   rw [← e]; exact ha j hj hj
  rw [← e]
  exact aret [] (by repeat' (first | rfl | trivial | apply And.intro))
theorem maxA (l : Li) (hl : l ≠ []) (hs : l.length ≤ 1000000) : AFn Tryz.prog GC 105 [li l] 0 [] (Is (iv (hi l))) := by
 have h0 : 0 < l.length := List.length_pos_iff.2 hl
 have st : ∀ j (hj : j < 1) (hjl : j < l.length), l[j] = l[0] := fun j hj hjl => by
  have : j = 0 := by omega
  subst this; rfl
 refine afn_of Tryz.func105 rfl mixed (by kernel_rfl) ?_
 conv => whnf
 apply vif_split <;> intro h
 ·simp at h; omega
 conv => whnf
 (repeat' ((first | refine And.intro ?_ ?_ | (apply vif_split <;> intro h <;> try simp only [bl] at h) | refine AAr.i64 (by first | omega | ((try simp only [List.length_map] at *); omega)) ?_ | refine AIn.mk' _ rfl (by first | omega | (simp only [ln]; omega) | (simp only [ln] at *; omega)) ?_ | refine ARd.mapAt (by assumption) ?_ | refine ARd.set (by (try simp only [ln] at *); omega) ?_ | refine ARd.map (by first | omega | (simp only [List.length_map] at *; omega)) ?_ | refine VReq.mk (by first | decide | omega) ?_ | refine AEq.mk (by kernel_rfl) rfl rfl ?_ | refine VReq.mk (app_ok (by (try simp only [ln] at *); omega) (by kernel_rfl)) ?_) <;> conv => whnf))
 refine aloop ws105_1 0 [3, 4] (fun x : KX => [(3, iv x.m), (4, iv x.k)]) (fun _ => []) (fun x => x.k ≤ l.length ∧ x.m ∈ l ∧ ∀ j (hj : j < x.k) (hjl : j < l.length), l[j] ≤ x.m) (fun x => l.length - x.k) [] [] ⟨1, l[0]⟩ (by kernel_rfl) (fun _ => rfl) rfl ⟨h0, List.getElem_mem h0, fun j hj hjl => by have := st j hj hjl; simp only; omega⟩ trivial ⟨rfl, rfl, trivial⟩ ?_
 rintro ⟨k, m⟩ ⟨hk, hm, ha⟩
 change k ≤ l.length at hk
 change m ∈ l at hm
 conv => whnf
 apply vif_split <;> intro h
 ·have hlt : k < l.length := by simp at h; omega
  conv => whnf
  (repeat' ((first | refine And.intro ?_ ?_ | (apply vif_split <;> intro h <;> try simp only [bl] at h) | refine AAr.i64 (by first | omega | ((try simp only [List.length_map] at *); omega)) ?_ | refine AIn.mk' _ rfl (by first | omega | (simp only [ln]; omega) | (simp only [ln] at *; omega)) ?_ | refine ARd.mapAt (by assumption) ?_ | refine ARd.set (by (try simp only [ln] at *); omega) ?_ | refine ARd.map (by first | omega | (simp only [List.length_map] at *; omega)) ?_ | refine VReq.mk (by first | decide | omega) ?_ | refine AEq.mk (by kernel_rfl) rfl rfl ?_ | refine VReq.mk (app_ok (by (try simp only [ln] at *); omega) (by kernel_rfl)) ?_) <;> conv => whnf))
  refine aback ⟨k + 1, max m l[k]⟩ [] [] rfl (by show l.length - (k + 1) < l.length - k; omega) ⟨hlt, ?_, fun j hj hjl => ?_⟩ trivial ⟨rfl, rfl, trivial⟩
  ·show max m l[k] ∈ l
   have hm2 := List.getElem_mem hlt
   rcases Int.le_total m l[k] with h1 | h1
   ·rw [Int.max_eq_right h1]; exact hm2
   ·rw [Int.max_eq_left h1]; exact hm
  ·rcases Nat.lt_or_ge j k with h1 | h1
   ·have := ha j h1 hjl; simp only at this ⊢; omega
   ·have hj' : j < k + 1 := hj
    have : j = k := by omega
    subst this; simp only; omega
 ·have : k = l.length := by simp at h; omega
  subst this
  conv => whnf
  have e : m = hi l := hi_uniq hm fun x hx => by
   obtain ⟨j, hj, e⟩ := List.getElem_of_mem hx
   rw [← e]; exact ha j hj hj
  rw [← e]
  exact aret [] (by repeat' (first | rfl | trivial | apply And.intro))
theorem cloneA (l : Li) (hl : l ≠ []) (hs : l.length ≤ 1000000) : AFn Tryz.prog GC 99 [li l] 0 [] (Own1 3 1 (l.map enI)) := by
 have h0 : 0 < l.length := List.length_pos_iff.2 hl
 refine afn_of Tryz.func99 rfl mixed (by kernel_rfl) ?_
 conv => whnf
 refine ⟨fun b hb => ?_⟩
 rw [hb (by rw [List.length_map]; exact h0)]
 conv => whnf
 (repeat' ((first | refine And.intro ?_ ?_ | (apply vif_split <;> intro h <;> try simp only [bl] at h) | refine AAr.i64 (by first | omega | ((try simp only [List.length_map] at *); omega)) ?_ | refine AIn.mk' _ rfl (by first | omega | (simp only [ln]; omega) | (simp only [ln] at *; omega)) ?_ | refine ARd.mapAt (by assumption) ?_ | refine ARd.set (by (try simp only [ln] at *); omega) ?_ | refine ARd.map (by first | omega | (simp only [List.length_map] at *; omega)) ?_ | refine VReq.mk (by first | decide | omega) ?_ | refine AEq.mk (by kernel_rfl) rfl rfl ?_ | refine VReq.mk (app_ok (by (try simp only [ln] at *); omega) (by kernel_rfl)) ?_) <;> conv => whnf))
 exact aend (.own 0) 1 _ [(0, .lab 1)] [] ⟨rfl, rfl, rfl⟩ rfl (by repeat' (first | rfl | trivial | apply And.intro)) (by repeat' (first | rfl | trivial | apply And.intro))
theorem ss_lt {d : Li} (hd : SS d) {i j : Nat} {x y : Int} (h : i < j) (h1 : d[i]? = some x) (h2 : d[j]? = some y) : x < y := by
 obtain ⟨hi, e1⟩ := List.getElem?_eq_some_iff.1 h1
 obtain ⟨hj, e2⟩ := List.getElem?_eq_some_iff.1 h2
 rw [← e1, ← e2]
 exact List.pairwise_iff_getElem.1 hd i j hi hj h
theorem shrk1 (u : Nat) : Int.fdiv (u : Int) (2 ^ min (Int.toNat 1) IntKind.u64.bits) = ((u / 2 : Nat) : Int) := by rw [p2_1]; exact shr1 u
theorem ne_self (n : Int) : (n != n) = false := by simp
theorem nan1A (n : Int) : AFn Tryz.prog GC 141 [iv n] 0 [] (Is (bv false)) := by
 refine afn_of Tryz.func141 rfl mixed (by kernel_rfl) ?_
 conv => whnf
 rw [ne_self]
 exact aret [] (by repeat' (first | rfl | trivial | apply And.intro))
theorem lessA (x y : Int) : AFn Tryz.prog GC 118 [iv x, iv y] 0 [] (Is (bv (decide (x < y)))) := by
 refine afn_of Tryz.func118 rfl mixed (by kernel_rfl) ?_
 conv => whnf
 (refine acall [] (by kernel_rfl) (nan1A x) rfl ?_ ?_; (focus (repeat' (first | rfl | trivial | apply And.intro))))
 conv => whnf
 (repeat' ((first | refine And.intro ?_ ?_ | (apply vif_split <;> intro h <;> try simp only [bl] at h) | refine AAr.i64 (by first | omega | ((try simp only [List.length_map] at *); omega)) ?_ | refine AIn.mk' _ rfl (by first | omega | (simp only [ln]; omega) | (simp only [ln] at *; omega)) ?_ | refine ARd.mapAt (by assumption) ?_ | refine ARd.set (by (try simp only [ln] at *); omega) ?_ | refine ARd.map (by first | omega | (simp only [List.length_map] at *; omega)) ?_ | refine VReq.mk (by first | decide | omega) ?_ | refine AEq.mk (by kernel_rfl) rfl rfl ?_ | refine VReq.mk (app_ok (by (try simp only [ln] at *); omega) (by kernel_rfl)) ?_) <;> conv => whnf))
 exact aret [] (by repeat' (first | rfl | trivial | apply And.intro))
theorem searchA (d : Li) (x : Int) (hd : SS d) (hx : x ∈ d) (hs : d.length ≤ 1000000) : AFn Tryz.prog GC 102 [li d, iv x] 0 [] (Is (.tup [iv (idx d x), bv true])) := by
 have hi := idx_lt hx
 refine afn_of Tryz.func102 rfl mixed (by kernel_rfl) ?_
 conv => whnf
 refine aloop ws102_1 0 [7, 8] (fun x : Nat × Nat => [(7, iv x.1), (8, iv x.2)]) (fun _ => []) (fun y => y.1 ≤ idx d x ∧ idx d x ≤ y.2 ∧ y.2 ≤ d.length) (fun y => y.2 - y.1) [] [] (0, d.length) (by kernel_rfl) (fun _ => rfl) rfl ⟨Nat.zero_le _, Nat.le_of_lt hi.1, Nat.le_refl _⟩ trivial ⟨rfl, congrArg (fun n : Nat => Value.int .i64 (n : Int)) (List.length_map _), trivial⟩ ?_
 rintro ⟨i, j⟩ ⟨h1, h2, h3⟩
 change i ≤ idx d x at h1
 change idx d x ≤ j at h2
 change j ≤ d.length at h3
 conv => whnf
 apply vif_split <;> intro h
 ·have hlt : i < j := by simp at h; omega
  conv => whnf
  (repeat' ((first | refine And.intro ?_ ?_ | (apply vif_split <;> intro h <;> try simp only [bl] at h) | refine AAr.i64 (by first | omega | ((try simp only [List.length_map] at *); omega)) ?_ | refine AIn.mk' _ rfl (by first | omega | (simp only [ln]; omega) | (simp only [ln] at *; omega)) ?_ | refine ARd.mapAt (by assumption) ?_ | refine ARd.set (by (try simp only [ln] at *); omega) ?_ | refine ARd.map (by first | omega | (simp only [List.length_map] at *; omega)) ?_ | refine VReq.mk (by first | decide | omega) ?_ | refine AEq.mk (by kernel_rfl) rfl rfl ?_ | refine VReq.mk (app_ok (by (try simp only [ln] at *); omega) (by kernel_rfl)) ?_) <;> conv => whnf))
  refine AAr.to (y := ((i + j : Nat) : Int)) (by rw [← Int.natCast_add]; exact wr_u64 (by omega)) ?_
  conv => whnf
  refine VReq.mk (by decide) ?_
  rw [shrk1]
  conv => whnf
  refine AAr.i64 (by omega) ?_
  conv => whnf
  have hm : (i + j) / 2 < d.length := by omega
  (repeat' ((first | refine And.intro ?_ ?_ | (apply vif_split <;> intro h <;> try simp only [bl] at h) | refine AAr.i64 (by first | omega | ((try simp only [List.length_map] at *); omega)) ?_ | refine AIn.mk' _ rfl (by first | omega | (simp only [ln]; omega) | (simp only [ln] at *; omega)) ?_ | refine ARd.mapAt (by assumption) ?_ | refine ARd.set (by (try simp only [ln] at *); omega) ?_ | refine ARd.map (by first | omega | (simp only [List.length_map] at *; omega)) ?_ | refine VReq.mk (by first | decide | omega) ?_ | refine AEq.mk (by kernel_rfl) rfl rfl ?_ | refine VReq.mk (app_ok (by (try simp only [ln] at *); omega) (by kernel_rfl)) ?_) <;> conv => whnf))
  (refine acall [] (by kernel_rfl) (lessA d[(i + j) / 2] x) rfl ?_ ?_; (focus (repeat' (first | rfl | trivial | apply And.intro))))
  conv => whnf
  have hat := List.getElem?_eq_getElem hm
  apply vif_split <;> intro h
  ·conv => whnf
   refine AAr.i64 (by omega) ?_
   conv => whnf
   have hlt2 : d[(i + j) / 2] < x := by simpa using h
   have hc : (i + j) / 2 < idx d x := by
    rcases Nat.lt_trichotomy ((i + j) / 2) (idx d x) with h4 | h4 | h4
    ·exact h4
    ·have := hi.2; rw [← h4, hat] at this; injection this with this; omega
    ·have := ss_lt hd h4 hi.2 hat; omega
   exact aback ((i + j) / 2 + 1, j) [] [] rfl (by show j - ((i + j) / 2 + 1) < j - i; omega) ⟨hc, h2, h3⟩ trivial ⟨rfl, rfl, trivial⟩
  ·conv => whnf
   have hlt2 : x ≤ d[(i + j) / 2] := by simp at h; omega
   have hc : idx d x ≤ (i + j) / 2 := by
    rcases Nat.lt_or_ge ((i + j) / 2) (idx d x) with h4 | h4
    ·have := ss_lt hd h4 hat hi.2; omega
    ·exact h4
   exact aback (i, (i + j) / 2) [] [] rfl (by show (i + j) / 2 - i < j - i; omega) ⟨h1, hc, by show (i + j) / 2 ≤ _; omega⟩ trivial ⟨rfl, rfl, trivial⟩
 ·have hij : i = idx d x := by simp at h; omega
  have hil : i < d.length := by omega
  have hat : d[i]? = some x := by rw [hij]; exact hi.2
  rw [← hij]
  conv => whnf
  (repeat' ((first | refine And.intro ?_ ?_ | (apply vif_split <;> intro h <;> try simp only [bl] at h) | refine AAr.i64 (by first | omega | ((try simp only [List.length_map] at *); omega)) ?_ | refine AIn.mk' _ rfl (by first | omega | (simp only [ln]; omega) | (simp only [ln] at *; omega)) ?_ | refine ARd.mapAt (by assumption) ?_ | refine ARd.set (by (try simp only [ln] at *); omega) ?_ | refine ARd.map (by first | omega | (simp only [List.length_map] at *; omega)) ?_ | refine VReq.mk (by first | decide | omega) ?_ | refine AEq.mk (by kernel_rfl) rfl rfl ?_ | refine VReq.mk (app_ok (by (try simp only [ln] at *); omega) (by kernel_rfl)) ?_) <;> conv => whnf))
  all_goals first
   | (exfalso; omega)
   | (exfalso; simp only [List.length_map] at h; omega)
   | (exfalso; simp at h; done)
   | exact aret [] (by repeat' (first | rfl | trivial | apply And.intro))
def l8 : List UInt8 := [0, 1, 2, 2, 3, 3, 3, 3, 4, 4, 4, 4, 4, 4, 4, 4, 5, 5, 5, 5, 5, 5, 5, 5, 5, 5, 5, 5, 5, 5, 5, 5, 6, 6, 6, 6, 6, 6, 6, 6, 6, 6, 6, 6, 6, 6, 6, 6, 6, 6, 6, 6, 6, 6, 6, 6, 6, 6, 6, 6, 6, 6, 6, 6, 7, 7, 7, 7, 7, 7, 7, 7, 7, 7, 7, 7, 7, 7, 7, 7, 7, 7, 7, 7, 7, 7, 7, 7, 7, 7, 7, 7, 7, 7, 7, 7, 7, 7, 7, 7, 7, 7, 7, 7, 7, 7, 7, 7, 7, 7, 7, 7, 7, 7, 7, 7, 7, 7, 7, 7, 7, 7, 7, 7, 7, 7, 7, 7, 8, 8, 8, 8, 8, 8, 8, 8, 8, 8, 8, 8, 8, 8, 8, 8, 8, 8, 8, 8, 8, 8, 8, 8, 8, 8, 8, 8, 8, 8, 8, 8, 8, 8, 8, 8, 8, 8, 8, 8, 8, 8, 8, 8, 8, 8, 8, 8, 8, 8, 8, 8, 8, 8, 8, 8, 8, 8, 8, 8, 8, 8, 8, 8, 8, 8, 8, 8, 8, 8, 8, 8, 8, 8, 8, 8, 8, 8, 8, 8, 8, 8, 8, 8, 8, 8, 8, 8, 8, 8, 8, 8, 8, 8, 8, 8, 8, 8, 8, 8, 8, 8, 8, 8, 8, 8, 8, 8, 8, 8, 8, 8, 8, 8, 8, 8, 8, 8, 8, 8, 8, 8, 8, 8, 8, 8, 8, 8]
theorem l8_at : ∀ j, j < 256 → (l8.getD j 0).toNat = wid 8 j := by decide
theorem wid_low : ∀ (f u : Nat), u < 2 ^ f → 0 < u → 0 < wid f u ∧ 2 ^ (wid f u - 1) ≤ u := by
 intro f
 induction f with
 | zero => intro u h h0; simp at h; omega
 | succ f ih =>
  intro u h h0
  unfold wid
  rw [if_neg (by omega)]
  refine ⟨by omega, ?_⟩
  rw [Nat.add_sub_cancel]
  rcases Nat.eq_zero_or_pos (u / 2) with e | e
  ·rw [e]
   have : wid f 0 = 0 := by cases f <;> simp [wid]
   rw [this]; simp; omega
  ·have := ih (u / 2) (by rw [Nat.pow_succ] at h; omega) e
   obtain ⟨w, hw⟩ : ∃ w, wid f (u / 2) = w + 1 := ⟨wid f (u / 2) - 1, by omega⟩
   rw [hw] at this ⊢
   rw [Nat.add_sub_cancel] at this
   rw [Nat.pow_succ]
   omega
theorem wid_uniq {f u w : Nat} (hu : u < 2 ^ f) (h1 : u < 2 ^ w) (h2 : w = 0 ∨ 2 ^ (w - 1) ≤ u) : wid f u = w := by
 have h3 := wid_min f u w h1
 rcases Nat.lt_or_ge (wid f u) w with h | h
 ·exfalso
  have h4 := (wid_spec f u hu).1
  have h5 : 2 ^ (wid f u) ≤ 2 ^ (w - 1) := Nat.pow_le_pow_right (by decide) (by omega)
  omega
 ·omega
theorem wid_leaf {u : Nat} (hu : u < 18446744073709551616) (s : Nat) (h8 : u / 2 ^ s < 256) (h1 : s = 0 ∨ 1 ≤ u / 2 ^ s) : wid 64 u = s + wid 8 (u / 2 ^ s) := by
 have h2 := wid_spec 8 (u / 2 ^ s) h8
 refine wid_uniq hu ?_ ?_
 ·rw [Nat.pow_add]
  have := (Nat.div_lt_iff_lt_mul (Nat.pow_pos (by decide) : 0 < 2 ^ s)).1 h2.1
  rwa [Nat.mul_comm] at this
 ·rcases Nat.eq_zero_or_pos (u / 2 ^ s) with h0 | h0
  ·left; rw [h0]; have : s = 0 := by omega
   subst this; decide
  ·right
   have h3 := wid_low 8 _ h8 h0
   obtain ⟨w, hw⟩ : ∃ w, wid 8 (u / 2 ^ s) = w + 1 := ⟨wid 8 (u / 2 ^ s) - 1, by omega⟩
   rw [hw] at h3 ⊢
   rw [Nat.add_sub_cancel] at h3
   rw [show s + (w + 1) - 1 = s + w by omega, Nat.pow_add]
   exact Nat.le_trans (Nat.mul_le_mul_left _ h3.2) (Nat.mul_div_le u _)
theorem shrk (u s : Nat) (hs : s ≤ 64) : Int.fdiv (u : Int) (2 ^ min (Int.toNat (s : Int)) IntKind.u64.bits) = ((u / 2 ^ s : Nat) : Int) := by
 have e : IntKind.u64.bits = 64 := rfl
 rw [e, Int.toNat_natCast, Nat.min_eq_left hs, Int.fdiv_eq_ediv_of_nonneg _ (by exact Int.pow_nonneg (by decide))]
 simp
theorem shr32 (u : Nat) : Int.fdiv (u : Int) (2 ^ min (Int.toNat 32) IntKind.u64.bits) = ((u / 4294967296 : Nat) : Int) := shrk u 32 (by decide)
theorem shr16 (u : Nat) : Int.fdiv (u : Int) (2 ^ min (Int.toNat 16) IntKind.u64.bits) = ((u / 65536 : Nat) : Int) := shrk u 16 (by decide)
theorem shr8 (u : Nat) : Int.fdiv (u : Int) (2 ^ min (Int.toNat 8) IntKind.u64.bits) = ((u / 256 : Nat) : Int) := shrk u 8 (by decide)
theorem leaf {u v : Nat} (hu : u < 18446744073709551616) (s : Nat) (hv : v = u / 2 ^ s) (h8 : v < 256) (h1 : s = 0 ∨ 1 ≤ v) : wid 64 u = s + wid 8 v := by
 subst hv; exact wid_leaf hu s h8 h1
theorem l8_wr {j : Nat} (h : j < 256) : IntKind.i64.wrap (((l8.getD j 0).toNat : Nat) : Int) = (wid 8 j : Int) := by
 rw [l8_at j h]
 have := (wid_spec 8 j h).2
 exact IntWalk.i64_in _ (by omega)
theorem len64A (u : Nat) (hu : u < 18446744073709551616) : AFn Tryz.prog GC 104 [uv u] 0 [] (Is (iv (wid 64 u))) := by
 refine afn_of Tryz.func104 rfl mixed (by kernel_rfl) ?_
 conv => whnf
 refine vif_split (fun h1 => ?_) (fun h1 => ?_) <;> (simp at h1; conv => whnf)
 ·refine VReq.mk (by decide) ?_
  rw [shr32]
  conv => whnf
  refine vif_split (fun h2 => ?_) (fun h2 => ?_) <;> (simp at h2; conv => whnf)
  refine VReq.mk (by decide) ?_
  rw [shr16]
  conv => whnf
  refine AAr.i64 (by omega) ?_
  conv => whnf
  refine vif_split (fun h3 => ?_) (fun h3 => ?_) <;> (simp at h3; conv => whnf)
  ·refine VReq.mk (by decide) ?_
   rw [shr8]
   conv => whnf
   refine AAr.i64 (by omega) ?_
   conv => whnf
   refine AAr.to (wr_u8 (by omega)) ?_
   conv => whnf
   refine AIn.mk' _ rfl (by show _ < 256; omega) ?_
   conv => whnf
   refine AAr.to (l8_wr (by omega)) ?_
   conv => whnf
   refine AAr.to (y := (wid 64 u : Int)) (by
    have hw := wid_spec 64 u hu
    have := leaf (v := u / 4294967296 / 65536 / 256) hu 56 (by first | rfl | (show _ = u / 72057594037927936; omega)) (by omega) (by omega)
    rw [IntWalk.i64_in _ (by omega)]; omega) ?_
   conv => whnf
   exact aret [] (by repeat' (first | rfl | trivial | apply And.intro))
  ·skip
   refine AAr.to (wr_u8 (by omega)) ?_
   conv => whnf
   refine AIn.mk' _ rfl (by show _ < 256; omega) ?_
   conv => whnf
   refine AAr.to (l8_wr (by omega)) ?_
   conv => whnf
   refine AAr.to (y := (wid 64 u : Int)) (by
    have hw := wid_spec 64 u hu
    have := leaf (v := u / 4294967296 / 65536) hu 48 (by first | rfl | (show _ = u / 281474976710656; omega)) (by omega) (by omega)
    rw [IntWalk.i64_in _ (by omega)]; omega) ?_
   conv => whnf
   exact aret [] (by repeat' (first | rfl | trivial | apply And.intro))
  refine vif_split (fun h3 => ?_) (fun h3 => ?_) <;> (simp at h3; conv => whnf)
  ·refine VReq.mk (by decide) ?_
   rw [shr8]
   conv => whnf
   refine AAr.i64 (by omega) ?_
   conv => whnf
   refine AAr.to (wr_u8 (by omega)) ?_
   conv => whnf
   refine AIn.mk' _ rfl (by show _ < 256; omega) ?_
   conv => whnf
   refine AAr.to (l8_wr (by omega)) ?_
   conv => whnf
   refine AAr.to (y := (wid 64 u : Int)) (by
    have hw := wid_spec 64 u hu
    have := leaf (v := u / 4294967296 / 256) hu 40 (by first | rfl | (show _ = u / 1099511627776; omega)) (by omega) (by omega)
    rw [IntWalk.i64_in _ (by omega)]; omega) ?_
   conv => whnf
   exact aret [] (by repeat' (first | rfl | trivial | apply And.intro))
  ·skip
   refine AAr.to (wr_u8 (by omega)) ?_
   conv => whnf
   refine AIn.mk' _ rfl (by show _ < 256; omega) ?_
   conv => whnf
   refine AAr.to (l8_wr (by omega)) ?_
   conv => whnf
   refine AAr.to (y := (wid 64 u : Int)) (by
    have hw := wid_spec 64 u hu
    have := leaf (v := u / 4294967296) hu 32 (by first | rfl | (show _ = u / 4294967296; omega)) (by omega) (by omega)
    rw [IntWalk.i64_in _ (by omega)]; omega) ?_
   conv => whnf
   exact aret [] (by repeat' (first | rfl | trivial | apply And.intro))
 ·refine vif_split (fun h2 => ?_) (fun h2 => ?_) <;> (simp at h2; conv => whnf)
  refine VReq.mk (by decide) ?_
  rw [shr16]
  conv => whnf
  refine AAr.i64 (by omega) ?_
  conv => whnf
  refine vif_split (fun h3 => ?_) (fun h3 => ?_) <;> (simp at h3; conv => whnf)
  ·refine VReq.mk (by decide) ?_
   rw [shr8]
   conv => whnf
   refine AAr.i64 (by omega) ?_
   conv => whnf
   refine AAr.to (wr_u8 (by omega)) ?_
   conv => whnf
   refine AIn.mk' _ rfl (by show _ < 256; omega) ?_
   conv => whnf
   refine AAr.to (l8_wr (by omega)) ?_
   conv => whnf
   refine AAr.to (y := (wid 64 u : Int)) (by
    have hw := wid_spec 64 u hu
    have := leaf (v := u / 65536 / 256) hu 24 (by first | rfl | (show _ = u / 16777216; omega)) (by omega) (by omega)
    rw [IntWalk.i64_in _ (by omega)]; omega) ?_
   conv => whnf
   exact aret [] (by repeat' (first | rfl | trivial | apply And.intro))
  ·skip
   refine AAr.to (wr_u8 (by omega)) ?_
   conv => whnf
   refine AIn.mk' _ rfl (by show _ < 256; omega) ?_
   conv => whnf
   refine AAr.to (l8_wr (by omega)) ?_
   conv => whnf
   refine AAr.to (y := (wid 64 u : Int)) (by
    have hw := wid_spec 64 u hu
    have := leaf (v := u / 65536) hu 16 (by first | rfl | (show _ = u / 65536; omega)) (by omega) (by omega)
    rw [IntWalk.i64_in _ (by omega)]; omega) ?_
   conv => whnf
   exact aret [] (by repeat' (first | rfl | trivial | apply And.intro))
  refine vif_split (fun h3 => ?_) (fun h3 => ?_) <;> (simp at h3; conv => whnf)
  ·refine VReq.mk (by decide) ?_
   rw [shr8]
   conv => whnf
   refine AAr.i64 (by omega) ?_
   conv => whnf
   refine AAr.to (wr_u8 (by omega)) ?_
   conv => whnf
   refine AIn.mk' _ rfl (by show _ < 256; omega) ?_
   conv => whnf
   refine AAr.to (l8_wr (by omega)) ?_
   conv => whnf
   refine AAr.to (y := (wid 64 u : Int)) (by
    have hw := wid_spec 64 u hu
    have := leaf (v := u / 256) hu 8 (by first | rfl | (show _ = u / 256; omega)) (by omega) (by omega)
    rw [IntWalk.i64_in _ (by omega)]; omega) ?_
   conv => whnf
   exact aret [] (by repeat' (first | rfl | trivial | apply And.intro))
  ·skip
   refine AAr.to (wr_u8 (by omega)) ?_
   conv => whnf
   refine AIn.mk' _ rfl (by show _ < 256; omega) ?_
   conv => whnf
   refine AAr.to (l8_wr (by omega)) ?_
   conv => whnf
   refine AAr.to (y := (wid 64 u : Int)) (by
    have hw := wid_spec 64 u hu
    have := leaf (v := u) hu 0 (by first | rfl | (show _ = u / 1; omega)) (by omega) (by omega)
    rw [IntWalk.i64_in _ (by omega)]; omega) ?_
   conv => whnf
   exact aret [] (by repeat' (first | rfl | trivial | apply And.intro))
end Go.Proofs.YtmhpfadbmpipkaaGreatDoor.Cl
namespace Go.Proofs.YtmhpfadbmpipkaaGreatDoor.Ax
open Go Go.RowKit Go.Proofs Go.Proofs.YtmhpfadbmpipkaaGreatDoor.Vc
section
variable {P : Program} {G : Glob}
def en1 {α : Type} (enc : α → Value) (a : α) : List FV := [.v (enc a)]
theorem rep_en1 {α : Type} {enc : α → Value} (h1 : ∀ a, (enc a).oneCell' = true) {F : Nat → Prop} {w : World} : ∀ zs : List α, RepR F w 1 (zs.map (en1 enc)) (zs.map enc) := by
 intro zs
 induction zs with
 | nil => exact RepR.nil 1
 | cons a r ih => exact RepR.cons (xs := r.map enc) (vs := [enc a]) (zs_rep [enc a]) rfl (by simp [h1]) ih
theorem recs_en1 {α : Type} (enc : α → Value) : ∀ zs : List α, recs (fun a => [enc a]) zs = zs.map enc := by
 intro zs
 unfold recs
 induction zs with
 | nil => rfl
 | cons a r ih => simp only [List.map_cons, List.flatten_cons, ih]; rfl
theorem afn_place {α : Type} [Inhabited α] {enc : α → Value} (h1 : ∀ a, (enc a).oneCell' = true) {f : FuncId} {T : TypeId} {zs zs' : List α} {A : AV} {V : Nat → Nat → Value → Prop} (hne : zs ≠ []) (hl : zs'.length = zs.length)
  (h : ∀ w blk cap, Sort.Holds enc w blk 0 zs.toArray → blk < w.heap.size → zs.length ≤ cap → Ret P f #[.slice (some ⟨blk, 0, none⟩) zs.length cap] w fun v w' => V blk cap v ∧ ∃ q os, w' = Sort.grow (Sort.putRow enc (Sort.ahead w q) blk 0 zs'.toArray) os)
  (hv : ∀ w (σ : Nat → Loc) F blk cap v, σ 0 = ⟨some blk, zs.length, cap, 1⟩ → zs.length ≤ cap → V blk cap v → ARep 1 σ F w A v) :
  AFn P G f [.own 0] 1 [(0, .rows T 1 (zs.map (en1 enc)))] (fun a n H => a = A ∧ n = 1 ∧ H = [(0, .rows T 1 (zs'.map (en1 enc)))]) := by
 intro w σ F vs st r
 have hpos : 0 < zs.length := List.length_pos_iff.2 hne
 obtain ⟨hsz, hn, xs, hown, hrep⟩ := st.blk 0 _ rfl
 rw [List.length_map] at hn hown
 have hxs : xs = zs.map enc := by rw [← recs_en1]; exact repR_flat (c := fun a => [enc a]) (fun _ => rfl) hrep
 rcases hown.2 with ⟨_, h0⟩ | ⟨g, cap, cur, hval, _, hb, hnc, hcm, hcs, htk⟩
 ·omega
 injection hval with e1 e2 e3
 have hLb : (σ 0).b = some g := by
  unfold Loc.oa at e1
  cases hbb : (σ 0).b with
  | none => rw [hbb] at e1; cases e1
  | some g' => rw [hbb] at e1; injection e1 with e1; injection e1 with e1; rw [e1]
 have hσ : σ 0 = ⟨some g, zs.length, cap, 1⟩ := by
  cases hs : σ 0 with
  | mk b n c sz => rw [hs] at hLb hn e3 hsz; simp only at hLb hn e3 hsz; subst hLb; subst hn; subst e3; subst hsz; rfl
 obtain ⟨v0, rfl, hv0⟩ : ∃ v0, vs = [v0] ∧ v0 = .slice (some ⟨g, 0, none⟩) zs.length cap := by
  match vs, r with
  | [v0], r =>
   refine ⟨v0, rfl, ?_⟩
   cases r.1 with
   | own _ hl => rw [hσ]; rfl
   | ownz _ oa hl hn0 hc => rw [hσ] at hn0; simp only at hn0; omega
 subst hv0
 have hg : g < w.heap.size := (Array.getElem?_eq_some_iff.1 hb).1
 have hsz2 : zs.length ≤ cur.size := by omega
 have hH : Sort.Holds enc w g 0 zs.toArray := by
  intro j hj
  have hj' : j < zs.length := by simpa using hj
  refine ⟨?_, by simp [World.frozen?, hb]⟩
  have h2 : (cur.toList.take zs.length)[j]? = (zs.map enc)[j]? := by rw [← hxs, ← htk, Nat.mul_one]
  rw [List.getElem?_take_of_lt hj'] at h2
  simp only [World.cell?, hb, Nat.zero_add]
  simp only [Option.isSome_none, Bool.false_eq_true, if_false]
  rw [← Array.getElem?_toList, h2]
  simp [hj']
 have hmu := st.mu 0 _ g rfl rfl hLb
 refine (h w g cap hH hg hnc).mono fun v w' ⟨hV, q, os, hw'⟩ => ?_
 have hheap : w'.heap[g]? = some (.cells (Sort.putCells enc 0 zs'.toArray cur) T (0, 0)) := by
  rw [hw', Sort.heap_grow_old _ _ (by simpa using hg)]
  simp [Sort.putRow, Sort.mapBlock, Sort.ahead, Array.getElem?_modify, hb, Sort.onCells]
 have hother : ∀ k, k < w.heap.size → k ≠ g → w'.heap[k]? = w.heap[k]? := fun k hk hne => by
  rw [hw', Sort.heap_grow_old _ _ (by simpa using hk)]
  have : g ≠ k := fun e => hne e.symm
  simp [Sort.putRow, Sort.mapBlock, Sort.ahead, Array.getElem?_modify, this]
 have hsize : w.heap.size ≤ w'.heap.size := by rw [hw']; simp
 have htake : (Sort.putCells enc 0 zs'.toArray cur).toList.take zs'.length = zs'.map enc := by
  apply List.ext_getElem?
  intro j
  by_cases hj : j < zs'.length
  ·rw [List.getElem?_take_of_lt hj, Array.getElem?_toList]
   simp [Sort.putCells, hj, show j < cur.size by omega]
  ·rw [List.getElem?_take_eq_none (by omega), List.getElem?_eq_none (by simp; omega)]
 have hFne : ∀ b, F b → b ≠ g := fun b hb e => hmu.1 (e ▸ hb)
 refine ⟨A, 1, σ, F, _, ⟨rfl, rfl, rfl⟩, ⟨?_, ?_, ?_, ?_, ?_, ?_, ?_⟩, ⟨Nat.le_refl _, fun _ _ => rfl, fun b hb => ⟨hb, hother b (st.fsub b hb).1 (hFne b hb)⟩, hsize⟩, hv w' σ F g cap v hσ hnc hV⟩
 ·exact Glob.chg st.glob hsize fun b hb => hother b (Nat.lt_of_lt_of_le hb st.glob.1) (by omega)
 ·refine ⟨by rw [hw']; rfl, by rw [hw']; rfl, by rw [hw']; rfl, hsize, fun k hk hm => hother k hk fun e => hm ⟨0, _, rfl, rfl, by rw [e]; exact hLb⟩⟩
 ·exact fun b hb => ⟨Nat.lt_of_lt_of_le (st.fsub b hb).1 hsize, .inl hb⟩
 ·intro k b hk
  simp only [look] at hk
  cases hb0 : Nat.beq 0 k with
  | true => have := Nat.eq_of_beq_eq_true hb0; omega
  | false => rw [hb0, cond_false] at hk; cases hk
 ·intro k b g' hk hm hg'
  simp only [look] at hk
  cases hb0 : Nat.beq 0 k with
  | true =>
   have := Nat.eq_of_beq_eq_true hb0
   subst this
   rw [hLb] at hg'
   injection hg' with hg'
   subst hg'
   exact ⟨hmu.1, hmu.2.1, Nat.lt_of_lt_of_le hg hsize, .inl ⟨0, _, rfl, rfl, hLb⟩⟩
  | false => rw [hb0, cond_false] at hk; cases hk
 ·intro k k' b b' g' hk hk' _ _ _ _
  simp only [look] at hk hk'
  cases hb0 : Nat.beq 0 k with
  | true =>
   cases hb1 : Nat.beq 0 k' with
   | true => rw [← Nat.eq_of_beq_eq_true hb0, ← Nat.eq_of_beq_eq_true hb1]
   | false => rw [hb1, cond_false] at hk'; cases hk'
  | false => rw [hb0, cond_false] at hk; cases hk
 ·intro k b hk
  simp only [look] at hk
  cases hb0 : Nat.beq 0 k with
  | true =>
   have := Nat.eq_of_beq_eq_true hb0
   subst this
   rw [hb0, cond_true] at hk
   injection hk with hk
   subst hk
   refine ⟨hsz, by rw [List.length_map, hl]; exact hn, zs'.map enc, ⟨by simp, .inr ⟨g, cap, _, ?_, Nat.zero_le _, hheap, by rw [List.length_map]; omega, hcm, by simp [Sort.putCells, hcs], ?_⟩⟩, rep_en1 h1 zs'⟩
   ·rw [hσ, List.length_map]; rfl
   ·rw [List.length_map, Nat.mul_one]; exact htake
  | false => rw [hb0, cond_false] at hk; cases hk
end
end Go.Proofs.YtmhpfadbmpipkaaGreatDoor.Ax
namespace Go.Proofs
open Go.Shelf
def Tryz.lays189_ren : Go.Shelf.Ren := ⟨fun | 189 => 100 | 125 => 109 | 257 => 117 | 128 => 129 | 129 => 104 | 294 => 133 | 295 => 134 | 296 => 135 | 297 => 136 | 298 => 137 | 299 => 138 | 216 => 118 | 300 => 139 | 301 => 140 | 328 => 149 | 329 => 145 | 330 => 146 | 331 => 150 | 332 => 151 | 215 => 141 | 343 => 153 | n => n, fun | 28 => 46 | 3 => 3 | 46 => 102 | 0 => 0 | 51 => 141 | 53 => 101 | 4 => 4 | 183 => 146 | 182 => 145 | 131 => 115 | 5 => 5 | 9 => 9 | 218 => 171 | 222 => 99 | 228 => 180 | 229 => 53 | n => n, fun | n => n⟩
theorem Tryz.lays189 : Go.Proofs.Lays.n189 Tryz.prog Tryz.lays189_ren := {
 mixed := by kernel_rfl
 f125 := Tryz.func109.trans (congrArg some (by kernel_rfl))
 f128 := Tryz.func129.trans (congrArg some (by kernel_rfl))
 f129 := Tryz.func104.trans (congrArg some (by kernel_rfl))
 f189 := Tryz.func100.trans (congrArg some (by kernel_rfl))
 f215 := Tryz.func141.trans (congrArg some (by kernel_rfl))
 f216 := Tryz.func118.trans (congrArg some (by kernel_rfl))
 f257 := Tryz.func117.trans (congrArg some (by kernel_rfl))
 f294 := Tryz.func133.trans (congrArg some (by kernel_rfl))
 f295 := Tryz.func134.trans (congrArg some (by kernel_rfl))
 f296 := Tryz.func135.trans (congrArg some (by kernel_rfl))
 f297 := Tryz.func136.trans (congrArg some (by kernel_rfl))
 f298 := Tryz.func137.trans (congrArg some (by kernel_rfl))
 f299 := Tryz.func138.trans (congrArg some (by kernel_rfl))
 f300 := Tryz.func139.trans (congrArg some (by kernel_rfl))
 f301 := Tryz.func140.trans (congrArg some (by kernel_rfl))
 f328 := Tryz.func149.trans (congrArg some (by kernel_rfl))
 f329 := Tryz.func145.trans (congrArg some (by kernel_rfl))
 f330 := Tryz.func146.trans (congrArg some (by kernel_rfl))
 f331 := Tryz.func150.trans (congrArg some (by kernel_rfl))
 f332 := Tryz.func151.trans (congrArg some (by kernel_rfl))
 f343 := Tryz.func153.trans (congrArg some (by kernel_rfl))
 t0 := Tryz.underlying0
 a0 := Tryz.isAgg0
 z0 := Tryz.sizeOf0
 v0 := Tryz.zeroValue0
 t3 := Tryz.underlying3
 a3 := Tryz.isAgg3
 z3 := Tryz.sizeOf3
 v3 := Tryz.zeroValue3
 t4 := Tryz.underlying4
 a4 := Tryz.isAgg4
 z4 := Tryz.sizeOf4
 v4 := Tryz.zeroValue4
 t5 := Tryz.underlying5
 a5 := Tryz.isAgg5
 z5 := Tryz.sizeOf5
 v5 := Tryz.zeroValue5
 t9 := Tryz.underlying9
 a9 := Tryz.isAgg9
 z9 := Tryz.sizeOf9
 v9 := Tryz.zeroValue9
 t28 := Tryz.underlying46
 a28 := Tryz.isAgg46
 z28 := Tryz.sizeOf46
 v28 := Tryz.zeroValue46
 t46 := Tryz.underlying102
 a46 := Tryz.isAgg102
 z46 := Tryz.sizeOf102
 v46 := Tryz.zeroValue102
 t51 := Tryz.underlying141
 a51 := Tryz.isAgg141
 z51 := Tryz.sizeOf141
 v51 := Tryz.zeroValue141
 t53 := Tryz.underlying101
 a53 := Tryz.isAgg101
 z53 := Tryz.sizeOf101
 v53 := Tryz.zeroValue101
 t131 := Tryz.underlying115
 a131 := Tryz.isAgg115
 z131 := Tryz.sizeOf115
 v131 := Tryz.zeroValue115
 t182 := Tryz.underlying145
 a182 := Tryz.isAgg145
 z182 := Tryz.sizeOf145
 v182 := Tryz.zeroValue145
 t183 := Tryz.underlying146
 a183 := Tryz.isAgg146
 z183 := Tryz.sizeOf146
 v183 := Tryz.zeroValue146
 t218 := Tryz.underlying171
 a218 := Tryz.isAgg171
 z218 := Tryz.sizeOf171
 v218 := Tryz.zeroValue171
 t222 := Tryz.underlying99
 a222 := Tryz.isAgg99
 z222 := Tryz.sizeOf99
 v222 := Tryz.zeroValue99
 t228 := Tryz.underlying180
 a228 := Tryz.isAgg180
 z228 := Tryz.sizeOf180
 v228 := Tryz.zeroValue180
 t229 := Tryz.underlying53
 a229 := Tryz.isAgg53
 z229 := Tryz.sizeOf53
 v229 := Tryz.zeroValue53 }
open Go.Sort Go.RowKit in
theorem Tryz.slices_Sort_int (blk off cap : Nat) (zs : List Int) (w : World) (hH : Holds (Value.int .i64) w blk off zs.toArray) (hblk : blk < w.heap.size) (hsz : zs.length < 4611686018427387904) :
  Calls Tryz.prog 100 #[.slice (some ⟨blk, off, none⟩) zs.length cap] w fun e w' =>
   e = .returned (.tuple #[]) ∧ ∃ n os, w' = grow (putRow (Value.int .i64) (Sort.ahead w n) blk off (zs.mergeSort fun x y => decide (x ≤ y)).toArray) os := Any.slices_Sort_int Tryz.lays189 blk off cap zs w hH hblk hsz
def Tryz.lays190_ren : Go.Shelf.Ren := ⟨fun | 190 => 84 | 125 => 109 | 258 => 108 | 128 => 129 | 129 => 104 | 302 => 121 | 303 => 122 | 304 => 123 | 305 => 124 | 306 => 125 | 307 => 126 | 308 => 110 | 309 => 127 | 310 => 128 | 333 => 144 | 329 => 145 | 330 => 146 | 334 => 147 | 335 => 148 | 336 => 130 | 344 => 152 | n => n, fun | 31 => 59 | 9 => 9 | 3 => 3 | 46 => 102 | 0 => 0 | 51 => 141 | 53 => 101 | 4 => 4 | 183 => 146 | 182 => 145 | 131 => 115 | 5 => 5 | 218 => 171 | 222 => 99 | 228 => 180 | 229 => 53 | n => n, fun | n => n⟩
theorem Tryz.lays190 : Go.Proofs.Lays.n190 Tryz.prog Tryz.lays190_ren := {
 mixed := by kernel_rfl
 f125 := Tryz.func109.trans (congrArg some (by kernel_rfl))
 f128 := Tryz.func129.trans (congrArg some (by kernel_rfl))
 f129 := Tryz.func104.trans (congrArg some (by kernel_rfl))
 f190 := Tryz.func84.trans (congrArg some (by kernel_rfl))
 f258 := Tryz.func108.trans (congrArg some (by kernel_rfl))
 f302 := Tryz.func121.trans (congrArg some (by kernel_rfl))
 f303 := Tryz.func122.trans (congrArg some (by kernel_rfl))
 f304 := Tryz.func123.trans (congrArg some (by kernel_rfl))
 f305 := Tryz.func124.trans (congrArg some (by kernel_rfl))
 f306 := Tryz.func125.trans (congrArg some (by kernel_rfl))
 f307 := Tryz.func126.trans (congrArg some (by kernel_rfl))
 f308 := Tryz.func110.trans (congrArg some (by kernel_rfl))
 f309 := Tryz.func127.trans (congrArg some (by kernel_rfl))
 f310 := Tryz.func128.trans (congrArg some (by kernel_rfl))
 f329 := Tryz.func145.trans (congrArg some (by kernel_rfl))
 f330 := Tryz.func146.trans (congrArg some (by kernel_rfl))
 f333 := Tryz.func144.trans (congrArg some (by kernel_rfl))
 f334 := Tryz.func147.trans (congrArg some (by kernel_rfl))
 f335 := Tryz.func148.trans (congrArg some (by kernel_rfl))
 f336 := Tryz.func130.trans (congrArg some (by kernel_rfl))
 f344 := Tryz.func152.trans (congrArg some (by kernel_rfl))
 t0 := Tryz.underlying0
 a0 := Tryz.isAgg0
 z0 := Tryz.sizeOf0
 v0 := Tryz.zeroValue0
 t3 := Tryz.underlying3
 a3 := Tryz.isAgg3
 z3 := Tryz.sizeOf3
 v3 := Tryz.zeroValue3
 t4 := Tryz.underlying4
 a4 := Tryz.isAgg4
 z4 := Tryz.sizeOf4
 v4 := Tryz.zeroValue4
 t5 := Tryz.underlying5
 a5 := Tryz.isAgg5
 z5 := Tryz.sizeOf5
 v5 := Tryz.zeroValue5
 t9 := Tryz.underlying9
 a9 := Tryz.isAgg9
 z9 := Tryz.sizeOf9
 v9 := Tryz.zeroValue9
 t31 := Tryz.underlying59
 a31 := Tryz.isAgg59
 z31 := Tryz.sizeOf59
 v31 := Tryz.zeroValue59
 t46 := Tryz.underlying102
 a46 := Tryz.isAgg102
 z46 := Tryz.sizeOf102
 v46 := Tryz.zeroValue102
 t51 := Tryz.underlying141
 a51 := Tryz.isAgg141
 z51 := Tryz.sizeOf141
 v51 := Tryz.zeroValue141
 t53 := Tryz.underlying101
 a53 := Tryz.isAgg101
 z53 := Tryz.sizeOf101
 v53 := Tryz.zeroValue101
 t131 := Tryz.underlying115
 a131 := Tryz.isAgg115
 z131 := Tryz.sizeOf115
 v131 := Tryz.zeroValue115
 t182 := Tryz.underlying145
 a182 := Tryz.isAgg145
 z182 := Tryz.sizeOf145
 v182 := Tryz.zeroValue145
 t183 := Tryz.underlying146
 a183 := Tryz.isAgg146
 z183 := Tryz.sizeOf146
 v183 := Tryz.zeroValue146
 t218 := Tryz.underlying171
 a218 := Tryz.isAgg171
 z218 := Tryz.sizeOf171
 v218 := Tryz.zeroValue171
 t222 := Tryz.underlying99
 a222 := Tryz.isAgg99
 z222 := Tryz.sizeOf99
 v222 := Tryz.zeroValue99
 t228 := Tryz.underlying180
 a228 := Tryz.isAgg180
 z228 := Tryz.sizeOf180
 v228 := Tryz.zeroValue180
 t229 := Tryz.underlying53
 a229 := Tryz.isAgg53
 z229 := Tryz.sizeOf53
 v229 := Tryz.zeroValue53 }
open Go.Sort Go.RowKit in
theorem Tryz.slices_Sort_string (blk off cap : Nat) (ss : List (List UInt8)) (w : World) (hH : Holds encStr w blk off ss.toArray) (hblk : blk < w.heap.size) (hsz : ss.length < 4611686018427387904) :
  Calls Tryz.prog 84 #[.slice (some ⟨blk, off, none⟩) ss.length cap] w fun e w' =>
   e = .returned (.tuple #[]) ∧ ∃ n os, w' = grow (putRow encStr (Sort.ahead w n) blk off (ss.mergeSort fun x y => decide (x ≤ y)).toArray) os := Any.slices_Sort_string Tryz.lays190 blk off cap ss w hH hblk hsz
def Tryz.lays212_ren : Go.Shelf.Ren := ⟨fun | 212 => 116 | 263 => 131 | 264 => 132 | n => n, fun | 46 => 102 | 51 => 141 | 146 => 152 | 53 => 101 | 148 => 154 | n => n, fun | n => n⟩
theorem Tryz.lays212 : Go.Proofs.Lays.n212 Tryz.prog Tryz.lays212_ren := {
 mixed := by kernel_rfl
 f212 := Tryz.func116.trans (congrArg some (by kernel_rfl))
 f263 := Tryz.func131.trans (congrArg some (by kernel_rfl))
 f264 := Tryz.func132.trans (congrArg some (by kernel_rfl))
 t46 := Tryz.underlying102
 a46 := Tryz.isAgg102
 z46 := Tryz.sizeOf102
 v46 := Tryz.zeroValue102
 t51 := Tryz.underlying141
 a51 := Tryz.isAgg141
 z51 := Tryz.sizeOf141
 v51 := Tryz.zeroValue141
 t53 := Tryz.underlying101
 a53 := Tryz.isAgg101
 z53 := Tryz.sizeOf101
 v53 := Tryz.zeroValue101
 t146 := Tryz.underlying152
 a146 := Tryz.isAgg152
 z146 := Tryz.sizeOf152
 v146 := Tryz.zeroValue152
 t148 := Tryz.underlying154
 a148 := Tryz.isAgg154
 z148 := Tryz.sizeOf154
 v148 := Tryz.zeroValue154 }
open Go.RowKit Go.Lib in
theorem Tryz.bits_Mul (x y : Nat) (hx : x < 18446744073709551616) (hy : y < 18446744073709551616) (w : World) :
  Calls Tryz.prog 116 #[.int .u64 x, .int .u64 y] w fun e w' => e = .returned (.tuple #[.int .u64 ((x * y / 18446744073709551616 : Nat) : Int), .int .u64 ((x * y % 18446744073709551616 : Nat) : Int)]) ∧ w' = w := Any.bits_Mul Tryz.lays212 x y hx hy w
def Tryz.laysNm220_ren : Go.Shelf.Ren := ⟨fun | 20 => 101 | n => n, fun | 22 => 46 | 3 => 3 | 4 => 4 | 0 => 0 | n => n, fun | n => n⟩
theorem Tryz.laysNm220 : Go.Proofs.Lays2.n20 Tryz.prog Tryz.laysNm220_ren := {
 mixed := by kernel_rfl
 f20 := Tryz.func101.trans (congrArg some (by kernel_rfl))
 t0 := Tryz.underlying0
 a0 := Tryz.isAgg0
 z0 := Tryz.sizeOf0
 v0 := Tryz.zeroValue0
 t3 := Tryz.underlying3
 a3 := Tryz.isAgg3
 z3 := Tryz.sizeOf3
 v3 := Tryz.zeroValue3
 t4 := Tryz.underlying4
 a4 := Tryz.isAgg4
 z4 := Tryz.sizeOf4
 v4 := Tryz.zeroValue4
 t22 := Tryz.underlying46
 a22 := Tryz.isAgg46
 z22 := Tryz.sizeOf46
 v22 := Tryz.zeroValue46
 i3 := by kernel_rfl }
open Go.RowKit Go.Lib Go.Sort in
theorem Tryz.slices_Compact_int (blk off cap : Nat) (zs : List Int) (w : World) (hH : Holds (Value.int .i64) w blk off zs.toArray) (hsz : zs.length ≤ 9223372036854775807) (hcap : zs.length ≤ cap) :
  Calls Tryz.prog 101 #[.slice (some ⟨blk, off, none⟩) zs.length cap] w fun e w' => e = .returned (.slice (some ⟨blk, off, none⟩) (Lib.compact zs).length cap) ∧ ∃ q, w' = putRow (Value.int .i64) (Sort.ahead w q) blk off (Lib.compact zs ++ List.replicate (zs.length - (Lib.compact zs).length) 0).toArray := Any.slices_Compact_int Tryz.laysNm220 blk off cap zs w hH hsz hcap
def Tryz.lays194_ren : Go.Shelf.Ren := ⟨fun | 194 => 85 | n => n, fun | 31 => 59 | 9 => 9 | 3 => 3 | 4 => 4 | 0 => 0 | n => n, fun | n => n⟩
theorem Tryz.lays194 : Go.Proofs.Lays.n194 Tryz.prog Tryz.lays194_ren := {
 mixed := by kernel_rfl
 f194 := Tryz.func85.trans (congrArg some (by kernel_rfl))
 t0 := Tryz.underlying0
 a0 := Tryz.isAgg0
 z0 := Tryz.sizeOf0
 v0 := Tryz.zeroValue0
 t3 := Tryz.underlying3
 a3 := Tryz.isAgg3
 z3 := Tryz.sizeOf3
 v3 := Tryz.zeroValue3
 t4 := Tryz.underlying4
 a4 := Tryz.isAgg4
 z4 := Tryz.sizeOf4
 v4 := Tryz.zeroValue4
 t9 := Tryz.underlying9
 a9 := Tryz.isAgg9
 z9 := Tryz.sizeOf9
 v9 := Tryz.zeroValue9
 t31 := Tryz.underlying59
 a31 := Tryz.isAgg59
 z31 := Tryz.sizeOf59
 v31 := Tryz.zeroValue59 }
open Go.RowKit Go.Lib Go.Sort in
theorem Tryz.slices_Compact_string (blk off cap : Nat) (zs : List (List UInt8)) (w : World) (hH : Holds encStr w blk off zs.toArray) (hsz : zs.length ≤ 9223372036854775807) (hcap : zs.length ≤ cap) :
  Calls Tryz.prog 85 #[.slice (some ⟨blk, off, none⟩) zs.length cap] w fun e w' => e = .returned (.slice (some ⟨blk, off, none⟩) (Lib.compact zs).length cap) ∧ ∃ q, w' = putRow encStr (Sort.ahead w q) blk off (Lib.compact zs ++ List.replicate (zs.length - (Lib.compact zs).length) []).toArray := Any.slices_Compact_string Tryz.lays194 blk off cap zs w hH hsz hcap
end Go.Proofs
