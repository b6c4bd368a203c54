/- Lists whose slices are the call's own: such a list is made of one whose slices are nil, one slice is taken out and put back, all slices are frozen. No condition. -/
import Derived.Test.YtmnjmdajgilhiaaDoorRg6
set_option linter.unusedVariables false
set_option linter.unusedSimpArgs false
namespace Go.Proofs.YtmnjmdajgilhiaaDoor.Ax
open Go Go.RowKit Go.Proofs.YtmnjmdajgilhiaaDoor.Vc

theorem ATr.here {i o e : Nat} {Kh : Nat → Prop} {K : Prop} (h : Kh e) : ATr (some (i, o, e)) i o Kh K := ⟨fun e' he => by injection he with he; injection he with _ he; injection he with _ he; subst he; exact h, fun hno => (hno e rfl).elim⟩
theorem ATs.here {i o : Nat} {K : Prop} (h : K) : ATs (i = i ∧ o = o) K := ⟨⟨rfl, rfl⟩, h⟩
/-- another way to tell the same state -/
def Gh (n : Nat) (H : AHeap) (n' : Nat) (H' : AHeap) : Prop :=
  ∀ (G : Glob) (w₀ : World) (M₀ F₀ : Nat → Prop) (σ : Nat → Loc) (F : Nat → Prop) (w : World), St G w₀ M₀ F₀ n σ F H w → ∃ σ' F', St G w₀ M₀ F₀ n' σ' F' H' w ∧ Ext n σ F w n' σ' F' w
theorem Gh.refl (n : Nat) (H : AHeap) : Gh n H n H := fun _ _ _ _ σ F w st => ⟨σ, F, st, .refl _ _ _ _⟩
theorem Gh.trans {n n' n'' : Nat} {H H' H'' : AHeap} (h : Gh n H n' H') (k : Gh n' H' n'' H'') : Gh n H n'' H'' := fun G w₀ M₀ F₀ σ F w st => by
  obtain ⟨σ1, F1, s1, x1⟩ := h G w₀ M₀ F₀ σ F w st
  obtain ⟨σ2, F2, s2, x2⟩ := k G w₀ M₀ F₀ σ1 F1 w s1
  exact ⟨σ2, F2, s2, x1.trans x2⟩
theorem AFn.gh {P : Program} {G : Glob} {f : FuncId} {args : List AV} {n n' : Nat} {H H' : AHeap} {R R' : AV → Nat → AHeap → Prop} (g : Gh n H n' H') (h : AFn P G f args n' H' R') (k : ∀ a n1 H1, R' a n1 H1 → ∃ n2 H2, Gh n1 H1 n2 H2 ∧ R a n2 H2) : AFn P G f args n H R := by
  intro w σ F vs st r
  obtain ⟨σ1, F1, s1, x1⟩ := g G w _ _ σ F w st
  refine (h w σ1 F1 vs s1.start (r.mono x1)).mono fun v w' ⟨a, n2, σ2, F2, H2, hR, s2, x2, ra⟩ => ?_
  obtain ⟨n3, H3, g3, hR3⟩ := k a n2 H2 hR
  obtain ⟨σ3, F3, s3, x3⟩ := g3 G w _ _ σ2 F2 w' (s1.back s2)
  exact ⟨a, n3, σ3, F3, H3, hR3, s3, (x1.trans x2).trans x3, ra.mono x3⟩
section
variable {G : Glob} {w₀ : World} {M₀ F₀ : Nat → Prop} {n : Nat} {σ : Nat → Loc} {F : Nat → Prop} {H : AHeap} {w : World}
theorem St.regroup (st : St G w₀ M₀ F₀ n σ F H w) {n' : Nat} {σ' : Nat → Loc} {F' : Nat → Prop} {H' : AHeap} (hn : n ≤ n') (hσ : ∀ k, k < n → σ' k = σ k) (hF : ∀ b, F b → F' b)
    (hF' : ∀ b, F' b → F b ∨ ∃ e c, look H e = some c ∧ c.own = true ∧ Occ w (σ e) c b) (hlab : ∀ k b, look H' k = some b → k < n')
    (hocc : ∀ k b g, look H' k = some b → b.own = true → Occ w (σ' k) b g → ¬ F' g ∧ ∃ e c, look H e = some c ∧ c.own = true ∧ Occ w (σ e) c g)
    (hinj : ∀ k k' b b' g, look H' k = some b → look H' k' = some b' → b.own = true → b'.own = true → Occ w (σ' k) b g → Occ w (σ' k') b' g → k = k')
    (hblk : Ext n σ F w n' σ' F' w → ∀ k b, look H' k = some b → BRep n' σ' F' w (σ' k) b) : St G w₀ M₀ F₀ n' σ' F' H' w ∧ Ext n σ F w n' σ' F' w := by
  have hE : Ext n σ F w n' σ' F' w := ⟨hn, hσ, fun b hb => ⟨hF b hb, rfl⟩, Nat.le_refl _⟩
  refine ⟨⟨st.glob, st.chg, fun b hb => ?_, hlab, fun k b g h1 h2 h3 => ?_, hinj, hblk hE⟩, hE⟩
  · rcases hF' b hb with h | ⟨e, c, h1, h2, h3⟩
    · exact st.fsub b h
    · obtain ⟨_, _, m3, m4⟩ := st.mu e c b h1 h2 h3
      exact ⟨m3, m4.elim (fun h => .inr (.inr h)) fun h => .inr (.inl h)⟩
  · obtain ⟨nf, e, c, h4, h5, h6⟩ := hocc k b g h1 h2 h3
    obtain ⟨_, m2, m3, m4⟩ := st.mu e c g h4 h5 h6
    exact ⟨nf, m2, m3, m4⟩
/-- one label's block told in another way -/
theorem St.retell (st : St G w₀ M₀ F₀ n σ F H w) {F' : Nat → Prop} {ell : Nat} {blk blk' : ABlk} (hk : look H ell = some blk) (hm : blk.own = true) (hF : ∀ b, F b → F' b) (hF' : ∀ b, F' b → F b ∨ (Occ w (σ ell) blk b ∧ ∀ g, Occ w (σ ell) blk' g → g ≠ b))
    (ho : ∀ g, Occ w (σ ell) blk' g → Occ w (σ ell) blk g) (hB : Ext n σ F w n σ F' w → BRep n σ F' w (σ ell) blk') : St G w₀ M₀ F₀ n σ F' (setH H ell blk') w ∧ Ext n σ F w n σ F' w := by
  refine st.regroup (Nat.le_refl _) (fun _ _ => rfl) hF (fun b hb => (hF' b hb).imp id fun h => ⟨ell, blk, hk, hm, h.1⟩) (fun k b h => ?_) (fun k b g h h1 h2 => ?_) (fun k k' b b' g h h' m m' g1 g2 => ?_) fun hE k b h => ?_
  · rw [look_setH hk] at h
    split at h
    · rename_i e; subst e; exact st.lab _ _ hk
    · exact st.lab k b h
  · rw [look_setH hk] at h
    split at h
    · rename_i e
      subst e
      injection h with h
      subst h
      refine ⟨fun hf => ?_, _, _, hk, hm, ho g h2⟩
      rcases hF' g hf with hf | hf
      · exact (st.mu _ _ g hk hm (ho g h2)).1 hf
      · exact hf.2 g h2 rfl
    · rename_i e
      refine ⟨fun hf => ?_, k, b, h, h1, h2⟩
      rcases hF' g hf with hf | hf
      · exact (st.mu _ _ g h h1 h2).1 hf
      · exact e (st.inj k ell b blk g h hk h1 hm h2 hf.1)
  · have key : ∀ k b, look (setH H ell blk') k = some b → b.own = true → Occ w (σ k) b g → ∃ c, look H k = some c ∧ c.own = true ∧ Occ w (σ k) c g := by
      intro k b h0 m g1
      rw [look_setH hk] at h0
      split at h0
      · rename_i e; subst e; injection h0 with h0; subst h0; exact ⟨_, hk, hm, ho g g1⟩
      · exact ⟨_, h0, m, g1⟩
    obtain ⟨c, a1, a2, a3⟩ := key k b h m g1
    obtain ⟨c', b1, b2, b3⟩ := key k' b' h' m' g2
    exact st.inj k k' c c' g a1 b1 a2 b2 a3 b3
  · rw [look_setH hk] at h
    split at h
    · rename_i e; subst e; injection h with h; subst h; exact hB hE
    · exact (st.blk k b h).mono hE fun _ _ _ => rfl

/-! a list of nil slices as a list whose slices are the call's own -/
def tvOf (T s : Nat) : FV → TV
  | .v (.slice none 0 0) => .n T s []
  | x => .f x
def TV.fz : TV → FV
  | .f x => x
  | .n _ s l => .lst s l
theorem tvOf_cases (T s : Nat) (x : FV) : (x = .v (.slice none 0 0) ∧ tvOf T s x = .n T s []) ∨ tvOf T s x = .f x := by
  unfold tvOf
  split
  · exact .inl ⟨rfl, rfl⟩
  · exact .inr rfl
theorem getElem?_map2 {α β : Type} {f : α → β} {l : List (List α)} {i j : Nat} {row : List β} {b : β} (h : (l.map fun r => r.map f)[i]? = some row) (k : row[j]? = some b) : ∃ r a, l[i]? = some r ∧ r[j]? = some a ∧ f a = b := by
  rw [List.getElem?_map] at h
  cases hr : l[i]? with
  | none => rw [hr] at h; cases h
  | some r =>
    rw [hr] at h
    injection h with h
    subst h
    rw [List.getElem?_map] at k
    cases ha : r[j]? with
    | none => rw [ha] at k; cases k
    | some a => rw [ha] at k; injection k with k; exact ⟨r, a, rfl, ha, k⟩
theorem len_map2 {α β : Type} {f : α → β} {l : List (List α)} {sz : Nat} (h : ∀ row ∈ l, row.length = sz) : ∀ row ∈ l.map fun r => r.map f, row.length = sz := fun row hr => by
  obtain ⟨r, h1, rfl⟩ := List.mem_map.1 hr
  rw [List.length_map]; exact h r h1
theorem Gh.tree {ell t sz : Nat} {l : List (List FV)} (T s : Nat) (hk : look H ell = some (.rows t sz l)) : Gh n H n (setH H ell (.tree t sz (l.map fun r => r.map (tvOf T s)) none)) := by
  intro G w₀ M₀ F₀ σ F w st
  obtain ⟨h1, h2, xs, hO, hR⟩ := st.blk _ _ hk
  have noN : ∀ i j g, ¬ NAt w (σ ell) sz (l.map fun r => r.map (tvOf T s)) i j g := by
    rintro i j g ⟨b, row, t', s', r, m, c, n1, n2, n3, n4, n5⟩
    obtain ⟨r0, a, e1, e2, e3⟩ := getElem?_map2 n2 n3
    rcases tvOf_cases T s a with ⟨rfl, _⟩ | e
    · have hrl := hR.1 r0 (List.mem_of_getElem? e1)
      have hil := (List.getElem?_eq_some_iff.1 e1).1
      have hjl := (List.getElem?_eq_some_iff.1 e2).1
      have hlt : i * sz + j < xs.length := by
        have : (i + 1) * sz ≤ l.length * sz := Nat.mul_le_mul_right _ hil
        rw [Nat.add_mul, Nat.one_mul] at this
        rw [hR.2.1]; omega
      have hx := List.getElem?_eq_getElem hlt
      obtain ⟨b', hb', hc⟩ := own_cell hO e1 hrl e2 hR.2.1 hx
      rw [n1] at hb'
      injection hb' with hb'
      subst hb'
      have hf := hR.2.2.2 i j r0 _ _ e1 e2 hx
      rw [hc] at n4
      injection n4 with n4
      rw [n4] at hf
      cases hf
    · rw [e] at e3; cases e3
  have ho : ∀ g, Occ w (σ ell) (.tree t sz (l.map fun r => r.map (tvOf T s)) none) g → (σ ell).b = some g := fun g h => h.elim id fun ⟨i, j, h⟩ => (noN i j g h).elim
  obtain ⟨s1, x1⟩ := st.retell (F' := F) (blk' := .tree t sz (l.map fun r => r.map (tvOf T s)) none) hk rfl (fun _ h => h) (fun _ h => .inl h) (fun g h => .inl (ho g h)) fun hE => by
    refine ⟨h1, by rw [List.length_map]; exact h2, xs, by rw [List.length_map]; exact hO, ⟨len_map2 hR.1, by rw [List.length_map]; exact hR.2.1, hR.2.2.1, fun i j row a v hi hj hv => ?_⟩, ⟨fun i j i' j' g h => (noN i j g h).elim, fun i j g h => (noN i j g h).elim⟩, fun _ _ _ h => by cases h⟩
    obtain ⟨r0, a0, e1, e2, rfl⟩ := getElem?_map2 hi hj
    have hf := hR.2.2.2 i j r0 a0 v e1 e2 hv
    rcases tvOf_cases T s a0 with ⟨rfl, e⟩ | e
    · rw [e]
      cases hf
      exact ⟨none, 0, rfl, .inl ⟨rfl, rfl⟩⟩
    · rw [e]; exact hf
  exact ⟨σ, F, s1, x1⟩

/-! all slices frozen -/
theorem frep_own {t sz c : Nat} {oa : Option Addr} {l : List (List FV)} {ys : List Value} {F' : Nat → Prop} (hO : Vc.Own w 0 t sz oa l.length c ys) (hR : RepR F w sz l ys) (hF : ∀ b, F b → F' b) (hg : ∀ g, oa = some ⟨g, 0, none⟩ → F' g) : FRep F' w (.lst sz l) (.slice oa l.length c) := by
  have hb : BRep 0 (fun _ => ⟨oa.map (·.block), l.length, c, sz⟩) F w ⟨oa.map (·.block), l.length, c, sz⟩ (.rows t sz l) := ⟨rfl, rfl, ys, by
    have : (Loc.mk (oa.map (·.block)) l.length c sz).oa = oa := own_oa hO
    rw [this]; exact hO, hR⟩
  have := fz_of_rows hb hF fun g hgb => by
    refine hg g ?_
    rcases hO.2 with ⟨hv, _⟩ | ⟨g', cap, cur, hv, _⟩
    · injection hv with e _ _; subst e; cases hgb
    · injection hv with e _ _; subst e; simp at hgb; rw [hgb]
  have h3 := this.2.2.1
  have e : (Loc.mk (oa.map (·.block)) l.length c sz).oa = oa := own_oa hO
  rw [e] at h3
  exact h3
theorem nat_of {ell t sz : Nat} {l : List (List TV)} {c i j t' s' : Nat} {r : List (List FV)} {row : List TV} {xs : List Value} {g m cc : Nat} (hO : Vc.Own w 0 t sz (σ ell).oa l.length c xs) (hT : RepT F w sz l xs) (hi : l[i]? = some row) (hj : row[j]? = some (.n t' s' r)) (hv : xs[i * sz + j]? = some (.slice (some ⟨g, 0, none⟩) m cc)) (hc : 0 < cc) :
    NAt w (σ ell) sz l i j g := by
  obtain ⟨b, hb, hcell⟩ := own_cell hO hi (hT.1 row (List.mem_of_getElem? hi)) hj hT.2.1 hv
  exact ⟨b, row, t', s', r, m, cc, hb, hi, hj, hcell, hc⟩
theorem own_some {t sz c : Nat} {oa : Option Addr} {m : Nat} {ys : List Value} (hO : Vc.Own w 0 t sz oa m c ys) (hc : 0 < c) : ∃ g, oa = some ⟨g, 0, none⟩ := by
  rcases hO.2 with ⟨hv, _⟩ | ⟨g', cap, cur, hv, _⟩
  · injection hv with _ _ e; omega
  · injection hv with e _ _; exact ⟨g', e⟩
theorem Gh.freeze {ell t sz : Nat} {l : List (List TV)} (hk : look H ell = some (.tree t sz l none)) : Gh n H n (setH H ell (.rows t sz (l.map fun r => r.map TV.fz))) := by
  intro G w₀ M₀ F₀ σ F w st
  obtain ⟨h1, h2, xs, hO, hT, hS, _⟩ := st.blk _ _ hk
  obtain ⟨s1, x1⟩ := st.retell (F' := fun b => F b ∨ Nst w (σ ell) (.tree t sz l none) b) (blk' := .rows t sz (l.map fun r => r.map TV.fz)) hk rfl (fun _ h => .inl h)
    (fun b h => h.imp id fun h => ⟨.inr h, fun g hg e => by
      subst e
      obtain ⟨i, j, h⟩ := h
      exact hS.2 i j g h (hg.flat rfl)⟩) (fun g h => .inl (h.flat rfl)) fun hE => by
    refine ⟨h1, by rw [List.length_map]; exact h2, xs, by rw [List.length_map]; exact hO, len_map2 hT.1, by rw [List.length_map]; exact hT.2.1, hT.2.2.1, fun i j row a v hi hj hv => ?_⟩
    obtain ⟨r0, a0, e1, e2, rfl⟩ := getElem?_map2 hi hj
    have hf := hT.2.2.2 i j r0 a0 v e1 e2 hv
    cases a0 with
    | f x => exact FRep.mono hE.f hf
    | n t' s' r =>
      obtain ⟨oa, c, rfl, hf⟩ := hf
      rcases hf with ⟨rfl, rfl⟩ | ⟨ys, hc, hO', hR'⟩
      · exact lst_nil s' oa
      · refine frep_own hO' hR' (fun b hb => .inl hb) fun g hg => .inr ⟨i, j, ?_⟩
        subst hg
        exact nat_of hO hT e1 e2 hv hc
  exact ⟨σ, _, s1, x1⟩

/-! one slice taken out -/
theorem set2_get {α : Type} {l : List (List α)} {i j i2 j2 : Nat} {row row2 : List α} {x y : α} (hi : l[i]? = some row) (hj : j < row.length) (h : (l.set i (row.set j x))[i2]? = some row2) (k : row2[j2]? = some y) :
    (i2 = i ∧ j2 = j ∧ y = x) ∨ (¬ (i2 = i ∧ j2 = j) ∧ ∃ r, l[i2]? = some r ∧ r[j2]? = some y) := by
  have hil := (List.getElem?_eq_some_iff.1 hi).1
  by_cases e : i2 = i
  · subst e
    rw [List.getElem?_set_self hil] at h
    injection h with h
    subst h
    by_cases e2 : j2 = j
    · subst e2
      rw [List.getElem?_set_self hj] at k
      injection k with k
      exact .inl ⟨rfl, rfl, k.symm⟩
    · rw [List.getElem?_set_ne (fun h => e2 h.symm)] at k
      exact .inr ⟨fun h => e2 h.2, row, hi, k⟩
  · rw [List.getElem?_set_ne (fun h => e h.symm)] at h
    exact .inr ⟨fun h => e h.1, row2, h, k⟩
theorem set2_len {α : Type} {l : List (List α)} {i j sz : Nat} {row : List α} {x : α} (hi : l[i]? = some row) (h : ∀ r ∈ l, r.length = sz) : ∀ r ∈ l.set i (row.set j x), r.length = sz := fun r hr => by
  rcases List.mem_or_eq_of_mem_set hr with hr | rfl
  · exact h r hr
  · rw [List.length_set]; exact h row (List.mem_of_getElem? hi)
theorem Gh.unfold {ell t sz i j T s : Nat} {l : List (List TV)} {row : List TV} {r : List (List FV)} (hk : look H ell = some (.tree t sz l none)) (hi : l[i]? = some row) (hj : row[j]? = some (.n T s r)) :
    Gh n H (n + 1) ((n, .rows T s r) :: setH H ell (.tree t sz (l.set i (row.set j (.f .top))) (some (i, j, n)))) := by
  intro G w₀ M₀ F₀ σ F w st
  obtain ⟨h1, h2, xs, hO, hT, hS, _⟩ := st.blk _ _ hk
  have hrl := hT.1 row (List.mem_of_getElem? hi)
  have hil := (List.getElem?_eq_some_iff.1 hi).1
  have hjl := (List.getElem?_eq_some_iff.1 hj).1
  have hlt : i * sz + j < xs.length := by
    have : (i + 1) * sz ≤ l.length * sz := Nat.mul_le_mul_right _ hil
    rw [Nat.add_mul, Nat.one_mul] at this
    rw [hT.2.1]; omega
  have hx := List.getElem?_eq_getElem hlt
  obtain ⟨oa, c, ev, hf⟩ := hT.2.2.2 i j row _ _ hi hj hx
  have hell := st.lab _ _ hk
  -- the block of the slice that is taken out
  have hloc : ∃ L : Loc, L.n = r.length ∧ L.sz = s ∧ (∀ σ', BRep (n + 1) σ' F w L (.rows T s r)) ∧ (∀ g, L.b = some g → NAt w (σ ell) sz l i j g) ∧
      ∀ σ', σ' n = L → ARep (n + 1) σ' F w (.own n) xs[i * sz + j] := by
    rcases hf with ⟨rfl, rfl⟩ | ⟨ys, hc, hO', hR'⟩
    · refine ⟨⟨none, 0, 0, s⟩, rfl, rfl, fun σ' => ⟨rfl, rfl, [], Vc.Own.nil _ _ _ _, RepR.nil s⟩, (fun g h => by cases h), fun σ' hσ => ?_⟩
      rw [ev]
      exact .ownz n oa (by omega) (by rw [hσ]) (by rw [hσ])
    · obtain ⟨g, rfl⟩ := own_some hO' hc
      refine ⟨⟨some g, r.length, c, s⟩, rfl, rfl, fun σ' => ⟨rfl, rfl, ys, hO', hR'⟩, (fun g' h => ?_), fun σ' hσ => ?_⟩
      · injection h with h
        subst h
        rw [ev] at hx
        exact nat_of hO hT hi hj hx hc
      · rw [ev]
        have := ARep.own (n := n + 1) (σ := σ') (F := F) (w := w) n (by omega)
        rw [hσ] at this
        exact this
  obtain ⟨L, _, _, hB, hN, hA⟩ := hloc
  have nat : ∀ i2 j2 g, NAt w (σ ell) sz (l.set i (row.set j (.f .top))) i2 j2 g → NAt w (σ ell) sz l i2 j2 g ∧ ¬ (i2 = i ∧ j2 = j) := by
    rintro i2 j2 g ⟨b, row2, t', s', r2, m, c, n1, n2, n3, n4, n5⟩
    rcases set2_get hi hjl n2 n3 with ⟨_, _, e⟩ | ⟨hne, r3, e1, e2⟩
    · cases e
    · exact ⟨⟨b, r3, t', s', r2, m, c, n1, e1, e2, n4, n5⟩, hne⟩
  have occT : ∀ g, Occ w (σ ell) (.tree t sz (l.set i (row.set j (.f .top))) (some (i, j, n))) g → Occ w (σ ell) (.tree t sz l none) g ∧ ¬ NAt w (σ ell) sz l i j g := by
    rintro g (h | ⟨i2, j2, h⟩)
    · exact ⟨.inl h, fun hn => hS.2 i j g hn h⟩
    · obtain ⟨h0, hne⟩ := nat i2 j2 g h
      exact ⟨.inr ⟨i2, j2, h0⟩, fun hn => hne (hS.1 _ _ _ _ g h0 hn)⟩
  have hlook : ∀ {k b}, look ((n, .rows T s r) :: setH H ell (.tree t sz (l.set i (row.set j (.f .top))) (some (i, j, n)))) k = some b →
      (k = n ∧ b = .rows T s r) ∨ (k ≠ n ∧ k = ell ∧ b = .tree t sz (l.set i (row.set j (.f .top))) (some (i, j, n))) ∨ (k ≠ n ∧ k ≠ ell ∧ look H k = some b) := by
    intro k b h
    rw [look_cons] at h
    split at h
    · rename_i e; injection h with h; exact .inl ⟨e.symm, h.symm⟩
    · rename_i e
      rw [look_setH hk] at h
      split at h
      · rename_i e2; injection h with h; exact .inr (.inl ⟨fun h => e h.symm, e2, h.symm⟩)
      · rename_i e2; exact .inr (.inr ⟨fun h => e h.symm, e2, h⟩)
  obtain ⟨s1, x1⟩ := st.regroup (n' := n + 1) (σ' := updL σ n L) (F' := F) (H' := (n, .rows T s r) :: setH H ell (.tree t sz (l.set i (row.set j (.f .top))) (some (i, j, n)))) (by omega) (fun k hk => updL_ne (by omega)) (fun _ h => h) (fun _ h => .inl h)
    (fun k b h => by
      rcases hlook h with ⟨e, _⟩ | ⟨_, e, _⟩ | ⟨_, _, h⟩
      · omega
      · omega
      · have := st.lab k b h; omega)
    (fun k b g h m ho => by
      rcases hlook h with ⟨e, rfl⟩ | ⟨e0, e, rfl⟩ | ⟨e0, e, h⟩
      · subst e
        rw [updL_self] at ho
        have h3 := hN g (ho.flat rfl)
        have h4 : Occ w (σ ell) (.tree t sz l none) g := .inr ⟨i, j, h3⟩
        exact ⟨(st.mu _ _ g hk rfl h4).1, _, _, hk, rfl, h4⟩
      · subst e
        rw [updL_ne e0] at ho
        have h4 := (occT g ho).1
        exact ⟨(st.mu _ _ g hk rfl h4).1, _, _, hk, rfl, h4⟩
      · rw [updL_ne e0] at ho
        exact ⟨(st.mu _ _ g h m ho).1, _, _, h, m, ho⟩)
    (fun k k' b b' g h h' m m' ho ho' => by
      have cross : ∀ {k b}, look ((n, .rows T s r) :: setH H ell (.tree t sz (l.set i (row.set j (.f .top))) (some (i, j, n)))) k = some b → b.own = true → Occ w (updL σ n L k) b g → L.b = some g → k = n := by
        intro k b h m ho hL
        have h3 := hN g hL
        rcases hlook h with ⟨e, _⟩ | ⟨e0, e, rfl⟩ | ⟨e0, e, h⟩
        · exact e
        · subst e
          rw [updL_ne e0] at ho
          exact ((occT g ho).2 h3).elim
        · rw [updL_ne e0] at ho
          exact (e (st.inj k ell b _ g h hk m rfl ho (.inr ⟨i, j, h3⟩))).elim
      rcases hlook h with ⟨e, rfl⟩ | ⟨e0, e, rfl⟩ | ⟨e0, e, h0⟩
      · subst e
        rw [updL_self] at ho
        exact (cross h' m' ho' (ho.flat rfl)).symm
      · rcases hlook h' with ⟨e', rfl⟩ | ⟨e0', e', rfl⟩ | ⟨e0', e', h0'⟩
        · subst e'
          rw [updL_self] at ho'
          exact cross h m ho (ho'.flat rfl)
        · rw [e, e']
        · subst e
          rw [updL_ne e0] at ho
          rw [updL_ne e0'] at ho'
          exact st.inj _ _ _ _ g hk h0' rfl m' (occT g ho).1 ho'
      · rcases hlook h' with ⟨e', rfl⟩ | ⟨e0', e', rfl⟩ | ⟨e0', e', h0'⟩
        · subst e'
          rw [updL_self] at ho'
          exact cross h m ho (ho'.flat rfl)
        · subst e'
          rw [updL_ne e0] at ho
          rw [updL_ne e0'] at ho'
          exact st.inj _ _ _ _ g h0 hk m rfl ho (occT g ho').1
        · rw [updL_ne e0] at ho
          rw [updL_ne e0'] at ho'
          exact st.inj _ _ _ _ g h0 h0' m m' ho ho')
    (fun hE k b h => by
      rcases hlook h with ⟨e, rfl⟩ | ⟨e0, e, rfl⟩ | ⟨e0, e, h⟩
      · subst e; rw [updL_self]; exact hB _
      · subst e
        rw [updL_ne e0]
        refine ⟨h1, by rw [List.length_set]; exact h2, xs, by rw [List.length_set]; exact hO, ⟨set2_len hi hT.1, by rw [List.length_set]; exact hT.2.1, hT.2.2.1, fun i2 j2 row2 a v n1 n2 n3 => ?_⟩, ⟨fun a b c d g x y => hS.1 a b c d g (nat _ _ _ x).1 (nat _ _ _ y).1, fun a b g x => hS.2 a b g (nat _ _ _ x).1⟩, fun i2 j2 e2 he => ?_⟩
        · rcases set2_get hi hjl n1 n2 with ⟨_, _, e⟩ | ⟨_, r3, e1, e2⟩
          · subst e; exact FRep.top v
          · exact hT.2.2.2 i2 j2 r3 a v e1 e2 n3
        · injection he with he
          injection he with ee1 he
          injection he with ee2 ee3
          subst ee1; subst ee2; subst ee3
          exact ⟨by omega, by rw [List.length_set]; exact hil, by omega, ⟨_, List.getElem?_set_self hil, List.getElem?_set_self hjl⟩, _, hx, hA _ (updL_self _ _ _)⟩
      · rw [updL_ne e0]
        exact (st.blk k b h).mono hE fun _ _ _ => rfl)
  exact ⟨_, F, s1, x1⟩

/-! one slice put back -/
theorem Gh.fold {ell e t sz i j T s : Nat} {l : List (List TV)} {row : List TV} {r : List (List FV)} (hk : look H ell = some (.tree t sz l (some (i, j, e)))) (he : look H e = some (.rows T s r)) (hne : e ≠ ell) (hi : l[i]? = some row) :
    Gh n H n (setH (rmH H e) ell (.tree t sz (l.set i (row.set j (.n T s r))) none)) := by
  intro G w₀ M₀ F₀ σ F w st
  obtain ⟨h1, h2, xs, hO, hT, hS, hh⟩ := st.blk _ _ hk
  obtain ⟨_, hil, hjs, ⟨row', hi', hj⟩, v0, hv0, ra⟩ := hh _ _ _ rfl
  rw [hi] at hi'
  injection hi' with hi'
  subst hi'
  have hrl := hT.1 row (List.mem_of_getElem? hi)
  have hjl := (List.getElem?_eq_some_iff.1 hj).1
  obtain ⟨q1, q2, ys, hO', hR'⟩ := st.blk _ _ he
  obtain ⟨bo, hbo, hcell0⟩ := own_cell hO hi hrl hj hT.2.1 hv0
  have hv : ∃ oa c, v0 = .slice oa r.length c ∧ ((c = 0 ∧ r = []) ∨ ∃ ys, 0 < c ∧ Vc.Own w 0 T s oa r.length c ys ∧ RepR F w s r ys) ∧ ∀ g, oa = some ⟨g, 0, none⟩ → 0 < c → (σ e).b = some g := by
    cases ra with
    | ownz _ oa hl hn hc =>
      rw [hn] at q2
      have : r = [] := List.eq_nil_of_length_eq_zero q2.symm
      subst this
      exact ⟨oa, 0, rfl, .inl ⟨rfl, rfl⟩, fun g _ h => by omega⟩
    | own _ hl =>
      refine ⟨(σ e).oa, (σ e).c, by rw [q2], ?_, fun g hg _ => loc_oa hg⟩
      rcases Nat.eq_zero_or_pos (σ e).c with h0 | h0
      · have := (own_bound hO').1
        exact .inl ⟨h0, List.eq_nil_of_length_eq_zero (by omega)⟩
      · exact .inr ⟨ys, h0, hO', hR'⟩
  obtain ⟨oa, c, rfl, hv1, hv2⟩ := hv
  have nat : ∀ i2 j2 g, NAt w (σ ell) sz (l.set i (row.set j (.n T s r))) i2 j2 g → (i2 = i ∧ j2 = j ∧ (σ e).b = some g) ∨ (¬ (i2 = i ∧ j2 = j) ∧ NAt w (σ ell) sz l i2 j2 g) := by
    rintro i2 j2 g ⟨b, row2, t', s', r2, m, c2, n1, n2, n3, n4, n5⟩
    rcases set2_get hi hjl n2 n3 with ⟨e1, e2, e3⟩ | ⟨hne, r3, e1, e2⟩
    · subst e1; subst e2
      rw [hbo] at n1
      injection n1 with n1
      subst n1
      rw [hcell0] at n4
      injection n4 with n4
      injection n4 with n4 _ n6
      subst n6
      exact .inl ⟨rfl, rfl, hv2 g n4 n5⟩
    · exact .inr ⟨hne, b, r3, t', s', r2, m, c2, n1, e1, e2, n4, n5⟩
  have occE : ∀ {g}, (σ e).b = some g → Occ w (σ e) (.rows T s r) g := fun h => .inl h
  have noE : ∀ {g}, (σ e).b = some g → ¬ Occ w (σ ell) (.tree t sz l (some (i, j, e))) g := fun h ho => hne (st.inj e ell _ _ _ he hk rfl rfl (occE h) ho)
  have hk' : look (rmH H e) ell = some (.tree t sz l (some (i, j, e))) := by
    have : ∀ {H : AHeap} {b : ABlk}, look H ell = some b → look (rmH H e) ell = some b := by
      intro H
      induction H with
      | nil => intro b h; cases h
      | cons p q ih =>
        intro b h
        obtain ⟨x, bx⟩ := p
        rw [look_cons] at h
        simp only [rmH]
        cases hb : Nat.beq x e with
        | true =>
          have := Nat.eq_of_beq_eq_true hb
          rw [cond_true]
          rw [if_neg (by omega)] at h
          exact ih h
        | false =>
          rw [cond_false, look_cons]
          split at h
          · rename_i e1; rw [if_pos e1]; exact h
          · rename_i e1; rw [if_neg e1]; exact ih h
    exact this hk
  have hlook : ∀ {k b}, look (setH (rmH H e) ell (.tree t sz (l.set i (row.set j (.n T s r))) none)) k = some b →
      (k = ell ∧ b = .tree t sz (l.set i (row.set j (.n T s r))) none) ∨ (k ≠ ell ∧ k ≠ e ∧ look H k = some b) := by
    intro k b h
    rw [look_setH hk'] at h
    split at h
    · rename_i e2; injection h with h; exact .inl ⟨e2, h.symm⟩
    · rename_i e2; exact .inr ⟨e2, (look_rmH h).1, (look_rmH h).2⟩
  have occT : ∀ g, Occ w (σ ell) (.tree t sz (l.set i (row.set j (.n T s r))) none) g → Occ w (σ ell) (.tree t sz l (some (i, j, e))) g ∨ (σ e).b = some g := by
    rintro g (h | ⟨i2, j2, h⟩)
    · exact .inl (.inl h)
    · rcases nat i2 j2 g h with ⟨_, _, h⟩ | ⟨_, h⟩
      · exact .inr h
      · exact .inl (.inr ⟨i2, j2, h⟩)
  obtain ⟨s1, x1⟩ := st.regroup (n' := n) (σ' := σ) (F' := F) (H' := setH (rmH H e) ell (.tree t sz (l.set i (row.set j (.n T s r))) none)) (Nat.le_refl _) (fun _ _ => rfl) (fun _ h => h) (fun _ h => .inl h)
    (fun k b h => by
      rcases hlook h with ⟨rfl, _⟩ | ⟨_, _, h⟩
      · exact st.lab _ _ hk
      · exact st.lab k b h)
    (fun k b g h m ho => by
      rcases hlook h with ⟨rfl, rfl⟩ | ⟨_, _, h⟩
      · rcases occT g ho with h4 | h4
        · exact ⟨(st.mu _ _ g hk rfl h4).1, _, _, hk, rfl, h4⟩
        · exact ⟨(st.mu _ _ g he rfl (occE h4)).1, _, _, he, rfl, occE h4⟩
      · exact ⟨(st.mu _ _ g h m ho).1, _, _, h, m, ho⟩)
    (fun k k' b b' g h h' m m' ho ho' => by
      have cross : ∀ {k b}, k ≠ ell → k ≠ e → look H k = some b → b.own = true → Occ w (σ k) b g → Occ w (σ ell) (.tree t sz (l.set i (row.set j (.n T s r))) none) g → False := by
        intro k b e1 e2 h m ho hT
        rcases occT g hT with h4 | h4
        · exact e1 (st.inj k ell b _ g h hk m rfl ho h4)
        · exact e2 (st.inj k e b _ g h he m rfl ho (occE h4))
      rcases hlook h with ⟨e0, e1⟩ | ⟨e1, e2, h0⟩
      · subst e0; subst e1
        rcases hlook h' with ⟨e0, e1⟩ | ⟨e1', e2', h0'⟩
        · exact e0.symm
        · exact (cross e1' e2' h0' m' ho' ho).elim
      · rcases hlook h' with ⟨e0, e3⟩ | ⟨e1', e2', h0'⟩
        · subst e0; subst e3
          exact (cross e1 e2 h0 m ho ho').elim
        · exact st.inj k k' b b' g h0 h0' m m' ho ho')
    (fun hE k b h => by
      rcases hlook h with ⟨rfl, rfl⟩ | ⟨_, _, h⟩
      · refine ⟨h1, by rw [List.length_set]; exact h2, xs, by rw [List.length_set]; exact hO, ⟨set2_len hi hT.1, by rw [List.length_set]; exact hT.2.1, hT.2.2.1, fun i2 j2 row2 a v n1 n2 n3 => ?_⟩, ⟨fun a b c d g x y => ?_, fun a b g x hb => ?_⟩, fun _ _ _ h => by cases h⟩
        · rcases set2_get hi hjl n1 n2 with ⟨e1, e2, e3⟩ | ⟨_, r3, e1, e2⟩
          · subst e1; subst e2; subst e3
            rw [hv0] at n3
            injection n3 with n3
            subst n3
            exact ⟨oa, c, rfl, hv1⟩
          · exact hT.2.2.2 i2 j2 r3 a v e1 e2 n3
        · rcases nat a b g x with ⟨x1, x2, x3⟩ | ⟨_, x1⟩
          · rcases nat c d g y with ⟨y1, y2, _⟩ | ⟨_, y1⟩
            · exact ⟨x1.trans y1.symm, x2.trans y2.symm⟩
            · exact (noE x3 (.inr ⟨c, d, y1⟩)).elim
          · rcases nat c d g y with ⟨_, _, y3⟩ | ⟨_, y1⟩
            · exact (noE y3 (.inr ⟨a, b, x1⟩)).elim
            · exact hS.1 a b c d g x1 y1
        · rcases nat a b g x with ⟨_, _, x3⟩ | ⟨_, x1⟩
          · exact noE x3 (.inl hb)
          · exact hS.2 a b g x1 hb
      · exact (st.blk k b h).mono hE fun _ _ _ => rfl)
  exact ⟨σ, F, s1, x1⟩
end
end Go.Proofs.YtmnjmdajgilhiaaDoor.Ax
