/- Joined parts of the proof. Lists whose slices are the call's own: such a list is made of one whose slices are nil, one slice is taken out and put b -/
import Derived.Test.YtgfgndaoocfpdaaGreatDoorPk9
import Derived.Test.YtgfgndaoocfpdaaGreatDoorPk12
import Derived.Test.YtgfgndaoocfpdaaGreatDoorPk16
import Derived.Test.YtgfgndaoocfpdaaGreatDoorPk13
set_option linter.unusedVariables false
set_option linter.unusedSimpArgs false
set_option maxRecDepth 100000
set_option maxHeartbeats 16000000
namespace Go.Proofs.YtgfgndaoocfpdaaGreatDoor.Ax
open Go Go.RowKit Go.Proofs.YtgfgndaoocfpdaaGreatDoor.Vc
theorem ATr.here {i o e : Nat} {Kh : Nat → Prop} {K : Prop} (h : Kh e) : ATr (some (i, o, e)) i o Kh K := ⟨fun e' he => by injection he with he; injection he with _ he; injection he with _ he; subst he; exact h, fun hno => (hno e rfl).elim⟩
theorem ATs.here {i o : Nat} {K : Prop} (h : K) : ATs (i = i ∧ o = o) K := ⟨⟨rfl, rfl⟩, h⟩
def Gh (n : Nat) (H : AHeap) (n' : Nat) (H' : AHeap) : Prop :=
 ∀ (G : Glob) (w₀ : World) (M₀ F₀ : Nat → Prop) (σ : Nat → Loc) (F : Nat → Prop) (w : World), St G w₀ M₀ F₀ n σ F H w → ∃ σ' F', St G w₀ M₀ F₀ n' σ' F' H' w ∧ Ext n σ F w n' σ' F' w
theorem Gh.refl (n : Nat) (H : AHeap) : Gh n H n H := fun _ _ _ _ σ F w st => ⟨σ, F, st, .refl _ _ _ _⟩
theorem Gh.trans {n n' n'' : Nat} {H H' H'' : AHeap} (h : Gh n H n' H') (k : Gh n' H' n'' H'') : Gh n H n'' H'' := fun G w₀ M₀ F₀ σ F w st => by
 obtain ⟨σ1, F1, s1, x1⟩ := h G w₀ M₀ F₀ σ F w st
 obtain ⟨σ2, F2, s2, x2⟩ := k G w₀ M₀ F₀ σ1 F1 w s1
 exact ⟨σ2, F2, s2, x1.trans x2⟩
theorem AFn.gh {P : Program} {G : Glob} {f : FuncId} {args : List AV} {n n' : Nat} {H H' : AHeap} {R R' : AV → Nat → AHeap → Prop} (g : Gh n H n' H') (h : AFn P G f args n' H' R') (k : ∀ a n1 H1, R' a n1 H1 → ∃ n2 H2, Gh n1 H1 n2 H2 ∧ R a n2 H2) : AFn P G f args n H R := by
 intro w σ F vs st r
 obtain ⟨σ1, F1, s1, x1⟩ := g G w _ _ σ F w st
 refine (h w σ1 F1 vs s1.start (r.mono x1)).mono fun v w' ⟨a, n2, σ2, F2, H2, hR, s2, x2, ra⟩ => ?_
 obtain ⟨n3, H3, g3, hR3⟩ := k a n2 H2 hR
 obtain ⟨σ3, F3, s3, x3⟩ := g3 G w _ _ σ2 F2 w' (s1.back s2)
 exact ⟨a, n3, σ3, F3, H3, hR3, s3, (x1.trans x2).trans x3, ra.mono x3⟩
section
variable {G : Glob} {w₀ : World} {M₀ F₀ : Nat → Prop} {n : Nat} {σ : Nat → Loc} {F : Nat → Prop} {H : AHeap} {w : World}
theorem St.regroup (st : St G w₀ M₀ F₀ n σ F H w) {n' : Nat} {σ' : Nat → Loc} {F' : Nat → Prop} {H' : AHeap} (hn : n ≤ n') (hσ : ∀ k, k < n → σ' k = σ k) (hF : ∀ b, F b → F' b)
  (hF' : ∀ b, F' b → F b ∨ ∃ e c, look H e = some c ∧ c.own = true ∧ Occ w (σ e) c b) (hlab : ∀ k b, look H' k = some b → k < n')
  (hocc : ∀ k b g, look H' k = some b → b.own = true → Occ w (σ' k) b g → ¬ F' g ∧ ∃ e c, look H e = some c ∧ c.own = true ∧ Occ w (σ e) c g)
  (hinj : ∀ k k' b b' g, look H' k = some b → look H' k' = some b' → b.own = true → b'.own = true → Occ w (σ' k) b g → Occ w (σ' k') b' g → k = k')
  (hblk : Ext n σ F w n' σ' F' w → ∀ k b, look H' k = some b → BRep n' σ' F' w (σ' k) b) : St G w₀ M₀ F₀ n' σ' F' H' w ∧ Ext n σ F w n' σ' F' w := by
 have hE : Ext n σ F w n' σ' F' w := ⟨hn, hσ, fun b hb => ⟨hF b hb, rfl⟩, Nat.le_refl _⟩
 refine ⟨⟨st.glob, st.chg, fun b hb => ?_, hlab, fun k b g h1 h2 h3 => ?_, hinj, hblk hE⟩, hE⟩
 ·rcases hF' b hb with h | ⟨e, c, h1, h2, h3⟩
  ·exact st.fsub b h
  ·obtain ⟨_, _, m3, m4⟩ := st.mu e c b h1 h2 h3
   exact ⟨m3, m4.elim (fun h => .inr (.inr h)) fun h => .inr (.inl h)⟩
 ·obtain ⟨nf, e, c, h4, h5, h6⟩ := hocc k b g h1 h2 h3
  obtain ⟨_, m2, m3, m4⟩ := st.mu e c g h4 h5 h6
  exact ⟨nf, m2, m3, m4⟩
theorem St.retell (st : St G w₀ M₀ F₀ n σ F H w) {F' : Nat → Prop} {ell : Nat} {blk blk' : ABlk} (hk : look H ell = some blk) (hm : blk.own = true) (hF : ∀ b, F b → F' b) (hF' : ∀ b, F' b → F b ∨ (Occ w (σ ell) blk b ∧ ∀ g, Occ w (σ ell) blk' g → g ≠ b))
  (ho : ∀ g, Occ w (σ ell) blk' g → Occ w (σ ell) blk g) (hB : Ext n σ F w n σ F' w → BRep n σ F' w (σ ell) blk') : St G w₀ M₀ F₀ n σ F' (setH H ell blk') w ∧ Ext n σ F w n σ F' w := by
 refine st.regroup (Nat.le_refl _) (fun _ _ => rfl) hF (fun b hb => (hF' b hb).imp id fun h => ⟨ell, blk, hk, hm, h.1⟩) (fun k b h => ?_) (fun k b g h h1 h2 => ?_) (fun k k' b b' g h h' m m' g1 g2 => ?_) fun hE k b h => ?_
 ·rw [look_setH hk] at h
  split at h
  ·rename_i e; subst e; exact st.lab _ _ hk
  ·exact st.lab k b h
 ·rw [look_setH hk] at h
  split at h
  ·rename_i e
   subst e
   injection h with h
   subst h
   refine ⟨fun hf => ?_, _, _, hk, hm, ho g h2⟩
   rcases hF' g hf with hf | hf
   ·exact (st.mu _ _ g hk hm (ho g h2)).1 hf
   ·exact hf.2 g h2 rfl
  ·rename_i e
   refine ⟨fun hf => ?_, k, b, h, h1, h2⟩
   rcases hF' g hf with hf | hf
   ·exact (st.mu _ _ g h h1 h2).1 hf
   ·exact e (st.inj k ell b blk g h hk h1 hm h2 hf.1)
 ·have key : ∀ k b, look (setH H ell blk') k = some b → b.own = true → Occ w (σ k) b g → ∃ c, look H k = some c ∧ c.own = true ∧ Occ w (σ k) c g := by
   intro k b h0 m g1
   rw [look_setH hk] at h0
   split at h0
   ·rename_i e; subst e; injection h0 with h0; subst h0; exact ⟨_, hk, hm, ho g g1⟩
   ·exact ⟨_, h0, m, g1⟩
  obtain ⟨c, a1, a2, a3⟩ := key k b h m g1
  obtain ⟨c', b1, b2, b3⟩ := key k' b' h' m' g2
  exact st.inj k k' c c' g a1 b1 a2 b2 a3 b3
 ·rw [look_setH hk] at h
  split at h
  ·rename_i e; subst e; injection h with h; subst h; exact hB hE
  ·exact (st.blk k b h).mono hE fun _ _ _ => rfl
def tvOf (T s : Nat) : FV → TV
 | .v (.slice none 0 0) => .n T s []
 | x => .f x
def TV.fz : TV → FV
 | .f x => x
 | .n _ s l => .lst s l
theorem tvOf_cases (T s : Nat) (x : FV) : (x = .v (.slice none 0 0) ∧ tvOf T s x = .n T s []) ∨ tvOf T s x = .f x := by
 unfold tvOf
 split
 ·exact .inl ⟨rfl, rfl⟩
 ·exact .inr rfl
theorem getElem?_map2 {α β : Type} {f : α → β} {l : List (List α)} {i j : Nat} {row : List β} {b : β} (h : (l.map fun r => r.map f)[i]? = some row) (k : row[j]? = some b) : ∃ r a, l[i]? = some r ∧ r[j]? = some a ∧ f a = b := by
 rw [List.getElem?_map] at h
 cases hr : l[i]? with
 | none => rw [hr] at h; cases h
 | some r =>
  rw [hr] at h
  injection h with h
  subst h
  rw [List.getElem?_map] at k
  cases ha : r[j]? with
  | none => rw [ha] at k; cases k
  | some a => rw [ha] at k; injection k with k; exact ⟨r, a, rfl, ha, k⟩
theorem len_map2 {α β : Type} {f : α → β} {l : List (List α)} {sz : Nat} (h : ∀ row ∈ l, row.length = sz) : ∀ row ∈ l.map fun r => r.map f, row.length = sz := fun row hr => by
 obtain ⟨r, h1, rfl⟩ := List.mem_map.1 hr
 rw [List.length_map]; exact h r h1
theorem Gh.tree {ell t sz : Nat} {l : List (List FV)} (T s : Nat) (hk : look H ell = some (.rows t sz l)) : Gh n H n (setH H ell (.tree t sz (l.map fun r => r.map (tvOf T s)) none)) := by
 intro G w₀ M₀ F₀ σ F w st
 obtain ⟨h1, h2, xs, hO, hR⟩ := st.blk _ _ hk
 have noN : ∀ i j g, ¬ NAt w (σ ell) sz (l.map fun r => r.map (tvOf T s)) i j g := by
  rintro i j g ⟨b, row, t', s', r, m, c, n1, n2, n3, n4, n5⟩
  obtain ⟨r0, a, e1, e2, e3⟩ := getElem?_map2 n2 n3
  rcases tvOf_cases T s a with ⟨rfl, _⟩ | e
  ·have hrl := hR.1 r0 (List.mem_of_getElem? e1)
   have hil := (List.getElem?_eq_some_iff.1 e1).1
   have hjl := (List.getElem?_eq_some_iff.1 e2).1
   have hlt : i * sz + j < xs.length := by
    have : (i + 1) * sz ≤ l.length * sz := Nat.mul_le_mul_right _ hil
    rw [Nat.add_mul, Nat.one_mul] at this
    rw [hR.2.1]; omega
   have hx := List.getElem?_eq_getElem hlt
   obtain ⟨b', hb', hc⟩ := own_cell hO e1 hrl e2 hR.2.1 hx
   rw [n1] at hb'
   injection hb' with hb'
   subst hb'
   have hf := hR.2.2.2 i j r0 _ _ e1 e2 hx
   rw [hc] at n4
   injection n4 with n4
   rw [n4] at hf
   cases hf
  ·rw [e] at e3; cases e3
 have ho : ∀ g, Occ w (σ ell) (.tree t sz (l.map fun r => r.map (tvOf T s)) none) g → (σ ell).b = some g := fun g h => h.elim id fun ⟨i, j, h⟩ => (noN i j g h).elim
 obtain ⟨s1, x1⟩ := st.retell (F' := F) (blk' := .tree t sz (l.map fun r => r.map (tvOf T s)) none) hk rfl (fun _ h => h) (fun _ h => .inl h) (fun g h => .inl (ho g h)) fun hE => by
  refine ⟨h1, by rw [List.length_map]; exact h2, xs, by rw [List.length_map]; exact hO, ⟨len_map2 hR.1, by rw [List.length_map]; exact hR.2.1, hR.2.2.1, fun i j row a v hi hj hv => ?_⟩, ⟨fun i j i' j' g h => (noN i j g h).elim, fun i j g h => (noN i j g h).elim⟩, fun _ _ _ h => by cases h⟩
  obtain ⟨r0, a0, e1, e2, rfl⟩ := getElem?_map2 hi hj
  have hf := hR.2.2.2 i j r0 a0 v e1 e2 hv
  rcases tvOf_cases T s a0 with ⟨rfl, e⟩ | e
  ·rw [e]
   cases hf
   exact ⟨none, 0, rfl, .inl ⟨rfl, rfl⟩⟩
  ·rw [e]; exact hf
 exact ⟨σ, F, s1, x1⟩
theorem frep_own {t sz c : Nat} {oa : Option Addr} {l : List (List FV)} {ys : List Value} {F' : Nat → Prop} (hO : Vc.Own w 0 t sz oa l.length c ys) (hR : RepR F w sz l ys) (hF : ∀ b, F b → F' b) (hg : ∀ g, oa = some ⟨g, 0, none⟩ → F' g) : FRep F' w (.lst sz l) (.slice oa l.length c) := by
 have hb : BRep 0 (fun _ => ⟨oa.map (·.block), l.length, c, sz⟩) F w ⟨oa.map (·.block), l.length, c, sz⟩ (.rows t sz l) := ⟨rfl, rfl, ys, by
  have : (Loc.mk (oa.map (·.block)) l.length c sz).oa = oa := own_oa hO
  rw [this]; exact hO, hR⟩
 have := fz_of_rows hb hF fun g hgb => by
  refine hg g ?_
  rcases hO.2 with ⟨hv, _⟩ | ⟨g', cap, cur, hv, _⟩
  ·injection hv with e _ _; subst e; cases hgb
  ·injection hv with e _ _; subst e; simp at hgb; rw [hgb]
 have h3 := this.2.2.1
 have e : (Loc.mk (oa.map (·.block)) l.length c sz).oa = oa := own_oa hO
 rw [e] at h3
 exact h3
theorem nat_of {ell t sz : Nat} {l : List (List TV)} {c i j t' s' : Nat} {r : List (List FV)} {row : List TV} {xs : List Value} {g m cc : Nat} (hO : Vc.Own w 0 t sz (σ ell).oa l.length c xs) (hT : RepT F w sz l xs) (hi : l[i]? = some row) (hj : row[j]? = some (.n t' s' r)) (hv : xs[i * sz + j]? = some (.slice (some ⟨g, 0, none⟩) m cc)) (hc : 0 < cc) :
  NAt w (σ ell) sz l i j g := by
 obtain ⟨b, hb, hcell⟩ := own_cell hO hi (hT.1 row (List.mem_of_getElem? hi)) hj hT.2.1 hv
 exact ⟨b, row, t', s', r, m, cc, hb, hi, hj, hcell, hc⟩
theorem own_some {t sz c : Nat} {oa : Option Addr} {m : Nat} {ys : List Value} (hO : Vc.Own w 0 t sz oa m c ys) (hc : 0 < c) : ∃ g, oa = some ⟨g, 0, none⟩ := by
 rcases hO.2 with ⟨hv, _⟩ | ⟨g', cap, cur, hv, _⟩
 ·injection hv with _ _ e; omega
 ·injection hv with e _ _; exact ⟨g', e⟩
theorem Gh.freeze {ell t sz : Nat} {l : List (List TV)} (hk : look H ell = some (.tree t sz l none)) : Gh n H n (setH H ell (.rows t sz (l.map fun r => r.map TV.fz))) := by
 intro G w₀ M₀ F₀ σ F w st
 obtain ⟨h1, h2, xs, hO, hT, hS, _⟩ := st.blk _ _ hk
 obtain ⟨s1, x1⟩ := st.retell (F' := fun b => F b ∨ Nst w (σ ell) (.tree t sz l none) b) (blk' := .rows t sz (l.map fun r => r.map TV.fz)) hk rfl (fun _ h => .inl h)
  (fun b h => h.imp id fun h => ⟨.inr h, fun g hg e => by
   subst e
   obtain ⟨i, j, h⟩ := h
   exact hS.2 i j g h (hg.flat rfl)⟩) (fun g h => .inl (h.flat rfl)) fun hE => by
  refine ⟨h1, by rw [List.length_map]; exact h2, xs, by rw [List.length_map]; exact hO, len_map2 hT.1, by rw [List.length_map]; exact hT.2.1, hT.2.2.1, fun i j row a v hi hj hv => ?_⟩
  obtain ⟨r0, a0, e1, e2, rfl⟩ := getElem?_map2 hi hj
  have hf := hT.2.2.2 i j r0 a0 v e1 e2 hv
  cases a0 with
  | f x => exact FRep.mono hE.f hf
  | n t' s' r =>
   obtain ⟨oa, c, rfl, hf⟩ := hf
   rcases hf with ⟨rfl, rfl⟩ | ⟨ys, hc, hO', hR'⟩
   ·exact lst_nil s' oa
   ·refine frep_own hO' hR' (fun b hb => .inl hb) fun g hg => .inr ⟨i, j, ?_⟩
    subst hg
    exact nat_of hO hT e1 e2 hv hc
 exact ⟨σ, _, s1, x1⟩
theorem set2_get {α : Type} {l : List (List α)} {i j i2 j2 : Nat} {row row2 : List α} {x y : α} (hi : l[i]? = some row) (hj : j < row.length) (h : (l.set i (row.set j x))[i2]? = some row2) (k : row2[j2]? = some y) :
  (i2 = i ∧ j2 = j ∧ y = x) ∨ (¬ (i2 = i ∧ j2 = j) ∧ ∃ r, l[i2]? = some r ∧ r[j2]? = some y) := by
 have hil := (List.getElem?_eq_some_iff.1 hi).1
 by_cases e : i2 = i
 ·subst e
  rw [List.getElem?_set_self hil] at h
  injection h with h
  subst h
  by_cases e2 : j2 = j
  ·subst e2
   rw [List.getElem?_set_self hj] at k
   injection k with k
   exact .inl ⟨rfl, rfl, k.symm⟩
  ·rw [List.getElem?_set_ne (fun h => e2 h.symm)] at k
   exact .inr ⟨fun h => e2 h.2, row, hi, k⟩
 ·rw [List.getElem?_set_ne (fun h => e h.symm)] at h
  exact .inr ⟨fun h => e h.1, row2, h, k⟩
theorem set2_len {α : Type} {l : List (List α)} {i j sz : Nat} {row : List α} {x : α} (hi : l[i]? = some row) (h : ∀ r ∈ l, r.length = sz) : ∀ r ∈ l.set i (row.set j x), r.length = sz := fun r hr => by
 rcases List.mem_or_eq_of_mem_set hr with hr | rfl
 ·exact h r hr
 ·rw [List.length_set]; exact h row (List.mem_of_getElem? hi)
theorem Gh.unfold {ell t sz i j T s : Nat} {l : List (List TV)} {row : List TV} {r : List (List FV)} (hk : look H ell = some (.tree t sz l none)) (hi : l[i]? = some row) (hj : row[j]? = some (.n T s r)) :
  Gh n H (n + 1) ((n, .rows T s r) :: setH H ell (.tree t sz (l.set i (row.set j (.f .top))) (some (i, j, n)))) := by
 intro G w₀ M₀ F₀ σ F w st
 obtain ⟨h1, h2, xs, hO, hT, hS, _⟩ := st.blk _ _ hk
 have hrl := hT.1 row (List.mem_of_getElem? hi)
 have hil := (List.getElem?_eq_some_iff.1 hi).1
 have hjl := (List.getElem?_eq_some_iff.1 hj).1
 have hlt : i * sz + j < xs.length := by
  have : (i + 1) * sz ≤ l.length * sz := Nat.mul_le_mul_right _ hil
  rw [Nat.add_mul, Nat.one_mul] at this
  rw [hT.2.1]; omega
 have hx := List.getElem?_eq_getElem hlt
 obtain ⟨oa, c, ev, hf⟩ := hT.2.2.2 i j row _ _ hi hj hx
 have hell := st.lab _ _ hk
 -- the block of the slice that is taken out
 have hloc : ∃ L : Loc, L.n = r.length ∧ L.sz = s ∧ (∀ σ', BRep (n + 1) σ' F w L (.rows T s r)) ∧ (∀ g, L.b = some g → NAt w (σ ell) sz l i j g) ∧
   ∀ σ', σ' n = L → ARep (n + 1) σ' F w (.own n) xs[i * sz + j] := by
  rcases hf with ⟨rfl, rfl⟩ | ⟨ys, hc, hO', hR'⟩
  ·refine ⟨⟨none, 0, 0, s⟩, rfl, rfl, fun σ' => ⟨rfl, rfl, [], Vc.Own.nil _ _ _ _, RepR.nil s⟩, (fun g h => by cases h), fun σ' hσ => ?_⟩
   rw [ev]
   exact .ownz n oa (by omega) (by rw [hσ]) (by rw [hσ])
  ·obtain ⟨g, rfl⟩ := own_some hO' hc
   refine ⟨⟨some g, r.length, c, s⟩, rfl, rfl, fun σ' => ⟨rfl, rfl, ys, hO', hR'⟩, (fun g' h => ?_), fun σ' hσ => ?_⟩
   ·injection h with h
    subst h
    rw [ev] at hx
    exact nat_of hO hT hi hj hx hc
   ·rw [ev]
    have := ARep.own (n := n + 1) (σ := σ') (F := F) (w := w) n (by omega)
    rw [hσ] at this
    exact this
 obtain ⟨L, _, _, hB, hN, hA⟩ := hloc
 have nat : ∀ i2 j2 g, NAt w (σ ell) sz (l.set i (row.set j (.f .top))) i2 j2 g → NAt w (σ ell) sz l i2 j2 g ∧ ¬ (i2 = i ∧ j2 = j) := by
  rintro i2 j2 g ⟨b, row2, t', s', r2, m, c, n1, n2, n3, n4, n5⟩
  rcases set2_get hi hjl n2 n3 with ⟨_, _, e⟩ | ⟨hne, r3, e1, e2⟩
  ·cases e
  ·exact ⟨⟨b, r3, t', s', r2, m, c, n1, e1, e2, n4, n5⟩, hne⟩
 have occT : ∀ g, Occ w (σ ell) (.tree t sz (l.set i (row.set j (.f .top))) (some (i, j, n))) g → Occ w (σ ell) (.tree t sz l none) g ∧ ¬ NAt w (σ ell) sz l i j g := by
  rintro g (h | ⟨i2, j2, h⟩)
  ·exact ⟨.inl h, fun hn => hS.2 i j g hn h⟩
  ·obtain ⟨h0, hne⟩ := nat i2 j2 g h
   exact ⟨.inr ⟨i2, j2, h0⟩, fun hn => hne (hS.1 _ _ _ _ g h0 hn)⟩
 have hlook : ∀ {k b}, look ((n, .rows T s r) :: setH H ell (.tree t sz (l.set i (row.set j (.f .top))) (some (i, j, n)))) k = some b →
   (k = n ∧ b = .rows T s r) ∨ (k ≠ n ∧ k = ell ∧ b = .tree t sz (l.set i (row.set j (.f .top))) (some (i, j, n))) ∨ (k ≠ n ∧ k ≠ ell ∧ look H k = some b) := by
  intro k b h
  rw [look_cons] at h
  split at h
  ·rename_i e; injection h with h; exact .inl ⟨e.symm, h.symm⟩
  ·rename_i e
   rw [look_setH hk] at h
   split at h
   ·rename_i e2; injection h with h; exact .inr (.inl ⟨fun h => e h.symm, e2, h.symm⟩)
   ·rename_i e2; exact .inr (.inr ⟨fun h => e h.symm, e2, h⟩)
 obtain ⟨s1, x1⟩ := st.regroup (n' := n + 1) (σ' := updL σ n L) (F' := F) (H' := (n, .rows T s r) :: setH H ell (.tree t sz (l.set i (row.set j (.f .top))) (some (i, j, n)))) (by omega) (fun k hk => updL_ne (by omega)) (fun _ h => h) (fun _ h => .inl h)
  (fun k b h => by
   rcases hlook h with ⟨e, _⟩ | ⟨_, e, _⟩ | ⟨_, _, h⟩
   ·omega
   ·omega
   ·have := st.lab k b h; omega)
  (fun k b g h m ho => by
   rcases hlook h with ⟨e, rfl⟩ | ⟨e0, e, rfl⟩ | ⟨e0, e, h⟩
   ·subst e
    rw [updL_self] at ho
    have h3 := hN g (ho.flat rfl)
    have h4 : Occ w (σ ell) (.tree t sz l none) g := .inr ⟨i, j, h3⟩
    exact ⟨(st.mu _ _ g hk rfl h4).1, _, _, hk, rfl, h4⟩
   ·subst e
    rw [updL_ne e0] at ho
    have h4 := (occT g ho).1
    exact ⟨(st.mu _ _ g hk rfl h4).1, _, _, hk, rfl, h4⟩
   ·rw [updL_ne e0] at ho
    exact ⟨(st.mu _ _ g h m ho).1, _, _, h, m, ho⟩)
  (fun k k' b b' g h h' m m' ho ho' => by
   have cross : ∀ {k b}, look ((n, .rows T s r) :: setH H ell (.tree t sz (l.set i (row.set j (.f .top))) (some (i, j, n)))) k = some b → b.own = true → Occ w (updL σ n L k) b g → L.b = some g → k = n := by
    intro k b h m ho hL
    have h3 := hN g hL
    rcases hlook h with ⟨e, _⟩ | ⟨e0, e, rfl⟩ | ⟨e0, e, h⟩
    ·exact e
    ·subst e
     rw [updL_ne e0] at ho
     exact ((occT g ho).2 h3).elim
    ·rw [updL_ne e0] at ho
     exact (e (st.inj k ell b _ g h hk m rfl ho (.inr ⟨i, j, h3⟩))).elim
   rcases hlook h with ⟨e, rfl⟩ | ⟨e0, e, rfl⟩ | ⟨e0, e, h0⟩
   ·subst e
    rw [updL_self] at ho
    exact (cross h' m' ho' (ho.flat rfl)).symm
   ·rcases hlook h' with ⟨e', rfl⟩ | ⟨e0', e', rfl⟩ | ⟨e0', e', h0'⟩
    ·subst e'
     rw [updL_self] at ho'
     exact cross h m ho (ho'.flat rfl)
    ·rw [e, e']
    ·subst e
     rw [updL_ne e0] at ho
     rw [updL_ne e0'] at ho'
     exact st.inj _ _ _ _ g hk h0' rfl m' (occT g ho).1 ho'
   ·rcases hlook h' with ⟨e', rfl⟩ | ⟨e0', e', rfl⟩ | ⟨e0', e', h0'⟩
    ·subst e'
     rw [updL_self] at ho'
     exact cross h m ho (ho'.flat rfl)
    ·subst e'
     rw [updL_ne e0] at ho
     rw [updL_ne e0'] at ho'
     exact st.inj _ _ _ _ g h0 hk m rfl ho (occT g ho').1
    ·rw [updL_ne e0] at ho
     rw [updL_ne e0'] at ho'
     exact st.inj _ _ _ _ g h0 h0' m m' ho ho')
  (fun hE k b h => by
   rcases hlook h with ⟨e, rfl⟩ | ⟨e0, e, rfl⟩ | ⟨e0, e, h⟩
   ·subst e; rw [updL_self]; exact hB _
   ·subst e
    rw [updL_ne e0]
    refine ⟨h1, by rw [List.length_set]; exact h2, xs, by rw [List.length_set]; exact hO, ⟨set2_len hi hT.1, by rw [List.length_set]; exact hT.2.1, hT.2.2.1, fun i2 j2 row2 a v n1 n2 n3 => ?_⟩, ⟨fun a b c d g x y => hS.1 a b c d g (nat _ _ _ x).1 (nat _ _ _ y).1, fun a b g x => hS.2 a b g (nat _ _ _ x).1⟩, fun i2 j2 e2 he => ?_⟩
    ·rcases set2_get hi hjl n1 n2 with ⟨_, _, e⟩ | ⟨_, r3, e1, e2⟩
     ·subst e; exact FRep.top v
     ·exact hT.2.2.2 i2 j2 r3 a v e1 e2 n3
    ·injection he with he
     injection he with ee1 he
     injection he with ee2 ee3
     subst ee1; subst ee2; subst ee3
     exact ⟨by omega, by rw [List.length_set]; exact hil, by omega, ⟨_, List.getElem?_set_self hil, List.getElem?_set_self hjl⟩, _, hx, hA _ (updL_self _ _ _)⟩
   ·rw [updL_ne e0]
    exact (st.blk k b h).mono hE fun _ _ _ => rfl)
 exact ⟨_, F, s1, x1⟩
theorem Gh.fold {ell e t sz i j T s : Nat} {l : List (List TV)} {row : List TV} {r : List (List FV)} (hk : look H ell = some (.tree t sz l (some (i, j, e)))) (he : look H e = some (.rows T s r)) (hne : e ≠ ell) (hi : l[i]? = some row) :
  Gh n H n (setH (rmH H e) ell (.tree t sz (l.set i (row.set j (.n T s r))) none)) := by
 intro G w₀ M₀ F₀ σ F w st
 obtain ⟨h1, h2, xs, hO, hT, hS, hh⟩ := st.blk _ _ hk
 obtain ⟨_, hil, hjs, ⟨row', hi', hj⟩, v0, hv0, ra⟩ := hh _ _ _ rfl
 rw [hi] at hi'
 injection hi' with hi'
 subst hi'
 have hrl := hT.1 row (List.mem_of_getElem? hi)
 have hjl := (List.getElem?_eq_some_iff.1 hj).1
 obtain ⟨q1, q2, ys, hO', hR'⟩ := st.blk _ _ he
 obtain ⟨bo, hbo, hcell0⟩ := own_cell hO hi hrl hj hT.2.1 hv0
 have hv : ∃ oa c, v0 = .slice oa r.length c ∧ ((c = 0 ∧ r = []) ∨ ∃ ys, 0 < c ∧ Vc.Own w 0 T s oa r.length c ys ∧ RepR F w s r ys) ∧ ∀ g, oa = some ⟨g, 0, none⟩ → 0 < c → (σ e).b = some g := by
  cases ra with
  | ownz _ oa hl hn hc =>
   rw [hn] at q2
   have : r = [] := List.eq_nil_of_length_eq_zero q2.symm
   subst this
   exact ⟨oa, 0, rfl, .inl ⟨rfl, rfl⟩, fun g _ h => by omega⟩
  | own _ hl =>
   refine ⟨(σ e).oa, (σ e).c, by rw [q2], ?_, fun g hg _ => loc_oa hg⟩
   rcases Nat.eq_zero_or_pos (σ e).c with h0 | h0
   ·have := (own_bound hO').1
    exact .inl ⟨h0, List.eq_nil_of_length_eq_zero (by omega)⟩
   ·exact .inr ⟨ys, h0, hO', hR'⟩
 obtain ⟨oa, c, rfl, hv1, hv2⟩ := hv
 have nat : ∀ i2 j2 g, NAt w (σ ell) sz (l.set i (row.set j (.n T s r))) i2 j2 g → (i2 = i ∧ j2 = j ∧ (σ e).b = some g) ∨ (¬ (i2 = i ∧ j2 = j) ∧ NAt w (σ ell) sz l i2 j2 g) := by
  rintro i2 j2 g ⟨b, row2, t', s', r2, m, c2, n1, n2, n3, n4, n5⟩
  rcases set2_get hi hjl n2 n3 with ⟨e1, e2, e3⟩ | ⟨hne, r3, e1, e2⟩
  ·subst e1; subst e2
   rw [hbo] at n1
   injection n1 with n1
   subst n1
   rw [hcell0] at n4
   injection n4 with n4
   injection n4 with n4 _ n6
   subst n6
   exact .inl ⟨rfl, rfl, hv2 g n4 n5⟩
  ·exact .inr ⟨hne, b, r3, t', s', r2, m, c2, n1, e1, e2, n4, n5⟩
 have occE : ∀ {g}, (σ e).b = some g → Occ w (σ e) (.rows T s r) g := fun h => .inl h
 have noE : ∀ {g}, (σ e).b = some g → ¬ Occ w (σ ell) (.tree t sz l (some (i, j, e))) g := fun h ho => hne (st.inj e ell _ _ _ he hk rfl rfl (occE h) ho)
 have hk' : look (rmH H e) ell = some (.tree t sz l (some (i, j, e))) := by
  have : ∀ {H : AHeap} {b : ABlk}, look H ell = some b → look (rmH H e) ell = some b := by
   intro H
   induction H with
   | nil => intro b h; cases h
   | cons p q ih =>
    intro b h
    obtain ⟨x, bx⟩ := p
    rw [look_cons] at h
    simp only [rmH]
    cases hb : Nat.beq x e with
    | true =>
     have := Nat.eq_of_beq_eq_true hb
     rw [cond_true]
     rw [if_neg (by omega)] at h
     exact ih h
    | false =>
     rw [cond_false, look_cons]
     split at h
     ·rename_i e1; rw [if_pos e1]; exact h
     ·rename_i e1; rw [if_neg e1]; exact ih h
  exact this hk
 have hlook : ∀ {k b}, look (setH (rmH H e) ell (.tree t sz (l.set i (row.set j (.n T s r))) none)) k = some b →
   (k = ell ∧ b = .tree t sz (l.set i (row.set j (.n T s r))) none) ∨ (k ≠ ell ∧ k ≠ e ∧ look H k = some b) := by
  intro k b h
  rw [look_setH hk'] at h
  split at h
  ·rename_i e2; injection h with h; exact .inl ⟨e2, h.symm⟩
  ·rename_i e2; exact .inr ⟨e2, (look_rmH h).1, (look_rmH h).2⟩
 have occT : ∀ g, Occ w (σ ell) (.tree t sz (l.set i (row.set j (.n T s r))) none) g → Occ w (σ ell) (.tree t sz l (some (i, j, e))) g ∨ (σ e).b = some g := by
  rintro g (h | ⟨i2, j2, h⟩)
  ·exact .inl (.inl h)
  ·rcases nat i2 j2 g h with ⟨_, _, h⟩ | ⟨_, h⟩
   ·exact .inr h
   ·exact .inl (.inr ⟨i2, j2, h⟩)
 obtain ⟨s1, x1⟩ := st.regroup (n' := n) (σ' := σ) (F' := F) (H' := setH (rmH H e) ell (.tree t sz (l.set i (row.set j (.n T s r))) none)) (Nat.le_refl _) (fun _ _ => rfl) (fun _ h => h) (fun _ h => .inl h)
  (fun k b h => by
   rcases hlook h with ⟨rfl, _⟩ | ⟨_, _, h⟩
   ·exact st.lab _ _ hk
   ·exact st.lab k b h)
  (fun k b g h m ho => by
   rcases hlook h with ⟨rfl, rfl⟩ | ⟨_, _, h⟩
   ·rcases occT g ho with h4 | h4
    ·exact ⟨(st.mu _ _ g hk rfl h4).1, _, _, hk, rfl, h4⟩
    ·exact ⟨(st.mu _ _ g he rfl (occE h4)).1, _, _, he, rfl, occE h4⟩
   ·exact ⟨(st.mu _ _ g h m ho).1, _, _, h, m, ho⟩)
  (fun k k' b b' g h h' m m' ho ho' => by
   have cross : ∀ {k b}, k ≠ ell → k ≠ e → look H k = some b → b.own = true → Occ w (σ k) b g → Occ w (σ ell) (.tree t sz (l.set i (row.set j (.n T s r))) none) g → False := by
    intro k b e1 e2 h m ho hT
    rcases occT g hT with h4 | h4
    ·exact e1 (st.inj k ell b _ g h hk m rfl ho h4)
    ·exact e2 (st.inj k e b _ g h he m rfl ho (occE h4))
   rcases hlook h with ⟨e0, e1⟩ | ⟨e1, e2, h0⟩
   ·subst e0; subst e1
    rcases hlook h' with ⟨e0, e1⟩ | ⟨e1', e2', h0'⟩
    ·exact e0.symm
    ·exact (cross e1' e2' h0' m' ho' ho).elim
   ·rcases hlook h' with ⟨e0, e3⟩ | ⟨e1', e2', h0'⟩
    ·subst e0; subst e3
     exact (cross e1 e2 h0 m ho ho').elim
    ·exact st.inj k k' b b' g h0 h0' m m' ho ho')
  (fun hE k b h => by
   rcases hlook h with ⟨rfl, rfl⟩ | ⟨_, _, h⟩
   ·refine ⟨h1, by rw [List.length_set]; exact h2, xs, by rw [List.length_set]; exact hO, ⟨set2_len hi hT.1, by rw [List.length_set]; exact hT.2.1, hT.2.2.1, fun i2 j2 row2 a v n1 n2 n3 => ?_⟩, ⟨fun a b c d g x y => ?_, fun a b g x hb => ?_⟩, fun _ _ _ h => by cases h⟩
    ·rcases set2_get hi hjl n1 n2 with ⟨e1, e2, e3⟩ | ⟨_, r3, e1, e2⟩
     ·subst e1; subst e2; subst e3
      rw [hv0] at n3
      injection n3 with n3
      subst n3
      exact ⟨oa, c, rfl, hv1⟩
     ·exact hT.2.2.2 i2 j2 r3 a v e1 e2 n3
    ·rcases nat a b g x with ⟨x1, x2, x3⟩ | ⟨_, x1⟩
     ·rcases nat c d g y with ⟨y1, y2, _⟩ | ⟨_, y1⟩
      ·exact ⟨x1.trans y1.symm, x2.trans y2.symm⟩
      ·exact (noE x3 (.inr ⟨c, d, y1⟩)).elim
     ·rcases nat c d g y with ⟨_, _, y3⟩ | ⟨_, y1⟩
      ·exact (noE y3 (.inr ⟨a, b, x1⟩)).elim
      ·exact hS.1 a b c d g x1 y1
    ·rcases nat a b g x with ⟨_, _, x3⟩ | ⟨_, x1⟩
     ·exact noE x3 (.inl hb)
     ·exact hS.2 a b g x1 hb
   ·exact (st.blk k b h).mono hE fun _ _ _ => rfl)
 exact ⟨σ, F, s1, x1⟩
end
end Go.Proofs.YtgfgndaoocfpdaaGreatDoor.Ax
namespace Go.Proofs.YtgfgndaoocfpdaaGreatDoor.Cl
open Go Go.Proofs.YtgfgndaoocfpdaaGreatDoor.Vc Go.Proofs.YtgfgndaoocfpdaaGreatDoor.Ax Go.Proofs.YtgfgndaoocfpdaaGreatDoor.Id
def insL (ls : List Lk) (xs : List Ex) (w : Int) (l : List Ev) : List (List Ev) := xs.zipIdx.map fun p => insE ls xs w p.2 p.1 l
def mixB (ls : List Lk) (xs : List Ex) (name : By) (w : Int) (l : List Ev) : List Bool := xs.zipIdx.map fun p => mixE ls xs name w p.2 p.1 l
theorem insL_len (ls : List Lk) (xs : List Ex) (w : Int) (l : List Ev) : (insL ls xs w l).length = xs.length := by unfold insL; simp
theorem mixB_len (ls : List Lk) (xs : List Ex) (name : By) (w : Int) (l : List Ev) : (mixB ls xs name w l).length = xs.length := by unfold mixB; simp
theorem insL_get (ls : List Lk) (xs : List Ex) (w : Int) (l : List Ev) (i : Nat) : (insL ls xs w l)[i]? = xs[i]?.map fun x => insE ls xs w i x l := by
 unfold insL
 rw [List.getElem?_map, List.getElem?_zipIdx]
 cases xs[i]? <;> simp
theorem mixB_get (ls : List Lk) (xs : List Ex) (name : By) (w : Int) (l : List Ev) (i : Nat) : (mixB ls xs name w l)[i]? = xs[i]?.map fun x => mixE ls xs name w i x l := by
 unfold mixB
 rw [List.getElem?_map, List.getElem?_zipIdx]
 cases xs[i]? <;> simp
theorem insL_nil (ls : List Lk) (xs : List Ex) (w : Int) : insL ls xs w [] = List.replicate xs.length [] := by
 apply List.ext_getElem?
 intro i
 rw [insL_get, List.getElem?_replicate]
 by_cases h : i < xs.length
 ·rw [List.getElem?_eq_getElem h, if_pos h]; rfl
 ·rw [List.getElem?_eq_none (by omega), if_neg h]; rfl
theorem mixB_nil (ls : List Lk) (xs : List Ex) (name : By) (w : Int) : mixB ls xs name w [] = List.replicate xs.length false := by
 apply List.ext_getElem?
 intro i
 rw [mixB_get, List.getElem?_replicate]
 by_cases h : i < xs.length
 ·rw [List.getElem?_eq_getElem h, if_pos h]; rfl
 ·rw [List.getElem?_eq_none (by omega), if_neg h]; rfl
theorem insE_snoc (ls : List Lk) (xs : List Ex) (w : Int) (k : Nat) (x : Ex) (l : List Ev) (e : Ev) : insE ls xs w k x (l ++ [e]) = if owO ls xs e.id e.time = some k ∧ e.time < x.time + w then insE ls xs w k x l ++ [e] else insE ls xs w k x l := by
 unfold insE
 rw [List.filter_append]
 by_cases h1 : owO ls xs e.id e.time = some k
 ·by_cases h2 : e.time < x.time + w
  ·simp [h1, h2]
  ·simp [h1, h2]
 ·simp [h1]
theorem insL_in {ls : List Lk} {xs : List Ex} {w : Int} {l : List Ev} {e : Ev} {i : Nat} (hi : i < xs.length) (h : owO ls xs e.id e.time = some i) (ht : e.time < xs[i].time + w) : insL ls xs w (l ++ [e]) = (insL ls xs w l).set i ((insL ls xs w l)[i]'(by rw [insL_len]; exact hi) ++ [e]) := by
 apply List.ext_getElem?
 intro j
 have hg : (insL ls xs w l)[i]'(by rw [insL_len]; exact hi) = insE ls xs w i xs[i] l := by
  have := insL_get ls xs w l i
  rw [List.getElem?_eq_getElem (by rw [insL_len]; exact hi), List.getElem?_eq_getElem hi] at this
  injection this
 rw [hg, insL_get]
 by_cases hj : i = j
 ·subst hj
  rw [List.getElem?_set_self (by rw [insL_len]; exact hi), List.getElem?_eq_getElem hi]
  simp only [Option.map_some, insE_snoc]
  rw [if_pos ⟨h, ht⟩]
 ·rw [List.getElem?_set_ne hj, insL_get]
  cases hx : xs[j]? with
  | none => rfl
  | some x =>
   simp only [Option.map_some, insE_snoc]
   rw [if_neg fun hh => hj (by rw [h] at hh; injection hh.1)]
theorem insL_out {ls : List Lk} {xs : List Ex} {w : Int} {l : List Ev} {e : Ev} (h : ∀ i (hi : i < xs.length), owO ls xs e.id e.time = some i → ¬ e.time < xs[i].time + w) : insL ls xs w (l ++ [e]) = insL ls xs w l := by
 apply List.ext_getElem?
 intro j
 rw [insL_get, insL_get]
 cases hx : xs[j]? with
 | none => rfl
 | some x =>
  obtain ⟨hj, rfl⟩ := List.getElem?_eq_some_iff.1 hx
  simp only [Option.map_some, insE_snoc]
  rw [if_neg fun hh => h j hj hh.1 hh.2]
theorem mixE_snoc (ls : List Lk) (xs : List Ex) (name : By) (w : Int) (k : Nat) (x : Ex) (l : List Ev) (e : Ev) : mixE ls xs name w k x (l ++ [e]) = if owO ls xs e.id e.time = some k ∧ e.time < x.time + w then mixE ls xs name w k x l || (decide (e.name = name) && !decide (e.arm = x.arm)) else mixE ls xs name w k x l := by
 unfold mixE
 rw [insE_snoc]
 split
 ·simp
 ·rfl
theorem mixB_in {ls : List Lk} {xs : List Ex} {name : By} {w : Int} {l : List Ev} {e : Ev} {i : Nat} (hi : i < xs.length) (h : owO ls xs e.id e.time = some i) (ht : e.time < xs[i].time + w) :
  mixB ls xs name w (l ++ [e]) = (mixB ls xs name w l).set i ((mixB ls xs name w l)[i]'(by rw [mixB_len]; exact hi) || (decide (e.name = name) && !decide (e.arm = xs[i].arm))) := by
 apply List.ext_getElem?
 intro j
 have hg : (mixB ls xs name w l)[i]'(by rw [mixB_len]; exact hi) = mixE ls xs name w i xs[i] l := by
  have := mixB_get ls xs name w l i
  rw [List.getElem?_eq_getElem (by rw [mixB_len]; exact hi), List.getElem?_eq_getElem hi] at this
  injection this
 rw [hg, mixB_get]
 by_cases hj : i = j
 ·subst hj
  rw [List.getElem?_set_self (by rw [mixB_len]; exact hi), List.getElem?_eq_getElem hi]
  simp only [Option.map_some, mixE_snoc]
  rw [if_pos ⟨h, ht⟩]
 ·rw [List.getElem?_set_ne hj, mixB_get]
  cases hx : xs[j]? with
  | none => rfl
  | some x =>
   simp only [Option.map_some, mixE_snoc]
   rw [if_neg fun hh => hj (by rw [h] at hh; injection hh.1)]
theorem mixB_out {ls : List Lk} {xs : List Ex} {name : By} {w : Int} {l : List Ev} {e : Ev} (h : ∀ i (hi : i < xs.length), owO ls xs e.id e.time = some i → ¬ e.time < xs[i].time + w) : mixB ls xs name w (l ++ [e]) = mixB ls xs name w l := by
 apply List.ext_getElem?
 intro j
 rw [mixB_get, mixB_get]
 cases hx : xs[j]? with
 | none => rfl
 | some x =>
  obtain ⟨hj, rfl⟩ := List.getElem?_eq_some_iff.1 hx
  simp only [Option.map_some, mixE_snoc]
  rw [if_neg fun hh => h j hj hh.1 hh.2]
def tsO (ts : List Int) (l : List Ev) : List Int := l.foldl (fun ts e => e.time :: ts) ts
theorem tsO_snoc (ts : List Int) (l : List Ev) (e : Ev) : tsO ts (l ++ [e]) = e.time :: tsO ts l := by unfold tsO; rw [List.foldl_append]; rfl
def tsB (b : Int) (x : Ex) (ts : List Int) (l : List Ev) : List Int := l.foldl (fun ts e => if x.time - b ≤ e.time ∧ e.time < x.time then x.time :: ts else ts) ts
theorem tsB_snoc (b : Int) (x : Ex) (ts : List Int) (l : List Ev) (e : Ev) : tsB b x ts (l ++ [e]) = if x.time - b ≤ e.time ∧ e.time < x.time then x.time :: tsB b x ts l else tsB b x ts l := by unfold tsB; rw [List.foldl_append]; rfl
theorem befE_snoc (ls : List Lk) (b : Int) (x : Ex) (l : List Ev) (e : Ev) : befE ls b x (l ++ [e]) = if x.time - b ≤ e.time ∧ e.time < x.time ∧ rtA ls x.time e.id = rtA ls x.time x.id then befE ls b x l ++ [e] else befE ls b x l := by
 unfold befE
 rw [List.filter_append]
 by_cases h1 : x.time - b ≤ e.time
 ·by_cases h2 : e.time < x.time
  ·by_cases h3 : rtA ls x.time e.id = rtA ls x.time x.id
   ·simp [h1, h2, h3]
   ·simp [h1, h2, h3]
  ·simp [h1, h2]
 ·simp [h1]
theorem insE_sub (ls : List Lk) (xs : List Ex) (w : Int) (k : Nat) (x : Ex) (l : List Ev) : ∀ e ∈ insE ls xs w k x l, e ∈ l := fun e he => (List.mem_filter.1 he).1
theorem insE_len (ls : List Lk) (xs : List Ex) (w : Int) (k : Nat) (x : Ex) (l : List Ev) : (insE ls xs w k x l).length ≤ l.length := List.length_filter_le _ _
theorem befE_sub (ls : List Lk) (b : Int) (x : Ex) (l : List Ev) : ∀ e ∈ befE ls b x l, e ∈ l := fun e he => (List.mem_filter.1 he).1
theorem befE_len (ls : List Lk) (b : Int) (x : Ex) (l : List Ev) : (befE ls b x l).length ≤ l.length := List.length_filter_le _ _
def smpN (l : List Ev) (name : By) (m : Mt) (mark : Int) (i : Nat) : List Sm := (((fstS l name).zipIdx.take i).filter fun p => decide (p.1.time + m.window ≤ mark)).map fun p => smpE l name m p.2 p.1
theorem smpN_all (l : List Ev) (name : By) (m : Mt) (mark : Int) : smpN l name m mark (fstS l name).length = smpS l name m mark := by
 unfold smpN smpS
 rw [List.take_of_length_le (by simp)]
theorem smpN_succ {l : List Ev} {name : By} {m : Mt} {mark : Int} {i : Nat} (h : i < (fstS l name).length) : smpN l name m mark (i + 1) = if (fstS l name)[i].time + m.window ≤ mark then smpN l name m mark i ++ [smpE l name m i (fstS l name)[i]] else smpN l name m mark i := by
 unfold smpN
 rw [List.take_succ_eq_append_getElem (by simpa using h), List.filter_append, List.map_append]
 simp only [List.getElem_zipIdx, Nat.zero_add]
 by_cases hc : (fstS l name)[i].time + m.window ≤ mark
 ·rw [if_pos hc]; simp [hc]
 ·rw [if_neg hc]; simp [hc]
theorem smpN_len (l : List Ev) (name : By) (m : Mt) (mark : Int) (i : Nat) : (smpN l name m mark i).length ≤ (fstS l name).length := by
 unfold smpN
 rw [List.length_map]
 refine Nat.le_trans (List.length_filter_le _ _) ?_
 rw [List.length_take]
 simp
 omega
theorem ofK_app (k : Int) (p r : List Ev) : ofK k (p ++ r) = ofK k p ++ ofK k r := List.filter_append ..
theorem lksE_app (p r : List Ev) : lksE (p ++ r) = lksE p ++ lksE r := by unfold lksE; rw [ofK_app, List.map_append]
theorem unt_app {ls rs : List Lk} {t : Int} (h : ∀ k ∈ rs, t < k.t) : unt t (ls ++ rs) = unt t ls := by
 unfold unt
 rw [List.filter_append]
 have : rs.filter (fun k => decide (k.t ≤ t)) = [] := by
  rw [List.filter_eq_nil_iff]
  intro k hk
  have := h k hk
  simp; omega
 rw [this, List.append_nil]
def SameB (M : Int) (ls ls' : List Lk) : Prop := ∀ t, t < M → unt t ls' = unt t ls
theorem SameB.rt {M : Int} {ls ls' : List Lk} (h : SameB M ls ls') {t : Int} (ht : t < M) (id : By) : rtA ls' t id = rtA ls t id := by unfold rtA; rw [h t ht]
theorem SameB.wP {M : Int} {ls ls' : List Lk} (h : SameB M ls ls') {t : Int} (ht : t < M) (id : By) (x : Ex) : owP ls' t id x = owP ls t id x := by unfold owP; rw [h.rt ht, h.rt ht]
theorem SameB.wO {M : Int} {ls ls' : List Lk} (h : SameB M ls ls') {t : Int} (ht : t < M) (id : By) (xs : List Ex) : owO ls' xs id t = owO ls xs id t := by
 unfold owO
 congr 1
 funext x
 exact h.wP ht id x
theorem SameB.fst {M : Int} {ls ls' : List Lk} (h : SameB M ls ls') (name : By) : ∀ (es : List Ev), (∀ e ∈ es, e.time < M) → fstX ls' name es = fstX ls name es := by
 have : ∀ (es : List Ev) (o : List Ex), (∀ e ∈ es, e.time < M) → es.foldl (fstN ls' name) o = es.foldl (fstN ls name) o := by
  intro es
  induction es with
  | nil => intro o _; rfl
  | cons e r ih =>
   intro o he
   rw [List.foldl_cons, List.foldl_cons]
   have e1 : fstN ls' name o e = fstN ls name o e := by unfold fstN owI; rw [h.wO (he e List.mem_cons_self)]
   rw [e1]
   exact ih _ fun x hx => he x (List.mem_cons_of_mem _ hx)
 exact fun es he => this es [] he
theorem fst_more {ls : List Lk} {name : By} : ∀ (r : List Ev) (o : List Ex), ∃ o', r.foldl (fstN ls name) o = o ++ o' ∧ ∀ x ∈ o', ∃ e ∈ r, x = exE e := by
 intro r
 induction r with
 | nil => intro o; exact ⟨[], by simp, fun x hx => by cases hx⟩
 | cons e r ih =>
  intro o
  rw [List.foldl_cons]
  obtain ⟨o', h1, h2⟩ := ih (fstN ls name o e)
  unfold fstN at h1
  by_cases hc : e.name = name ∧ owI ls o e.id e.time < 0
  ·rw [if_pos hc] at h1
   refine ⟨exE e :: o', by unfold fstN; rw [if_pos hc, h1]; simp, fun x hx => ?_⟩
   rcases List.mem_cons.1 hx with rfl | hx
   ·exact ⟨e, List.mem_cons_self, rfl⟩
   ·obtain ⟨e', he', hh⟩ := h2 x hx
    exact ⟨e', List.mem_cons_of_mem _ he', hh⟩
  ·rw [if_neg hc] at h1
   refine ⟨o', by unfold fstN; rw [if_neg hc, h1], fun x hx => ?_⟩
   obtain ⟨e', he', hh⟩ := h2 x hx
   exact ⟨e', List.mem_cons_of_mem _ he', hh⟩
theorem owO_more {ls : List Lk} {xs ys : List Ex} {id : By} {t : Int} (h : ∀ y ∈ ys, t < y.time) : owO ls (xs ++ ys) id t = owO ls xs id t := by
 unfold owO
 rw [List.findIdx?_append]
 have : ys.findIdx? (owP ls t id) = none := by
  rw [List.findIdx?_eq_none_iff]
  intro y hy
  have := h y hy
  unfold owP
  rw [decide_eq_false (by omega)]
  rfl
 rw [this]
 cases xs.findIdx? (owP ls t id) <;> rfl
section
variable {p r : List Ev} {M : Int}
theorem lks_same (hr : ∀ e ∈ r, M ≤ e.time) : SameB M (lksE p) (lksE (p ++ r)) := fun t ht => by
 rw [lksE_app]
 refine unt_app fun k hk => ?_
 unfold lksE at hk
 obtain ⟨e, he, rfl⟩ := List.mem_map.1 hk
 have := hr e (List.mem_filter.1 he).1
 show t < e.time
 omega
theorem fstS_more (hp : ∀ e ∈ p, e.time < M) (hr : ∀ e ∈ r, M ≤ e.time) (name : By) : ∃ ys, fstS (p ++ r) name = fstS p name ++ ys ∧ ∀ y ∈ ys, M ≤ y.time := by
 have hs := lks_same (p := p) hr
 have e1 : fstX (lksE (p ++ r)) name (ofK 1 p) = fstS p name := hs.fst name (ofK 1 p) fun e he => hp e (List.mem_filter.1 he).1
 obtain ⟨ys, h1, h2⟩ := fst_more (ls := lksE (p ++ r)) (name := name) (ofK 1 r) (fstS p name)
 refine ⟨ys, ?_, fun y hy => ?_⟩
 ·unfold fstS
  rw [ofK_app]
  show (ofK 1 p ++ ofK 1 r).foldl _ [] = _
  rw [List.foldl_append]
  show (ofK 1 r).foldl _ (fstX (lksE (p ++ r)) name (ofK 1 p)) = _
  rw [e1]
  exact h1
 ·obtain ⟨e, he, rfl⟩ := h2 y hy
  exact hr e (List.mem_filter.1 he).1
theorem insE_more (hp : ∀ e ∈ p, e.time < M) (hr : ∀ e ∈ r, M ≤ e.time) (name : By) (w : Int) (k : Nat) (x : Ex) (hx : x.time + w ≤ M) (K : Int) : insE (lksE (p ++ r)) (fstS (p ++ r) name) w k x (ofK K (p ++ r)) = insE (lksE p) (fstS p name) w k x (ofK K p) := by
 obtain ⟨ys, hy, hyt⟩ := fstS_more hp hr name
 unfold insE
 rw [ofK_app, List.filter_append]
 have e2 : (ofK K r).filter (fun e => decide (owO (lksE (p ++ r)) (fstS (p ++ r) name) e.id e.time = some k) && decide (e.time < x.time + w)) = [] := by
  rw [List.filter_eq_nil_iff]
  intro e he
  have := hr e (List.mem_filter.1 he).1
  simp only [Bool.and_eq_true, decide_eq_true_eq]
  omega
 rw [e2, List.append_nil]
 apply List.filter_congr
 intro e he
 have ht := hp e (List.mem_filter.1 he).1
 rw [hy, owO_more fun y hy' => by have := hyt y hy'; omega, (lks_same hr).wO ht]
theorem befE_more (hp : ∀ e ∈ p, e.time < M) (hr : ∀ e ∈ r, M ≤ e.time) (b : Int) (x : Ex) (hx : x.time < M) : befE (lksE (p ++ r)) b x (ofK 2 (p ++ r)) = befE (lksE p) b x (ofK 2 p) := by
 unfold befE
 rw [ofK_app, List.filter_append]
 have e2 : (ofK 2 r).filter (fun e => decide (x.time - b ≤ e.time) && (decide (e.time < x.time) && decide (rtA (lksE (p ++ r)) x.time e.id = rtA (lksE (p ++ r)) x.time x.id))) = [] := by
  rw [List.filter_eq_nil_iff]
  intro e he
  have := hr e (List.mem_filter.1 he).1
  simp only [Bool.and_eq_true, decide_eq_true_eq]
  omega
 rw [e2, List.append_nil]
 apply List.filter_congr
 intro e he
 rw [(lks_same hr).rt hx, (lks_same hr).rt hx]
theorem smpE_more (hp : ∀ e ∈ p, e.time < M) (hr : ∀ e ∈ r, M ≤ e.time) (name : By) (m : Mt) (hw : 1 ≤ m.window) (k : Nat) (x : Ex) (hx : x.time + m.window ≤ M) : smpE (p ++ r) name m k x = smpE p name m k x := by
 unfold smpE mixE
 simp only [insE_more hp hr name m.window k x hx, befE_more hp hr m.before x (show x.time < M by omega)]
theorem smpS_more (hp : ∀ e ∈ p, e.time < M) (hr : ∀ e ∈ r, M ≤ e.time) (name : By) (m : Mt) (hw : 1 ≤ m.window) : smpS (p ++ r) name m M = smpS p name m M := by
 obtain ⟨ys, hy, hyt⟩ := fstS_more hp hr name
 unfold smpS
 rw [hy, List.zipIdx_append, List.filter_append, List.map_append]
 have e2 : (ys.zipIdx (0 + (fstS p name).length)).filter (fun q => decide (q.1.time + m.window ≤ M)) = [] := by
  rw [List.filter_eq_nil_iff]
  rintro ⟨y, j⟩ hq
  have := List.mem_zipIdx hq
  have h3 := this.2.2
  have hm : y ∈ ys := by rw [h3]; exact List.getElem_mem _
  have := hyt y hm
  simp only [decide_eq_true_eq]
  omega
 rw [e2, List.map_nil, List.append_nil]
 apply List.map_congr_left
 rintro ⟨x, k⟩ hq
 have := (List.mem_filter.1 hq).2
 exact smpE_more hp hr name m hw k x (by simpa using this)
end
attribute [local irreducible] loadVar storeVar Instr.indexAt Instr.index Instr.sliceAt Instr.makeSlice Instr.lookup Instr.mapUpdate Instr.range Instr.next Instr.entry Instr.makeMap Builtin.append_ Builtin.copy_ Builtin.len_ Builtin.min_ Builtin.max_ Builtin.cap_ Builtin.delete_ Builtin.clear_ convert binOp eqGuard Op.unary Calls
section
open Go.RowKit Go.Proofs
def insC (r : List Ev) : List TV := [.n 55 10 (r.map enE)]
def insK (L : List (List Ev)) : ABlk := .tree 41 1 (L.map insC) none
section
variable {G : Glob}
theorem s2A (L : List (List Ev)) (i : Nat) (e : Ev) (hi : i < L.length) (hl : L[i].length ≤ 50000) : AFn Tryz.prog G 75 [iv i, evA e, .ptr 0 0] 2 [(0, .var 120 [.own 1]), (1, insK L)]
  (fun a n H => a = .tup [] ∧ n = 4 ∧ H = [(0, .var 120 [.own 1]), (1, insK (L.set i (L[i] ++ [e])))]) := by
 refine AFn.gh (Gh.unfold (ell := 1) (i := i) (j := 0) rfl (by rw [List.getElem?_map, List.getElem?_eq_getElem hi]; rfl) rfl) (R' := fun a n H => a = .tup [] ∧ n = 4 ∧ H = [(0, .var 120 [.own 1]), (1, .tree 41 1 ((L.map insC).set i [.f .top]) (some (i, 0, 3))), (3, .rows 55 10 ((L[i] ++ [e]).map enE))]) ?_ ?_
 ·generalize L[i] = r at *
  refine afn_of Tryz.func75 rfl mixed (by kernel_rfl) ?_
  conv=>whnf
  (refine adraw pln75 [2, 4] (by kernel_rfl) ?_; conv=>whnf)
  repeat' (first
   | (refine And.intro ?_ ?_ <;> (conv=>whnf))
   | (refine AIn.mk' i rfl (by simp only [List.length_set, List.length_map]; omega) ?_; conv=>whnf)
   | (refine ATr.here ?_; conv=>whnf)
   | (refine ATs.here ?_; conv=>whnf)
   | (refine VReq.mk (app_ok (by simp only [List.length_map, List.length_cons, List.length_nil]; omega) (by kernel_rfl)) ?_; conv=>whnf))
  exact aend (.tup []) 4 _ [(3, .lab 5)] [] ⟨rfl, rfl, rfl⟩ rfl ⟨(by trivial), ⟨rfl, rfl, rfl, rfl, rfl, rfl⟩, ⟨rfl, rfl, by rw [List.map_append]; rfl⟩, trivial⟩ (by trivial)
 ·rintro _ _ _ ⟨rfl, rfl, rfl⟩
  have hs : i < ((L.map insC).set i [TV.f .top]).length := by rw [List.length_set, List.length_map]; exact hi
  have e1 : ((L.map insC).set i [TV.f .top]).set i ([TV.f .top].set 0 (.n 55 10 ((L[i] ++ [e]).map enE))) = (L.set i (L[i] ++ [e])).map insC := by
   rw [List.set_set, List.map_set]
   rfl
  refine ⟨4, _, Gh.fold (ell := 1) (e := 3) (i := i) (j := 0) rfl rfl (by decide) (List.getElem?_set_self (lmZ hi)), rfl, rfl, ?_⟩
  show [(0, _), (1, ABlk.tree _ _ _ _)] = _
  rw [e1]
  rfl
abbrev boF (b : Bool) : List FV := [.v (.bool b)]
theorem s3A (B : List Bool) (i : Nat) (e : Ev) (name : By) (xs : List Ex) (hi : i < B.length) (hx : i < xs.length) : AFn Tryz.prog G 76 [iv i, evA e, .ptr 0 0, .ptr 2 0, .ptr 3 0] 4 [(0, .var 121 [.own 1]), (1, .rows 4 1 (B.map boF)), (2, .var 9 [tv name]), (3, .var 57 [exL xs])]
  (fun a n H => a = .tup [] ∧ n = 4 ∧ H = [(0, .var 121 [.own 1]), (1, .rows 4 1 ((B.set i (B[i] || (decide (e.name = name) && !decide (e.arm = xs[i].arm)))).map boF)), (2, .var 9 [tv name]), (3, .var 57 [exL xs])]) := by
 have hgB := List.getElem?_eq_getElem hi
 have hgx := List.getElem?_eq_getElem hx
 generalize B[i] = b0 at *
 generalize xs[i] = x at *
 refine afn_of Tryz.func76 rfl mixed (by kernel_rfl) ?_
 conv=>whnf
 (refine adraw pln76 [] (by kernel_rfl) ?_; conv=>whnf)
 repeat' (first
  | (refine And.intro ?_ ?_ <;> (conv=>whnf))
  | (refine AIn.mk' i rfl (by simp only [List.length_map]; omega) ?_; conv=>whnf)
  | (refine ARd.mapAt (by assumption) ?_; conv=>whnf)
  | (apply vif_split <;> intro h <;> (conv=>whnf)))
 all_goals (refine aend (.tup []) 4 _ [] [] ⟨rfl, rfl, rfl⟩ rfl ⟨(by trivial), ⟨rfl, rfl, ?_⟩, (by trivial), (by trivial), trivial⟩ (by trivial))
 all_goals (have hb : (e.arm != x.arm) = !decide (e.arm = x.arm) := by (cases h : decide (e.arm = x.arm) <;> simp_all))
 all_goals (rw [List.map_set]; simp_all [sEq_tx])
structure Tim (xs : List Ex) (w : Int) (l : List Ev) : Prop where
 w : 0 ≤ w ∧ w ≤ 1000000000000
 xs : ∀ x ∈ xs, -1000000000000 ≤ x.time ∧ x.time ≤ 1000000000000
theorem owI_some {ls : List Lk} {xs : List Ex} {id : By} {t : Int} {i : Nat} (h : owO ls xs id t = some i) : owI ls xs id t = (i : Int) := by unfold owI; rw [h]
theorem owI_none {ls : List Lk} {xs : List Ex} {id : By} {t : Int} (h : owO ls xs id t = none) : owI ls xs id t = -1 := by unfold owI; rw [h]
abbrev fnd1 : AV := .fn (.func 75) [] [.ptr 6 0]
abbrev fnd2 : AV := .fn (.func 76) [] [.ptr 6 0, .ptr 8 0, .ptr 4 0]
theorem owned1A (ls : List Lk) (ts : List Int) (xs : List Ex) (m : Mt) (l : List Ev) (hls : ls.length ≤ 50000) (hxl : xs.length ≤ 50000) (hl : l.length ≤ 10000) (ht : Tim xs m.window l) :
  AFn Tryz.prog G 72 [iv 2, fnd1, .ptr 2 0, .ptr 3 0, .ptr 4 0, .ptr 5 0] 8
   [(0, ppB ls), (1, .imap (Tm ls ts)), (2, .var 41 [el l]), (3, .var 112 [.ptr 0 0]), (4, .var 57 [exL xs]), (5, mvB m), (6, .var 120 [.own 7]), (7, insK (insL ls xs m.window []))]
   (fun a n H => a = .tup [] ∧ n = 8 ∧ H = [(0, ppB ls), (1, .imap (Tm ls (tsO ts (ofK 2 l)))), (2, .var 41 [el l]), (3, .var 112 [.ptr 0 0]), (4, .var 57 [exL xs]), (5, mvB m), (6, .var 120 [.own 7]), (7, insK (insL ls xs m.window (ofK 2 l)))]) := by
 refine afnY_of Tryz.func72 rfl mixed (by kernel_rfl) ?_
 conv=>whnf
 (refine acallF [] (by kernel_rfl) (jofA G l 2) ?_ ?_; (focus trivial))
 rintro _ _ _ ⟨rfl, rfl, rfl⟩
 have hol := ofK_le 2 l
 conv=>whnf
 refine arange (jofI G l 2 (by omega)) 9 (fun p => [(0, ppB ls), (1, .imap (Tm ls (tsO ts ((ofK 2 l).take p)))), (2, .var 41 [el l]), (3, .var 112 [.ptr 0 0]), (4, .var 57 [exL xs]), (5, mvB m), (6, .var 120 [.own 7]), (7, insK (insL ls xs m.window ((ofK 2 l).take p))), (8, .var 122 [fnd1])]) [] [] rfl (by kernel_rfl) rfl (fun x hx => rng_1 x hx) rfl (by trivial) (fun p x hx => ?_) ?_
 ·obtain ⟨hp, rfl⟩ := rng_at hx
  have hsn : (ofK 2 l).take (p + 1) = (ofK 2 l).take p ++ [(ofK 2 l)[p]] := List.take_succ_eq_append_getElem hp
  have hpl : ((ofK 2 l).take p).length ≤ p := by rw [List.length_take]; omega
  rw [hsn]
  generalize (ofK 2 l)[p] = e at *
  generalize (ofK 2 l).take p = q at *
  conv=>whnf
  refine acallM [0, 1] [] (by kernel_rfl) (ownerA ls (tsO ts q) xs e.id e.time hls (by omega)) rfl (by trivial) (by trivial) ?_
  rintro _ _ _ ⟨rfl, rfl, rfl⟩
  refine ⟨rfl, ?_⟩
  rw [tsO_snoc]
  cases ho : owO ls xs e.id e.time with
  | none =>
   rw [owI_none ho, insL_out fun i hi h => by rw [ho] at h; cases h]
   conv=>whnf
   (refine adraw pln72 [] (by kernel_rfl) ?_; conv=>whnf)
   exact arback [] [] rfl (by trivial)
  | some i =>
   obtain ⟨hi, _⟩ := owO_lt ho
   have hx := ht.xs _ (List.getElem_mem hi)
   have hw := ht.w
   have hgx := List.getElem?_eq_getElem hi
   have hin := insL_in (e := e) (l := q) (ls := ls) (w := m.window) hi ho
   have hout : ∀ j (hj : j < xs.length), owO ls xs e.id e.time = some j → j = i := fun j hj h => by rw [ho] at h; injection h with h; exact h.symm
   have hil : i < (insL ls xs m.window q).length := by rw [insL_len]; exact hi
   have hlen : (insL ls xs m.window q)[i].length ≤ 50000 := by (have h1 := insL_get ls xs m.window q i; rw [List.getElem?_eq_getElem hil, hgx] at h1; injection h1 with h1; rw [h1]; have := insE_len ls xs m.window i xs[i] q; exact Nat.le_trans this (by omega))
   rw [owI_some ho]
   conv=>whnf
   (refine adraw pln72 [] (by kernel_rfl) ?_; conv=>whnf)
   refine AIn.mk' i rfl (lmZ hi) ?_
   conv=>whnf
   refine ARd.mapAt hgx ?_
   conv=>whnf
   refine AAr.i64 (by omega) ?_
   conv=>whnf
   apply vif_split <;> intro h
   ·rw [hin (by simpa using h)]
    conv=>whnf
    refine acallM [6, 7] [] (by kernel_rfl) (s2A (insL ls xs m.window q) i e hil hlen) rfl (by trivial) (by trivial) ?_
    rintro _ _ _ ⟨rfl, rfl, rfl⟩
    refine ⟨rfl, ?_⟩
    conv=>whnf
    exact arback [] [] rfl (by trivial)
   ·rw [insL_out fun j hj h' => by have := hout j hj h'; subst this; simpa using h]
    conv=>whnf
    exact arback [] [] rfl (by trivial)
 ·rw [List.length_map, List.take_length]
  conv=>whnf
  exact aend (.tup []) 8 _ [] [] ⟨rfl, rfl, rfl⟩ rfl (by trivial) (by trivial)
theorem owned2A (ls : List Lk) (ts : List Int) (xs : List Ex) (m : Mt) (l : List Ev) (name : By) (hls : ls.length ≤ 50000) (hxl : xs.length ≤ 50000) (hl : l.length ≤ 10000) (ht : Tim xs m.window l) :
  AFn Tryz.prog G 72 [iv 1, fnd2, .ptr 2 0, .ptr 3 0, .ptr 4 0, .ptr 5 0] 9
   [(0, ppB ls), (1, .imap (Tm ls ts)), (2, .var 41 [el l]), (3, .var 112 [.ptr 0 0]), (4, .var 57 [exL xs]), (5, mvB m), (6, .var 121 [.own 7]), (7, .rows 4 1 ((mixB ls xs name m.window []).map boF)), (8, .var 9 [tv name])]
   (fun a n H => a = .tup [] ∧ n = 9 ∧ H = [(0, ppB ls), (1, .imap (Tm ls (tsO ts (ofK 1 l)))), (2, .var 41 [el l]), (3, .var 112 [.ptr 0 0]), (4, .var 57 [exL xs]), (5, mvB m), (6, .var 121 [.own 7]), (7, .rows 4 1 ((mixB ls xs name m.window (ofK 1 l)).map boF)), (8, .var 9 [tv name])]) := by
 refine afnY_of Tryz.func72 rfl mixed (by kernel_rfl) ?_
 conv=>whnf
 (refine acallF [] (by kernel_rfl) (jofA G l 1) ?_ ?_; (focus trivial))
 rintro _ _ _ ⟨rfl, rfl, rfl⟩
 have hol := ofK_le 1 l
 conv=>whnf
 refine arange (jofI G l 1 (by omega)) 10 (fun p => [(0, ppB ls), (1, .imap (Tm ls (tsO ts ((ofK 1 l).take p)))), (2, .var 41 [el l]), (3, .var 112 [.ptr 0 0]), (4, .var 57 [exL xs]), (5, mvB m), (6, .var 121 [.own 7]), (7, .rows 4 1 ((mixB ls xs name m.window ((ofK 1 l).take p)).map boF)), (8, .var 9 [tv name]), (9, .var 122 [fnd2])]) [] [] rfl (by kernel_rfl) rfl (fun x hx => rng_1 x hx) rfl (by trivial) (fun p x hx => ?_) ?_
 ·obtain ⟨hp, rfl⟩ := rng_at hx
  have hsn : (ofK 1 l).take (p + 1) = (ofK 1 l).take p ++ [(ofK 1 l)[p]] := List.take_succ_eq_append_getElem hp
  have hpl : ((ofK 1 l).take p).length ≤ p := by rw [List.length_take]; omega
  rw [hsn]
  generalize (ofK 1 l)[p] = e at *
  generalize (ofK 1 l).take p = q at *
  conv=>whnf
  refine acallM [0, 1] [] (by kernel_rfl) (ownerA ls (tsO ts q) xs e.id e.time hls (by omega)) rfl (by trivial) (by trivial) ?_
  rintro _ _ _ ⟨rfl, rfl, rfl⟩
  refine ⟨rfl, ?_⟩
  rw [tsO_snoc]
  cases ho : owO ls xs e.id e.time with
  | none =>
   rw [owI_none ho, mixB_out fun i hi h => by rw [ho] at h; cases h]
   conv=>whnf
   (refine adraw pln72 [] (by kernel_rfl) ?_; conv=>whnf)
   exact arback [] [] rfl (by trivial)
  | some i =>
   obtain ⟨hi, _⟩ := owO_lt ho
   have hx := ht.xs _ (List.getElem_mem hi)
   have hw := ht.w
   have hgx := List.getElem?_eq_getElem hi
   have hin := mixB_in (name := name) (e := e) (l := q) (ls := ls) (w := m.window) hi ho
   have hout : ∀ j (hj : j < xs.length), owO ls xs e.id e.time = some j → j = i := fun j hj h => by rw [ho] at h; injection h with h; exact h.symm
   have hil : i < (mixB ls xs name m.window q).length := by rw [mixB_len]; exact hi
   skip
   rw [owI_some ho]
   conv=>whnf
   (refine adraw pln72 [] (by kernel_rfl) ?_; conv=>whnf)
   refine AIn.mk' i rfl (lmZ hi) ?_
   conv=>whnf
   refine ARd.mapAt hgx ?_
   conv=>whnf
   refine AAr.i64 (by omega) ?_
   conv=>whnf
   apply vif_split <;> intro h
   ·rw [hin (by simpa using h)]
    conv=>whnf
    refine acallM [6, 7, 8, 4] [] (by kernel_rfl) (s3A (mixB ls xs name m.window q) i e name xs hil hi) rfl (by trivial) (by trivial) ?_
    rintro _ _ _ ⟨rfl, rfl, rfl⟩
    refine ⟨rfl, ?_⟩
    conv=>whnf
    exact arback [] [] rfl (by trivial)
   ·rw [mixB_out fun j hj h' => by have := hout j hj h'; subst this; simpa using h]
    conv=>whnf
    exact arback [] [] rfl (by trivial)
 ·rw [List.length_map, List.take_length]
  conv=>whnf
  exact aend (.tup []) 9 _ [] [] ⟨rfl, rfl, rfl⟩ rfl (by trivial) (by trivial)
def nilE : List FV := [.v (.slice none 0 0)]
def frzE (r : List Ev) : List FV := [.lst 10 (r.map enE)]
theorem owned1G (ls : List Lk) (ts : List Int) (xs : List Ex) (m : Mt) (l : List Ev) (hls : ls.length ≤ 50000) (hxl : xs.length ≤ 50000) (hl : l.length ≤ 10000) (ht : Tim xs m.window l) :
  AFn Tryz.prog G 72 [iv 2, fnd1, .ptr 2 0, .ptr 3 0, .ptr 4 0, .ptr 5 0] 8
   [(0, ppB ls), (1, .imap (Tm ls ts)), (2, .var 41 [el l]), (3, .var 112 [.ptr 0 0]), (4, .var 57 [exL xs]), (5, mvB m), (6, .var 120 [.own 7]), (7, .rows 41 1 (List.replicate xs.length nilE))]
   (fun a n H => a = .tup [] ∧ n = 8 ∧ H = [(0, ppB ls), (1, .imap (Tm ls (tsO ts (ofK 2 l)))), (2, .var 41 [el l]), (3, .var 112 [.ptr 0 0]), (4, .var 57 [exL xs]), (5, mvB m), (6, .var 120 [.own 7]), (7, .rows 41 1 ((insL ls xs m.window (ofK 2 l)).map frzE))]) := by
 have e : (List.replicate xs.length nilE).map (fun r => r.map (tvOf 55 10)) = (insL ls xs m.window []).map insC := by
  rw [insL_nil, List.map_replicate, List.map_replicate]
  rfl
 refine AFn.gh (Gh.tree (ell := 7) 55 10 rfl) (R' := fun a n H => a = .tup [] ∧ n = 8 ∧ H = [(0, ppB ls), (1, .imap (Tm ls (tsO ts (ofK 2 l)))), (2, .var 41 [el l]), (3, .var 112 [.ptr 0 0]), (4, .var 57 [exL xs]), (5, mvB m), (6, .var 120 [.own 7]), (7, insK (insL ls xs m.window (ofK 2 l)))]) ?_ ?_
 ·show AFn _ _ _ _ _ [_, _, _, _, _, _, _, (7, ABlk.tree _ _ _ _)] _
  rw [e]
  exact owned1A ls ts xs m l hls hxl hl ht
 ·rintro _ _ _ ⟨rfl, rfl, rfl⟩
  refine ⟨8, _, Gh.freeze (ell := 7) rfl, rfl, rfl, ?_⟩
  show [_, _, _, _, _, _, _, (7, ABlk.rows _ _ _)] = _
  rw [List.map_map]
  rfl
end
end
section
open Go.RowKit Go.Proofs Go.Proofs.YtgfgndaoocfpdaaGreatDoor.Ky
theorem mtC_rng {m : Mt} (h : mtC m = 0) : (1 ≤ m.window ∧ m.window ≤ 68719476736) ∧ (1 ≤ m.cap ∧ m.cap ≤ 1048576) ∧ (-1099511627776 ≤ m.least ∧ m.least ≤ 1099511627776) ∧ (0 ≤ m.before ∧ m.before ≤ 68719476736) := by
 unfold mtC at h
 split at h
 ·cases h
 ·split at h
  ·cases h
  ·split at h
   ·cases h
   ·rename_i h3
    omega
structure EvB (l : List Ev) : Prop where
 len : l.length ≤ 10000
 time : ∀ e ∈ l, -1000000000000 ≤ e.time ∧ e.time ≤ 1000000000000
 val : ∀ e ∈ l, -1000000 ≤ e.val ∧ e.val ≤ 1000000
theorem EvB.meas {l q : List Ev} (h : EvB l) (hs : ∀ e ∈ q, e ∈ ofK 2 l) (hq : q.length ≤ 10000) : MeasL q :=
 ⟨hq, fun e he => by have := (List.mem_filter.1 (hs e he)).2; simpa using this, fun e he => h.val e (List.mem_filter.1 (hs e he)).1⟩
theorem fstX_mem {ls : List Lk} {name : By} : ∀ (l : List Ev) (x : Ex), x ∈ fstX ls name l → ∃ e ∈ l, x = exE e := by
 have : ∀ (l : List Ev) (o : List Ex) (x : Ex), x ∈ l.foldl (fstN ls name) o → x ∈ o ∨ ∃ e ∈ l, x = exE e := by
  intro l
  induction l with
  | nil => intro o x h; exact .inl h
  | cons e r ih =>
   intro o x h
   rcases ih _ x h with h | ⟨e', h1, h2⟩
   ·unfold fstN at h
    split at h
    ·rcases List.mem_append.1 h with h | h
     ·exact .inl h
     ·rw [List.mem_singleton] at h; exact .inr ⟨e, List.mem_cons_self, h⟩
    ·exact .inl h
   ·exact .inr ⟨e', List.mem_cons_of_mem _ h1, h2⟩
 intro l x h
 rcases this l [] x h with h | h
 ·cases h
 ·exact h
theorem EvB.tim {l : List Ev} (h : EvB l) {m : Mt} (hm : mtC m = 0) (name : By) : Tim (fstS l name) m.window l :=
 ⟨by have := (mtC_rng hm).1; omega, fun x hx => by
  obtain ⟨e, he, rfl⟩ := fstX_mem _ x hx
  exact h.time e (List.mem_filter.1 he).1⟩
theorem samplesA (l : List Ev) (name : By) (m : Mt) (mark : Int) (hB : EvB l) (z1 : m.name.length ≤ 140737488355328) (z2 : m.below.length ≤ 140737488355328) :
  AFn Tryz.prog GS 43 [el l, tv name, mtA m, iv mark] 0 [] (Is (smL (if mtC m = 0 then smpS l name m mark else []))) := by
 have hlen := hB.len
 have hls : (lksE l).length ≤ 50000 := by unfold lksE; rw [List.length_map]; have := ofK_le 3 l; omega
 refine afnY_of Tryz.func43 rfl mixed (by kernel_rfl) ?_
 conv=>whnf
 (refine acall [] (by kernel_rfl) (mchk1 m z1 z2) rfl ?_ ?_; (focus trivial))
 conv=>whnf
 apply vif_split <;> intro h
 ·rw [if_neg (by simpa using h)]
  conv=>whnf
  exact aret [] (by trivial)
 have hm : mtC m = 0 := by simpa using h
 rw [if_pos hm]
 obtain ⟨rw, rc, rl, rb⟩ := mtC_rng hm
 have htm := hB.tim hm name
 conv=>whnf
 (refine acallF [] (by kernel_rfl) (meetA l (by omega)) ?_ ?_; (focus trivial))
 rintro _ _ _ ⟨rfl, rfl, rfl⟩
 conv=>whnf
 refine acallM [3, 4] [] (by kernel_rfl) (jfirstA (lksE l) [] l name hls (by omega)) rfl (by trivial) (by trivial) ?_
 rintro _ _ _ ⟨rfl, rfl, rfl⟩
 refine ⟨rfl, ?_⟩
 have hxl : (fstX (lksE l) name (ofK 1 l)).length ≤ 10000 := Nat.le_trans (fstX_len _ _ _) (Nat.le_trans (ofK_le 1 l) hlen)
 have hxs : fstX (lksE l) name (ofK 1 l) = fstS l name := rfl
 rw [hxs] at hxl ⊢
 have hall := smpN_all l name m mark
 have hsucc := fun (i : Nat) => smpN_succ (l := l) (name := name) (m := m) (mark := mark) (i := i)
 have hsl := smpN_len l name m mark
 have hse : ∀ k x, smpE l name m k x = ⟨x, lim m (mtV m (insE (lksE l) (fstS l name) m.window k x (ofK 2 l))), lim m (mtB m (insE (lksE l) (fstS l name) m.window k x (ofK 2 l))), if m.before = 0 then 0 else lim m (mtV m (befE (lksE l) m.before x (ofK 2 l))), mixE (lksE l) (fstS l name) name m.window k x (ofK 1 l)⟩ := fun _ _ => rfl
 generalize fstS l name = xs at *
 generalize tsF name [] (ofK 1 l) = ts1 at *
 conv=>whnf
 refine AMk.mk' (by_ := 24) xs.length (by rw [List.length_map]) (by rw [List.length_map]) ⟨by omega, by unfold maxLen; omega⟩ ?_
 conv=>whnf
 refine AMk.mk' (by_ := 1) xs.length (by rw [List.length_map]) (by rw [List.length_map]) ⟨by omega, by unfold maxLen; omega⟩ ?_
 conv=>whnf
 refine acallM [3, 4, 0, 5, 6, 2, 8, 7] [] (by kernel_rfl) (owned1G (lksE l) ts1 xs m l hls (by omega) hlen htm) rfl (by trivial) (by trivial) ?_
 rintro _ _ _ ⟨rfl, rfl, rfl⟩
 refine ⟨rfl, ?_⟩
 generalize tsO ts1 (ofK 2 l) = ts2 at *
 conv=>whnf
 refine acallM [3, 4, 0, 5, 6, 2, 10, 9, 1] [] (by kernel_rfl) (owned2A (lksE l) ts2 xs m l name hls (by omega) hlen htm) rfl ⟨(by trivial), (by trivial), (by trivial), (by trivial), (by trivial), (by trivial), (by trivial), ⟨rfl, rfl, ?_⟩, (by trivial), trivial⟩ (by trivial) ?_
 ·rw [mixB_nil, List.map_replicate]
  rfl
 rintro _ _ _ ⟨rfl, rfl, rfl⟩
 refine ⟨rfl, ?_⟩
 generalize tsO ts2 (ofK 1 l) = ts3 at *
 conv=>whnf
 refine aloop ws43_1 12 [44, 14] (fun x : Nat × List Int => [(44, iv x.1), (14, .own 11)]) (fun x => [(3, .var 145 [lksA (lksE l), .mp 4]), (4, .imap (Tm (lksE l) x.2)), (0, .var 41 [el l]), (5, .var 112 [.ptr 3 0]), (6, .var 57 [exL xs]), (2, mvB m), (8, .var 120 [.own 7]), (7, .rows 41 1 ((insL (lksE l) xs m.window (ofK 2 l)).map frzE)), (10, .var 121 [.own 9]), (9, .rows 4 1 ((mixB (lksE l) xs name m.window (ofK 1 l)).map boF)), (11, .rows 96 10 ((smpN l name m mark x.1).map smF))]) (fun x => x.1 ≤ xs.length) (fun x => xs.length - x.1) [(11, .nil)] [] (0, ts3) (by kernel_rfl) (fun _ => rfl) rfl (Nat.zero_le _) (by trivial) (by trivial) ?_
 rintro ⟨i, ts⟩ hi
 change i ≤ xs.length at hi
 conv=>whnf
 apply vif_split <;> intro h
 rotate_left 1
 ·have hie : i = xs.length := by simp at h; omega
  subst hie
  conv=>whnf
  exact aret [11] (by refine ⟨rfl, rfl, ?_⟩; rw [← hall])
 have hlt : i < xs.length := by simp at h; omega
 have hgx := List.getElem?_eq_getElem hlt
 have htx := htm.xs _ (List.getElem_mem hlt)
 have hs := hsucc i hlt
 have hins : (insL (lksE l) xs m.window (ofK 2 l))[i]? = some (insE (lksE l) xs m.window i xs[i] (ofK 2 l)) := by rw [insL_get, hgx]; rfl
 have hmix : (mixB (lksE l) xs name m.window (ofK 1 l))[i]? = some (mixE (lksE l) xs name m.window i xs[i] (ofK 1 l)) := by rw [mixB_get, hgx]; rfl
 have hMe : MeasL (insE (lksE l) xs m.window i xs[i] (ofK 2 l)) := hB.meas (insE_sub _ _ _ _ _ _) (Nat.le_trans (insE_len _ _ _ _ _ _) (Nat.le_trans (ofK_le 2 l) hlen))
 have hse := hse i xs[i]
 generalize insE (lksE l) xs m.window i xs[i] (ofK 2 l) = ins at *
 generalize mixE (lksE l) xs name m.window i xs[i] (ofK 1 l) = mx at *
 generalize xs[i] = x at *
 conv=>whnf
 refine AIn.mk' i rfl (lmZ hlt) ?_
 conv=>whnf
 refine ARd.mapAt hgx ?_
 conv=>whnf
 refine AAr.i64 (by omega) ?_
 conv=>whnf
 apply vif_split <;> intro h
 ·rw [if_neg (by simp at h; omega)] at hs
  conv=>whnf
  refine AAr.i64 (by omega) ?_
  conv=>whnf
  exact aback (i + 1, ts) [(11, .lab 11)] [] rfl (by show xs.length - (i + 1) < xs.length - i; omega) hlt ⟨(by trivial), (by trivial), (by trivial), (by trivial), (by trivial), (by trivial), (by trivial), (by trivial), (by trivial), (by trivial), ⟨rfl, rfl, by rw [hs]⟩, trivial⟩ (by trivial)
 rw [if_pos (by simp at h; omega)] at hs
 conv=>whnf
 (refine adraw pln43 [] (by kernel_rfl) ?_; conv=>whnf)
 refine AIn.mk' i rfl (by rw [List.length_map, mixB_len]; exact hlt) ?_
 conv=>whnf
 refine ARd.mapAt hmix ?_
 conv=>whnf
 (refine adraw pln43 [13] (by kernel_rfl) ?_; conv=>whnf)
 refine AIn.mk' i rfl (by rw [List.length_map, insL_len]; exact hlt) ?_
 conv=>whnf
 refine ARd.mapAt hins ?_
 conv=>whnf
 (refine acall [] (by kernel_rfl) (valueA m ins hm hMe z1 z2) rfl ?_ ?_; (focus trivial))
 conv=>whnf
 refine vif_split (fun hb => ?_) (fun hb => ?_)
 rotate_left 1
 ·rw [if_pos (by simpa using hb)] at hse
  conv=>whnf
  refine VReq.mk (app_ok (by have := hsl i; simp only [List.length_map, List.length_cons, List.length_nil]; omega) (by kernel_rfl)) ?_
  conv=>whnf
  refine AAr.i64 (by omega) ?_
  conv=>whnf
  refine aback (i + 1, ts) [(11, .lab 15)] [] rfl (by show xs.length - (i + 1) < xs.length - i; omega) hlt ⟨(by trivial), (by trivial), (by trivial), (by trivial), (by trivial), (by trivial), (by trivial), (by trivial), (by trivial), (by trivial), ⟨rfl, rfl, ?_⟩, trivial⟩ (by trivial)
  rw [hs, hse, List.map_append]
  rfl
 have hb0 : ¬ m.before = 0 := by simpa using hb
 rw [if_neg hb0] at hse
 conv=>whnf
 (refine acallF [] (by kernel_rfl) (jofA GS l 2) ?_ ?_; (focus trivial))
 rintro _ _ _ ⟨rfl, rfl, rfl⟩
 have hol := ofK_le 2 l
 conv=>whnf
 refine arange (jofI GS l 2 (by omega)) 16 (fun p => [(3, .var 145 [lksA (lksE l), .mp 4]), (4, .imap (Tm (lksE l) (tsB m.before x ts ((ofK 2 l).take p)))), (0, .var 41 [el l]), (5, .var 112 [.ptr 3 0]), (6, .var 57 [exL xs]), (2, mvB m), (8, .var 120 [.own 7]), (7, .rows 41 1 ((insL (lksE l) xs m.window (ofK 2 l)).map frzE)), (10, .var 121 [.own 9]), (9, .rows 4 1 ((mixB (lksE l) xs name m.window (ofK 1 l)).map boF)), (11, .rows 96 10 ((smpN l name m mark i).map smF)), (12, .var 60 ((exF x).map FV.up)), (13, .var 96 ((smF ⟨x, lim m (mtV m ins), lim m (mtB m ins), 0, mx⟩).map FV.up)), (14, .var 41 [.own 15]), (15, .rows 55 10 ((befE (lksE l) m.before x ((ofK 2 l).take p)).map enE))]) [(15, .nil)] [] rfl (by kernel_rfl) rfl (fun x hx => rng_1 x hx) rfl (by trivial) (fun p y hy => ?_) ?_
 ·obtain ⟨hp, rfl⟩ := rng_at hy
  have hsn : (ofK 2 l).take (p + 1) = (ofK 2 l).take p ++ [(ofK 2 l)[p]] := List.take_succ_eq_append_getElem hp
  have hte := hB.time _ (List.mem_filter.1 (List.getElem_mem hp)).1
  have h1 := befE_snoc (lksE l) m.before x ((ofK 2 l).take p) (ofK 2 l)[p]
  have h2 := tsB_snoc m.before x ts ((ofK 2 l).take p) (ofK 2 l)[p]
  have h3 := befE_len (lksE l) m.before x ((ofK 2 l).take p)
  rw [List.length_take] at h3
  rw [← hsn] at h1 h2
  generalize (ofK 2 l)[p] = e at *
  generalize befE (lksE l) m.before x ((ofK 2 l).take p) = bf at *
  generalize tsB m.before x ts ((ofK 2 l).take p) = ts' at *
  conv=>whnf
  (refine adraw pln43 [3, 4] (by kernel_rfl) ?_; conv=>whnf)
  refine AAr.i64 (by omega) ?_
  conv=>whnf
  refine vif_split (fun c1 => ?_) (fun c1 => ?_)
  rotate_left 1
  ·rw [if_neg (fun h => by simp at c1; omega)] at h1 h2
   conv=>whnf
   refine arback [(15, .lab 15)] [] rfl ⟨(by trivial), by rw [h2]; exact rfl, (by trivial), (by trivial), (by trivial), (by trivial), (by trivial), (by trivial), (by trivial), (by trivial), (by trivial), (by trivial), (by trivial), (by trivial), ⟨rfl, rfl, by rw [h1]⟩, trivial⟩
  conv=>whnf
  refine vif_split (fun c2 => ?_) (fun c2 => ?_)
  rotate_left 1
  ·rw [if_neg (fun h => by simp at c2; omega)] at h1 h2
   conv=>whnf
   refine arback [(15, .lab 15)] [] rfl ⟨(by trivial), by rw [h2]; exact rfl, (by trivial), (by trivial), (by trivial), (by trivial), (by trivial), (by trivial), (by trivial), (by trivial), (by trivial), (by trivial), (by trivial), (by trivial), ⟨rfl, rfl, by rw [h1]⟩, trivial⟩
  rw [if_pos (by simp at c1 c2; omega)] at h2
  conv=>whnf
  refine acallM [3, 4] [] (by kernel_rfl) (jrootA (lksE l) ts' x.time e.id (by omega)) rfl (by trivial) (by trivial) ?_
  rintro _ _ _ ⟨rfl, rfl, rfl⟩
  refine ⟨rfl, ?_⟩
  conv=>whnf
  refine acallM [3, 4] [] (by kernel_rfl) (jrootA (lksE l) (x.time :: ts') x.time x.id (by omega)) rfl (by trivial) (by trivial) ?_
  rintro _ _ _ ⟨rfl, rfl, rfl⟩
  refine ⟨rfl, ?_⟩
  rw [Tm_two]
  conv=>whnf
  refine vif_split (fun c3 => ?_) (fun c3 => ?_)
  rotate_left 1
  ·rw [if_neg (fun h => by rw [(sEq_iff _ _).2 h.2.2] at c3; cases c3)] at h1
   conv=>whnf
   refine arback [(15, .lab 15)] [] rfl ⟨(by trivial), by rw [h2]; exact rfl, (by trivial), (by trivial), (by trivial), (by trivial), (by trivial), (by trivial), (by trivial), (by trivial), (by trivial), (by trivial), (by trivial), (by trivial), ⟨rfl, rfl, by rw [h1]⟩, trivial⟩
  rw [if_pos ⟨by simpa using c1, by simpa using c2, (sEq_iff _ _).1 c3⟩] at h1
  conv=>whnf
  refine VReq.mk (app_ok (by simp only [List.length_map, List.length_cons, List.length_nil]; omega) (by kernel_rfl)) ?_
  conv=>whnf
  refine arback [(15, .lab 18)] [] rfl ⟨(by trivial), by rw [h2]; exact rfl, (by trivial), (by trivial), (by trivial), (by trivial), (by trivial), (by trivial), (by trivial), (by trivial), (by trivial), (by trivial), (by trivial), (by trivial), ⟨rfl, rfl, ?_⟩, trivial⟩
  rw [h1, List.map_append]
  rfl
 ·rw [show ((ofK 2 l).map fun e => [evA e]).length = (ofK 2 l).length from List.length_map _, List.take_length]
  have hMb : MeasL (befE (lksE l) m.before x (ofK 2 l)) := hB.meas (befE_sub _ _ _ _) (Nat.le_trans (befE_len _ _ _ _) (Nat.le_trans hol hlen))
  generalize befE (lksE l) m.before x (ofK 2 l) = bf at *
  conv=>whnf
  refine acall [15] (by kernel_rfl) (valueA m bf hm hMb z1 z2) rfl ?_ ?_; (focus trivial)
  conv=>whnf
  refine VReq.mk (app_ok (by have := hsl i; simp only [List.length_map, List.length_cons, List.length_nil]; omega) (by kernel_rfl)) ?_
  conv=>whnf
  refine AAr.i64 (by omega) ?_
  conv=>whnf
  refine aback (i + 1, tsB m.before x ts (ofK 2 l)) [(11, .lab 17)] [] rfl (by show xs.length - (i + 1) < xs.length - i; omega) hlt ⟨(by trivial), (by trivial), (by trivial), (by trivial), (by trivial), (by trivial), (by trivial), (by trivial), (by trivial), (by trivial), ⟨rfl, rfl, ?_⟩, trivial⟩ (by trivial)
  rw [hs, hse, List.map_append]
  rfl
end
section
open Go.RowKit Go.Proofs Go.Proofs.YtgfgndaoocfpdaaGreatDoor.Ky
theorem armN_snoc (q : List Ex) (since arm : Int) (e : Ex) : armN (q ++ [e]) since arm = armN q since arm + if since ≤ e.time ∧ e.arm = arm then 1 else 0 := by
 unfold armN
 rw [List.filter_append, List.length_append]
 by_cases h1 : since ≤ e.time <;> by_cases h2 : e.arm = arm <;> simp [h1, h2]
theorem armN_le (q : List Ex) (since arm : Int) : armN q since arm ≤ q.length := List.length_filter_le _ _
theorem illT_drop {f : Hl → Bool} {l : List Hl} {i : Nat} (h : i < l.length) : illT f (l.drop i) i = if f l[i] = true then (i : Int) else illT f (l.drop (i + 1)) (i + 1) := by
 rw [List.drop_eq_getElem_cons h]; rfl
theorem illT_rng (f : Hl → Bool) : ∀ (l : List Hl) (i : Nat), illT f l i = -1 ∨ 0 ≤ illT f l i := by
 intro l
 induction l with
 | nil => intro i; exact .inl rfl
 | cons h r ih =>
  intro i
  unfold illT
  split
  ·exact .inr (by omega)
  ·exact ih (i + 1)
def finT (F : List Ex) (mark : Int) (i : Nat) : List Ex := (F.take i).filter fun x => decide (x.time < mark)
theorem finT_succ {F : List Ex} {mark : Int} {i : Nat} (h : i < F.length) : finT F mark (i + 1) = if F[i].time < mark then finT F mark i ++ [F[i]] else finT F mark i := by
 unfold finT
 rw [List.take_succ_eq_append_getElem h, List.filter_append]
 by_cases h1 : F[i].time < mark <;> simp [h1]
theorem finT_len (F : List Ex) (mark : Int) (i : Nat) : (finT F mark i).length ≤ i := Nat.le_trans (List.length_filter_le _ _) (List.length_take_le _ _)
theorem smp_before {l : List Ev} {name : By} {m : Mt} {mark : Int} (hm : mtC m = 0) : ∀ s ∈ smpS l name m mark, I64 s.before := by
 intro s hs
 have hc := (mtC_rng hm).2.1
 unfold smpS at hs
 obtain ⟨p, _, rfl⟩ := List.mem_map.1 hs
 unfold smpE lim I64
 dsimp only
 split <;> omega
theorem smp_beforeI {l : List Ev} {name : By} {m : Mt} {mark : Int} : ∀ s ∈ (if mtC m = 0 then smpS l name m mark else []), I64 s.before := by
 intro s hs
 by_cases h : mtC m = 0
 ·rw [if_pos h] at hs; exact smp_before h s hs
 ·rw [if_neg h] at hs; cases hs
theorem smp_lenI (l : List Ev) (name : By) (m : Mt) (mark : Int) : (if mtC m = 0 then smpS l name m mark else []).length ≤ (fstS l name).length := by
 split
 ·unfold smpS
  rw [List.length_map]
  refine Nat.le_trans (List.length_filter_le _ _) ?_
  simp
 ·exact Nat.zero_le _
theorem fstS_len (l : List Ev) (name : By) : (fstS l name).length ≤ l.length := by
 unfold fstS
 have h1 := fstX_len (lksE l) name (ofK 1 l)
 have h2 := ofK_le 1 l
 omega
theorem pnC_ok {p : Pn} (h : ¬ pnC p ≠ 0) : ¬ plE p ∧ p.health.length ≤ 4 := by
 have h : pnC p = 0 := by omega
 unfold pnC at h
 split at h
 ·cases h
 split at h
 ·cases h
 split at h
 ·cases h
 ·exact ⟨by assumption, by omega⟩
theorem lastD_at {l : List Int} (h : 0 < l.length) : l[l.length - 1]? = some (lastD l) := by
 unfold lastD
 rw [List.getLastD_eq_getLast?, List.getLast?_eq_getElem?]
 rw [List.getElem?_eq_getElem (by omega)]
 rfl
attribute [local irreducible] mtC kyM fstS pnC balS alrS uppS lowS illP thr smpS
def acB (mark kind stage a b k i : Int) : ABlk := .var 46 [iv mark, iv kind, iv stage, iv a, iv b, iv k, iv i]
abbrev acB0 : ABlk := acB 0 0 0 0 0 0 0
theorem glookA (p : Pn) (l : List Ev) (w : List Wg) (stage since mark : Int) (hz : PnZ p) (hB : EvB l) (hw : w.length ≤ 100000) (hs1 : I64 stage) (hs2 : I64 since) (hs3 : I64 mark) :
  AFn Tryz.prog GS 16 [pnA p, el l, wgL w, iv stage, iv since, iv mark] 0 [] (Is (acA (lookS p l w stage since mark))) := by
 have hlen := hB.len
 obtain ⟨R, hR⟩ : ∃ R, R = lookS p l w stage since mark := ⟨_, rfl⟩
 rw [← hR]
 unfold lookS at hR
 have hck := gcheckA p hz
 refine afn_of Tryz.func16 rfl mixed (by kernel_rfl) ?_
 conv=>whnf
 (refine acall [] (by kernel_rfl) (hck) rfl ?_ ?_; (focus trivial))
 conv=>whnf
 apply vif_split <;> intro h
 ·have hc : pnC p ≠ 0 := by simpa using h
  rw [if_pos (.inl hc)] at hR
  subst hR
  conv=>whnf
  exact aret [] (by trivial)
 have hc : ¬ pnC p ≠ 0 := by simpa using h
 conv=>whnf
 apply vif_split <;> intro h
 ·have hm : mark < since := by simpa using h
  rw [if_pos (.inr hm)] at hR
  subst hR
  conv=>whnf
  exact aret [] (by trivial)
 have hm : ¬ mark < since := by simpa using h
 rw [if_neg (fun h => h.elim hc hm)] at hR
 unfold lookG finS at hR
 have hfl := fstS_len l p.exp
 have hF := jFirstA (G := GS) l p.exp (by omega)
 have hsm := fun (m : Mt) h1 h2 => samplesA l p.exp m mark hB h1 h2
 have hsl := fun (m : Mt) => smp_lenI l p.exp m mark
 have hfin : (fstS l p.exp).filter (fun x => decide (x.time < mark)) = finT (fstS l p.exp) mark (fstS l p.exp).length := by unfold finT; rw [List.take_length]
 rw [hfin] at hR
 generalize hFd : fstS l p.exp = F at *
 clear hfin
 conv=>whnf
 refine acallF [] (by kernel_rfl) hF ?_ ?_
 ·trivial
 rintro _ _ _ ⟨rfl, rfl, rfl⟩
 conv=>whnf
 refine aloop ws16_1 4 [14, 38] (fun i : Nat => [(14, .own 3), (38, iv i)]) (fun i => [(3, .rows 60 6 ((finT F mark i).map exF)), (2, acB mark 0 stage (armN (finT F mark i) since 1 : Nat) (armN (finT F mark i) since 2 : Nat) 4294967296 (-1)), (1, acB0), (0, pnB p)]) (fun i => i ≤ F.length) (fun i => F.length - i) [(3, .nil)] [] 0 (by kernel_rfl) (fun _ => rfl) rfl (Nat.zero_le _) (by trivial) (by trivial) ?_
 intro i hi
 have hql := finT_len F mark i
 have ha1 := armN_le (finT F mark i) since 1
 have ha2 := armN_le (finT F mark i) since 2
 conv=>whnf
 apply vif_split <;> intro h
 ·have hlt : i < F.length := by simp at h; omega
  have hg := List.getElem?_eq_getElem hlt
  have hn := finT_succ (mark := mark) hlt
  generalize F[i] = e at *
  have hn1 := armN_snoc (finT F mark i) since 1 e
  have hn2 := armN_snoc (finT F mark i) since 2 e
  generalize hq : finT F mark i = q at *
  conv=>whnf
  refine AIn.mk' i rfl (lmZ hlt) ?_
  conv=>whnf
  refine ARd.mapAt hg ?_
  conv=>whnf
  refine vif_split (fun h1 => ?_) (fun h1 => ?_)
  ·have c1 : ¬ e.time < mark := by simp only [decide_eq_true_eq] at h1; omega
   rw [if_neg c1] at hn
   conv=>whnf
   refine AAr.i64 (by omega) ?_
   conv=>whnf
   exact aback (i + 1) [(3, .lab 3)] [] rfl (by show F.length - (i + 1) < F.length - i; omega) hlt ⟨⟨rfl, rfl, by rw [hn]⟩, ⟨rfl, rfl, rfl, rfl, ciZ (by rw [hn]), ciZ (by rw [hn]), rfl, rfl, trivial⟩, (by trivial), (by trivial), trivial⟩ (by trivial)
  have c1 : e.time < mark := by simp only [decide_eq_false_iff_not] at h1; omega
  rw [if_pos c1] at hn
  rw [← hn] at hn1 hn2
  conv=>whnf
  refine VReq.mk (app_ok (by simp only [List.length_map, List.length_cons, List.length_nil]; omega) (by kernel_rfl)) ?_
  conv=>whnf
  have hmp : q.map exF ++ [exF e] = (q ++ [e]).map exF := by rw [List.map_append]; rfl
  by_cases hsi : since ≤ e.time
  rotate_left 1
  ·rw [if_neg (fun h' => hsi h'.1)] at hn1 hn2
   refine vif_split (fun h2 => ?_) (fun h2 => ?_)
   ·exfalso; simp only [decide_eq_true_eq] at h2; omega
   conv=>whnf
   refine vif_split (fun h2 => ?_) (fun h2 => ?_)
   ·exfalso; simp only [decide_eq_true_eq] at h2; omega
   conv=>whnf
   refine AAr.i64 (by omega) ?_
   conv=>whnf
   exact aback (i + 1) [(3, .lab 6)] [] rfl (by show F.length - (i + 1) < F.length - i; omega) hlt ⟨⟨rfl, rfl, by rw [hn]; exact hmp⟩, ⟨rfl, rfl, rfl, rfl, ciZ (by rw [hn1] <;> rfl), ciZ (by rw [hn2] <;> rfl), rfl, rfl, trivial⟩, (by trivial), (by trivial), trivial⟩ (by trivial)
  by_cases har1 : e.arm = 1
  ·rw [if_pos ⟨hsi, har1⟩] at hn1
   rw [if_neg (fun h' => by omega)] at hn2
   repeat' (first
    | (refine vif_split (fun h2 => ?_) (fun h2 => ?_) <;> (first | (exfalso; simp [har1] at h2; done) | (exfalso; simp at h2; omega) | (conv=>whnf))))
   refine AAr.i64 (by omega) ?_
   conv=>whnf
   repeat' (first
    | (refine vif_split (fun h2 => ?_) (fun h2 => ?_) <;> (first | (exfalso; simp [har1] at h2; done) | (exfalso; simp at h2; omega) | (conv=>whnf))))
   conv=>whnf
   refine AAr.i64 (by omega) ?_
   conv=>whnf
   exact aback (i + 1) [(3, .lab 6)] [] rfl (by show F.length - (i + 1) < F.length - i; omega) hlt ⟨⟨rfl, rfl, by rw [hn]; exact hmp⟩, ⟨rfl, rfl, rfl, rfl, ciZ (by rw [hn1] <;> rfl), ciZ (by rw [hn2] <;> rfl), rfl, rfl, trivial⟩, (by trivial), (by trivial), trivial⟩ (by trivial)
  rw [if_neg (fun h' => har1 h'.2)] at hn1
  by_cases har2 : e.arm = 2
  ·rw [if_pos ⟨hsi, har2⟩] at hn2
   repeat' (first
    | (refine vif_split (fun h2 => ?_) (fun h2 => ?_) <;> (first | (exfalso; simp [har2] at h2; done) | (exfalso; simp at h2; omega) | (conv=>whnf))))
   refine AAr.i64 (by omega) ?_
   conv=>whnf
   refine AAr.i64 (by omega) ?_
   conv=>whnf
   exact aback (i + 1) [(3, .lab 6)] [] rfl (by show F.length - (i + 1) < F.length - i; omega) hlt ⟨⟨rfl, rfl, by rw [hn]; exact hmp⟩, ⟨rfl, rfl, rfl, rfl, ciZ (by rw [hn1] <;> rfl), ciZ (by rw [hn2] <;> rfl), rfl, rfl, trivial⟩, (by trivial), (by trivial), trivial⟩ (by trivial)
  rw [if_neg (fun h' => har2 h'.2)] at hn2
  repeat' (first
   | (refine vif_split (fun h2 => ?_) (fun h2 => ?_) <;> (first | (exfalso; simp [har1, har2] at h2; done) | (exfalso; simp at h2; omega) | (conv=>whnf))))
  conv=>whnf
  refine AAr.i64 (by omega) ?_
  conv=>whnf
  exact aback (i + 1) [(3, .lab 6)] [] rfl (by show F.length - (i + 1) < F.length - i; omega) hlt ⟨⟨rfl, rfl, by rw [hn]; exact hmp⟩, ⟨rfl, rfl, rfl, rfl, ciZ (by rw [hn1] <;> rfl), ciZ (by rw [hn2] <;> rfl), rfl, rfl, trivial⟩, (by trivial), (by trivial), trivial⟩ (by trivial)
 have hie : i = F.length := by simp at h; omega
 subst hie
 generalize hq : finT F mark F.length = q at *
 have hbl := bsP_len w q
 conv=>whnf
 refine acallF [3] (by kernel_rfl) (bpathA (G := GS) q w (by omega) hw) ?_ ?_
 ·trivial
 rintro _ _ _ ⟨rfl, rfl, rfl⟩
 rw [show (bsP w q).out = balS q w by rw [balS]] at hbl
 obtain ⟨hpe, hhl⟩ := pnC_ok hc
 unfold plE at hpe
 have hzm := hz.m
 have hal := balarmA (G := GS) q w p.level (by omega) hw
 have hI : illT (illP l w p mark) p.health 0 = illS l w p mark := rfl
 have hPd : ∀ x : Hl, illP l w p mark x = (decide (uppS (scrS l w p.exp x.m mark) p.level < x.lo) || decide (x.hi < lowS (scrS l w p.exp x.m mark) p.level)) := fun x => by rw [illP]
 have hK1 : 0 < (balS q w).length → (balS q w)[(balS q w).length - 1]? = some (lastD (balS q w)) := lastD_at
 have hK0 : (balS q w).length = 0 → lastD (balS q w) = 4294967296 := fun h => by rw [List.eq_nil_of_length_eq_zero h]; rfl
 dsimp only at hR
 generalize armN q since 1 = a at *
 generalize armN q since 2 = b at *
 generalize lastD (balS q w) = K at *
 generalize balS q w = path at *
 generalize alrS q w p.level = al at *
 generalize illS l w p mark = I at *
 conv=>whnf
 refine vif_split (fun h0 => ?_) (fun h0 => ?_)
 focus
  have hp : 0 < path.length := by simp only [List.length_map, decide_eq_true_eq] at h0; omega
  have hk := hK1 hp
  conv=>whnf
  refine AAr.i64 (by simp only [List.length_map]; omega) ?_
  conv=>whnf
  refine AIn.mk' (path.length - 1) (by simp only [List.length_map]; omega) (by rw [List.length_map]; omega) ?_
  conv=>whnf
  refine ARd.mapAt hk ?_
 rotate_left 1
 focus
  have hp : path.length = 0 := by simp only [List.length_map, decide_eq_false_iff_not] at h0; omega
  have hk := hK0 hp
  rw [← hk]
 all_goals
  clear hK0 hK1
  conv=>whnf
  (refine acall [] (by kernel_rfl) (hal) rfl ?_ ?_; (focus trivial))
  conv=>whnf
  refine vif_split (fun h1 => ?_) (fun h1 => ?_)
  ·have c1 : 0 < al := by simp at h1; omega
   rw [if_pos c1] at hR
   subst hR
   conv=>whnf
   exact aret [] (by trivial)
  have c1 : ¬ 0 < al := by simp at h1; omega
  rw [if_neg c1] at hR
  conv=>whnf
  refine aloop ws16_2 4 [101] (fun i : Nat => [(101, iv i)]) (fun _ => [(3, .fz 6 (q.map exF)), (2, acB mark 0 stage a b K (-1)), (1, acB0), (0, pnB p)]) (fun i => i ≤ p.health.length ∧ illT (illP l w p mark) (p.health.drop i) i = I) (fun i => p.health.length - i) [] [] 0 (by kernel_rfl) (fun _ => rfl) rfl ⟨Nat.zero_le _, hI⟩ (by trivial) (by trivial) ?_
  rintro i ⟨hi2, hI2⟩
  conv=>whnf
  refine vif_split (fun h2 => ?_) (fun h2 => ?_)
  rotate_left 1
  ·have hie : i = p.health.length := by simp at h2; omega
   subst hie
   rw [List.drop_length] at hI2
   have hI3 : I = -1 := hI2.symm
   rw [if_neg (by omega)] at hR
   conv=>whnf
   refine AAr.i64 (by omega) ?_
   conv=>whnf
   refine vif_split (fun h3 => ?_) (fun h3 => ?_)
   ·have c2 : (a : Int) + b < p.needed := by simpa using h3
    rw [if_pos (.inl c2)] at hR
    subst hR
    conv=>whnf
    repeat' (refine vif_split (fun h9 => ?_) (fun h9 => ?_) <;> (first | (exfalso; simp only [decide_eq_true_eq, decide_eq_false_iff_not, gt_iff_lt, ge_iff_le, cond_true, cond_false] at h9; omega) | (conv=>whnf)))
    exact aret [] (by trivial)
   have c2 : ¬ (a : Int) + b < p.needed := by simpa using h3
   conv=>whnf
   refine AAr.to (y := mark % 18446744073709551616) (wrU mark) ?_
   conv=>whnf
   refine AAr.to (y := since % 18446744073709551616) (wrU since) ?_
   conv=>whnf
   refine AAr.to (y := (mark - since) % 18446744073709551616) (show IntKind.u64.wrap (mark % 18446744073709551616 - since % 18446744073709551616) = _ by rw [wrU]; omega) ?_
   conv=>whnf
   refine AAr.to (y := p.hold) (by rw [wrU]; omega) ?_
   generalize (mark - since) % 18446744073709551616 = df at *
   conv=>whnf
   refine vif_split (fun h4 => ?_) (fun h4 => ?_)
   ·have c3 : df < p.hold := by simpa using h4
    rw [if_pos (.inr c3)] at hR
    subst hR
    conv=>whnf
    repeat' (refine vif_split (fun h9 => ?_) (fun h9 => ?_) <;> (first | (exfalso; simp only [decide_eq_true_eq, decide_eq_false_iff_not, gt_iff_lt, ge_iff_le, cond_true, cond_false] at h9; omega) | (conv=>whnf)))
    exact aret [] (by trivial)
   have c3 : ¬ df < p.hold := by simpa using h4
   rw [if_neg (fun h' => h'.elim c2 c3)] at hR
   conv=>whnf
   repeat' (refine vif_split (fun h9 => ?_) (fun h9 => ?_) <;> (first | (exfalso; simp only [decide_eq_true_eq, decide_eq_false_iff_not, gt_iff_lt, ge_iff_le, cond_true, cond_false] at h9; omega) | (conv=>whnf)))
   refine AAr.i64 (by omega) ?_
   conv=>whnf
   refine vif_split (fun h5 => ?_) (fun h5 => ?_)
   ·have c4 : p.stages - 1 ≤ stage := by simpa using h5
    rw [if_pos c4] at hR
    subst hR
    conv=>whnf
    repeat' (refine vif_split (fun h9 => ?_) (fun h9 => ?_) <;> (first | (exfalso; simp only [decide_eq_true_eq, decide_eq_false_iff_not, gt_iff_lt, ge_iff_le, cond_true, cond_false] at h9; omega) | (conv=>whnf)))
    exact aret [] (by trivial)
   ·have c4 : ¬ p.stages - 1 ≤ stage := by simpa using h5
    rw [if_neg c4] at hR
    subst hR
    conv=>whnf
    repeat' (refine vif_split (fun h9 => ?_) (fun h9 => ?_) <;> (first | (exfalso; simp only [decide_eq_true_eq, decide_eq_false_iff_not, gt_iff_lt, ge_iff_le, cond_true, cond_false] at h9; omega) | (conv=>whnf)))
    exact aret [] (by trivial)
  have hlt2 : i < p.health.length := by simp at h2; omega
  have hg2 := List.getElem?_eq_getElem hlt2
  have hm2 := hzm _ (List.getElem_mem hlt2)
  rw [illT_drop hlt2] at hI2
  generalize p.health[i] = x at *
  have hPx := hPd x
  have hS := hsm x.m hm2.1 hm2.2
  have hSl := hsl x.m
  have hSb := smp_beforeI (l := l) (name := p.exp) (m := x.m) (mark := mark)
  have hsc : scrS l w p.exp x.m mark = allS (if mtC x.m = 0 then smpS l p.exp x.m mark else []) w x.m.cap (decide (0 < x.m.before)) := rfl
  generalize (if mtC x.m = 0 then smpS l p.exp x.m mark else []) = S at *
  have hAl := allA (G := GS) S w x.m.cap (decide (0 < x.m.before)) hSb (by omega) hw
  have hAn := allS_len S w x.m.cap (decide (0 < x.m.before))
  rw [← hsc] at hAl hAn
  generalize scrS l w p.exp x.m mark = Z at *
  have hUp := upperA (G := GS) Z p.level (by omega)
  have hLo := lowerA (G := GS) Z p.level (by omega)
  generalize uppS Z p.level = u at *
  generalize lowS Z p.level = lw at *
  conv=>whnf
  refine AIn.mk' i rfl (lmZ hlt2) ?_
  conv=>whnf
  refine ARd.mapAt hg2 ?_
  conv=>whnf
  (refine adraw pln16 [] (by kernel_rfl) ?_; conv=>whnf)
  refine acallF [] (by kernel_rfl) hS ?_ ?_
  ·trivial
  rintro _ _ _ ⟨rfl, rfl, rfl⟩
  conv=>whnf
  refine acallF [] (by kernel_rfl) hAl ?_ ?_
  ·trivial
  rintro _ _ _ ⟨rfl, rfl, rfl⟩
  conv=>whnf
  (refine adraw pln16 [] (by kernel_rfl) ?_; conv=>whnf)
  (refine acall [] (by kernel_rfl) (hUp) rfl ?_ ?_; (focus trivial))
  conv=>whnf
  refine vif_split (fun h3 => ?_) (fun h3 => ?_)
  ·have c2 : u < x.lo := by simpa using h3
   rw [hPx, decide_eq_true c2, Bool.true_or, if_pos rfl] at hI2
   rw [if_pos (by omega)] at hR
   subst hR
   conv=>whnf
   exact aret [] ⟨rfl, rfl, rfl, rfl, rfl, rfl, ciZ hI2, trivial⟩
  have c2 : ¬ u < x.lo := by simpa using h3
  conv=>whnf
  (refine acall [] (by kernel_rfl) (hLo) rfl ?_ ?_; (focus trivial))
  conv=>whnf
  refine vif_split (fun h4 => ?_) (fun h4 => ?_)
  ·have c3 : x.hi < lw := by simpa using h4
   rw [hPx, decide_eq_true c3, Bool.or_true, if_pos rfl] at hI2
   rw [if_pos (by omega)] at hR
   subst hR
   conv=>whnf
   exact aret [] ⟨rfl, rfl, rfl, rfl, rfl, rfl, ciZ hI2, trivial⟩
  have c3 : ¬ x.hi < lw := by simpa using h4
  rw [hPx, decide_eq_false c2, decide_eq_false c3, Bool.false_or, if_neg (by decide)] at hI2
  conv=>whnf
  refine AAr.i64 (by omega) ?_
  conv=>whnf
  exact aback (i + 1) [] [] rfl (by show p.health.length - (i + 1) < p.health.length - i; omega) ⟨hlt2, hI2⟩ (by trivial) (by trivial)
end
end Go.Proofs.YtgfgndaoocfpdaaGreatDoor.Cl
