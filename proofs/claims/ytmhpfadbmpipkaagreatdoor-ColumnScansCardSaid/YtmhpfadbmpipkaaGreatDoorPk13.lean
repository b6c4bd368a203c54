/- Joined parts of the proof. Lists of texts in plain Lean: sorted without repetitions, how they are written, and what is known of a reading if the by -/
import Derived.Test.YtmhpfadbmpipkaaGreatDoorPk12
import Derived.Sort.Walk0
import Derived.Test.YtmhpfadbmpipkaaGreatDoorPk8
import Derived.Test.YtmhpfadbmpipkaaGreatDoorPk9
set_option linter.unusedVariables false
set_option linter.unusedSimpArgs false
set_option maxRecDepth 100000
set_option maxHeartbeats 16000000
namespace Go.Proofs.YtmhpfadbmpipkaaGreatDoor.Cl
abbrev Tx := List By
theorem tlt_irr (a : By) : ¬ a < a := List.lt_irrefl a
theorem tlt_tr {a b c : By} (h1 : a < b) (h2 : b < c) : a < c := List.lt_trans h1 h2
theorem tlt_tri {a b : By} (h1 : ¬ a < b) (h2 : a ≠ b) : b < a := by
  by_cases h : b < a
  · exact h
  · exact absurd (List.le_antisymm (List.not_lt.1 h) (List.not_lt.1 h1)) h2
theorem tlt_asym {a b : By} (h1 : a < b) (h2 : b < a) : False := tlt_irr a (tlt_tr h1 h2)
def insT (d : Tx) (x : By) : Tx :=
  match d with
  | [] => [x]
  | y :: r => if y < x then y :: insT r x else if y = x then y :: r else x :: y :: r
def dsT (l : Tx) : Tx := l.foldl insT []
def idxT : Tx → By → Nat
  | [], _ => 0
  | y :: r, x => if y = x then 0 else idxT r x + 1
def SST (d : Tx) : Prop := d.Pairwise (· < ·)
theorem insT_mem (d : Tx) (x y : By) : y ∈ insT d x ↔ y ∈ d ∨ y = x := by
  induction d with
  | nil => simp [insT]
  | cons z r ih =>
    unfold insT
    split
    · simp only [List.mem_cons, ih, or_assoc]
    · split
      · rename_i e; subst e; simp only [List.mem_cons]; constructor
        · intro h; exact .inl h
        · rintro (h | rfl)
          · exact h
          · exact .inl rfl
      · simp only [List.mem_cons]; constructor
        · rintro (h | h | h)
          · exact .inr h
          · exact .inl (.inl h)
          · exact .inl (.inr h)
        · rintro ((h | h) | h)
          · exact .inr (.inl h)
          · exact .inr (.inr h)
          · exact .inl h
theorem insT_ss {d : Tx} {x : By} (h : SST d) : SST (insT d x) := by
  induction d with
  | nil => simp [insT, SST]
  | cons z r ih =>
    have h1 := List.pairwise_cons.1 h
    unfold insT
    split
    · rename_i hz
      refine List.pairwise_cons.2 ⟨fun a ha => ?_, ih h1.2⟩
      rcases (insT_mem r x a).1 ha with h2 | h2
      · exact h1.1 a h2
      · rw [h2]; exact hz
    · split
      · exact h
      · rename_i n1 n2
        have hx := tlt_tri n1 n2
        refine List.pairwise_cons.2 ⟨fun a ha => ?_, h⟩
        rcases List.mem_cons.1 ha with h2 | h2
        · rw [h2]; exact hx
        · exact tlt_tr hx (h1.1 a h2)
theorem dsT_snoc (l : Tx) (x : By) : dsT (l ++ [x]) = insT (dsT l) x := by simp [dsT]
theorem dsT_fold (l : Tx) : ∀ d, SST d → SST (l.foldl insT d) ∧ ∀ y, y ∈ l.foldl insT d ↔ y ∈ d ∨ y ∈ l := by
  induction l with
  | nil => intro d h; simp [h]
  | cons x r ih =>
    intro d h
    have := ih (insT d x) (insT_ss h)
    refine ⟨this.1, fun y => ?_⟩
    rw [List.foldl_cons, this.2 y, insT_mem, List.mem_cons, or_assoc]
theorem dsT_ss (l : Tx) : SST (dsT l) := (dsT_fold l [] List.Pairwise.nil).1
theorem dsT_mem (l : Tx) (y : By) : y ∈ dsT l ↔ y ∈ l := by rw [dsT, (dsT_fold l [] List.Pairwise.nil).2 y]; simp
theorem ssT_uniq {a : Tx} : ∀ {b : Tx}, SST a → SST b → (∀ y, y ∈ a ↔ y ∈ b) → a = b := by
  induction a with
  | nil => intro b _ _ h; cases b with
    | nil => rfl
    | cons y r => exact absurd ((h y).2 List.mem_cons_self) (by simp)
  | cons x r ih =>
    intro b ha hb h
    have h1 := List.pairwise_cons.1 ha
    cases b with
    | nil => exact absurd ((h x).1 List.mem_cons_self) (by simp)
    | cons y s =>
      have h2 := List.pairwise_cons.1 hb
      have e : x = y := by
        have m1 := (h x).1 List.mem_cons_self
        have m2 := (h y).2 List.mem_cons_self
        rcases List.mem_cons.1 m1 with e | e
        · exact e
        · rcases List.mem_cons.1 m2 with e2 | e2
          · exact e2.symm
          · exact (tlt_asym (h1.1 y e2) (h2.1 x e)).elim
      subst e
      congr 1
      refine ih h1.2 h2.2 fun z => ⟨fun hz => ?_, fun hz => ?_⟩
      · rcases List.mem_cons.1 ((h z).1 (List.mem_cons_of_mem _ hz)) with e | e
        · have := h1.1 z hz; rw [e] at this; exact (tlt_irr _ this).elim
        · exact e
      · rcases List.mem_cons.1 ((h z).2 (List.mem_cons_of_mem _ hz)) with e | e
        · have := h2.1 z hz; rw [e] at this; exact (tlt_irr _ this).elim
        · exact e
theorem dsT_of {l d : Tx} (h1 : SST d) (h2 : ∀ y, y ∈ d ↔ y ∈ l) : d = dsT l := ssT_uniq h1 (dsT_ss l) fun y => by rw [h2, dsT_mem]
theorem insT_len (d : Tx) (x : By) : (insT d x).length ≤ d.length + 1 := by
  induction d with
  | nil => simp [insT]
  | cons y r ih => unfold insT; split
                   · simp only [List.length_cons]; omega
                   · split <;> simp
theorem dsT_len (l : Tx) : (dsT l).length ≤ l.length := by
  have : ∀ (l d : Tx), (l.foldl insT d).length ≤ d.length + l.length := by
    intro l
    induction l with
    | nil => intro d; simp
    | cons x r ih => intro d; have h1 := ih (insT d x); have h2 := insT_len d x; simp only [List.foldl_cons, List.length_cons]; omega
  have := this l []
  simpa [dsT] using this
theorem idxT_lt {d : Tx} {x : By} (h : x ∈ d) : idxT d x < d.length ∧ d[idxT d x]? = some x := by
  induction d with
  | nil => cases h
  | cons y r ih =>
    unfold idxT
    by_cases e : y = x
    · rw [if_pos e]; simp [e]
    · rw [if_neg e]
      have := ih (by rcases List.mem_cons.1 h with h | h; exact absurd h.symm e; exact h)
      simp only [List.length_cons, List.getElem?_cons_succ]
      exact ⟨by omega, this.2⟩
theorem ssT_lt {d : Tx} (hd : SST d) {i j : Nat} {x y : By} (h : i < j) (h1 : d[i]? = some x) (h2 : d[j]? = some y) : x < y := by
  obtain ⟨hi, e1⟩ := List.getElem?_eq_some_iff.1 h1
  obtain ⟨hj, e2⟩ := List.getElem?_eq_some_iff.1 h2
  rw [← e1, ← e2]
  exact List.pairwise_iff_getElem.1 hd i j hi hj h
theorem insT_split : ∀ (d : Tx) (x : By) (k : Nat), k ≤ d.length → (∀ j (h1 : j < k) (h2 : j < d.length), d[j] < x) → (∀ h : k < d.length, ¬ d[k] < x) → insT d x = if ∃ h : k < d.length, d[k] = x then d else d.take k ++ [x] ++ d.drop k := by
  intro d
  induction d with
  | nil =>
    intro x k hk _ _
    have : k = 0 := by simpa using hk
    subst this; simp [insT]
  | cons y r ih =>
    intro x k hk h1 h2
    unfold insT
    cases k with
    | zero =>
      have h3 : ¬ y < x := h2 (by simp)
      rw [if_neg h3]
      by_cases e : y = x
      · rw [if_pos e, if_pos ⟨by simp, e⟩]
      · rw [if_neg e, if_neg (by rintro ⟨_, h⟩; exact e h)]; simp
    | succ k =>
      have h3 : y < x := h1 0 (by omega) (by simp)
      rw [if_pos h3]
      have := ih x k (by simpa using hk) (fun j hj hjl => h1 (j + 1) (by omega) (by simp; omega)) (fun h => h2 (by simp; omega))
      rw [this]
      by_cases e : ∃ h : k < r.length, r[k] = x
      · rw [if_pos e, if_pos (by obtain ⟨h, e⟩ := e; exact ⟨by simp; omega, e⟩)]
      · rw [if_neg e, if_neg (by rintro ⟨h, e2⟩; exact e ⟨by simpa using h, e2⟩)]; simp
theorem idxT_first {d : Tx} {k : Nat} {x : By} {h : k < d.length} (e : d[k] = x) : idxT d x ≤ k := by
  induction d generalizing k with
  | nil => simp at h
  | cons y r ih =>
    unfold idxT
    split
    · omega
    · rename_i hy
      cases k with
      | zero => exact absurd e hy
      | succ k => have := ih (k := k) (h := by simpa using h) (by simpa using e); omega
def srtT (l : Tx) : Tx := l.mergeSort fun x y => decide (x ≤ y)
theorem srtT_len (l : Tx) : (srtT l).length = l.length := List.length_mergeSort l
theorem srtT_mem (l : Tx) (y : By) : y ∈ srtT l ↔ y ∈ l := List.mem_mergeSort
theorem srtT_sorted (l : Tx) : (srtT l).Pairwise (· ≤ ·) := by
  have := List.pairwise_mergeSort (le := fun x y : By => decide (x ≤ y)) (fun a b c h1 h2 => by simp only [decide_eq_true_eq] at *; exact List.le_trans h1 h2) (fun a b => by simp only [Bool.or_eq_true, decide_eq_true_eq]; exact List.le_total a b) l
  exact this.imp fun h => by simpa using h
theorem cmpT_spec (z : Tx) (hs : z.Pairwise (· ≤ ·)) : ∀ m, m ≤ z.length → SST (Go.Lib.compactUpTo z.toArray m) ∧ ∀ y, y ∈ Go.Lib.compactUpTo z.toArray m ↔ y ∈ z.take m := by
  intro m
  induction m with
  | zero => intro _; simp [Go.Lib.compactUpTo, SST]
  | succ m ih =>
    intro hm
    have hlt : m < z.length := by omega
    obtain ⟨h1, h2⟩ := ih (by omega)
    have em : z.toArray[m]! = z[m] := by simp [hlt]
    have le : ∀ j (hj : j < m), z[j]'(by omega) ≤ z[m] := fun j hj => List.pairwise_iff_getElem.1 hs j m (by omega) hlt hj
    rw [Go.Lib.compactUpTo_succ, List.take_succ_eq_append_getElem hlt, em]
    by_cases hk : Go.Lib.keeps z.toArray m = true
    · rw [if_pos hk]
      refine ⟨List.pairwise_append.2 ⟨h1, List.pairwise_singleton _ _, fun a ha b hb => ?_⟩, fun y => by simp only [List.mem_append, h2, List.mem_singleton]⟩
      rw [List.mem_singleton.1 hb]
      obtain ⟨j, hj, e⟩ := List.getElem_of_mem ((h2 a).1 ha)
      rw [List.length_take] at hj
      rw [List.getElem_take] at e
      have hjm : j < m := by omega
      have hne : z[m - 1]'(by omega) ≠ z[m] := by
        unfold Go.Lib.keeps at hk
        rw [decide_eq_true_eq] at hk
        rcases hk with h | h
        · omega
        · rw [em] at h
          have e1 : z.toArray[m - 1]! = z[m - 1]'(by omega) := by simp [show m - 1 < z.length by omega]
          rw [e1] at h
          exact fun e => h e.symm
      have l1 : z[m - 1]'(by omega) ≤ z[m] := le (m - 1) (by omega)
      have l2 : z[j]'(by omega) ≤ z[m - 1]'(by omega) := by
        rcases Nat.lt_or_ge j (m - 1) with h | h
        · exact List.pairwise_iff_getElem.1 hs j (m - 1) (by omega) (by omega) h
        · have : j = m - 1 := by omega
          subst this; exact List.le_refl _
      have l3 : z[m - 1]'(by omega) < z[m] := by
        by_cases h : z[m - 1]'(by omega) < z[m]
        · exact h
        · exact absurd (List.le_antisymm l1 (List.not_lt.1 h)) hne
      rw [← e]
      exact List.lt_of_le_of_lt l2 l3
    · rw [if_neg hk, List.append_nil]
      refine ⟨h1, fun y => ?_⟩
      rw [h2, List.mem_append, List.mem_singleton]
      constructor
      · exact .inl
      · rintro (h | h)
        · exact h
        · unfold Go.Lib.keeps at hk
          rw [decide_eq_true_eq] at hk
          have h0 : 0 < m := by
            rcases Nat.eq_zero_or_pos m with e | e
            · exact absurd (.inl e) hk
            · exact e
          have e1 : z.toArray[m - 1]! = z[m - 1]'(by omega) := by simp [show m - 1 < z.length by omega]
          have e2 : z[m] = z[m - 1]'(by omega) := by
            rw [em, e1] at hk
            exact Classical.byContradiction fun h => hk (.inr h)
          rw [h, e2]
          exact List.mem_iff_getElem.2 ⟨m - 1, by rw [List.length_take]; omega, by rw [List.getElem_take]⟩
theorem compact_dsT (l : Tx) : Go.Lib.compact (srtT l) = dsT l := by
  have h := cmpT_spec (srtT l) (srtT_sorted l) (srtT l).length (Nat.le_refl _)
  rw [List.take_length] at h
  exact dsT_of h.1 fun y => by
    have := h.2 y
    rw [srtT_mem] at this
    exact this
def putT (s : By) : By := num (s.length : Int) ++ s
def ixT (d l : Tx) : Li := l.map fun s => ((idxT d s : Nat) : Int)
def txs (l : Tx) : By := num ((dsT l).length : Int) ++ (dsT l).flatMap putT ++ ints (ixT (dsT l) l)
def TOK (l : Tx) : Prop := ∀ s ∈ l, s.length ≤ 200
theorem ixT_all (d l : Tx) (hl : ∀ x ∈ l, x ∈ d) (hd : d.length ≤ 1000000) : AllI (ixT d l) := fun x hx => by
  obtain ⟨s, hs, e⟩ := List.mem_map.1 hx
  have := (idxT_lt (hl s hs)).1
  rw [← e]; exact i64_nat (by omega)
theorem ixT_len (d l : Tx) : (ixT d l).length = l.length := List.length_map _
theorem putT_len (s : By) (h : s.length ≤ 200) : (putT s).length ≤ 210 ∧ 0 < (putT s).length := by
  have := num_len (s.length : Int)
  unfold putT
  rw [List.length_append]; omega
theorem TOK.ds {l : Tx} (h : TOK l) : TOK (dsT l) := fun s hs => h s ((dsT_mem l s).1 hs)
theorem TOK.take {l : Tx} (h : TOK l) (k : Nat) : TOK (l.take k) := fun s hs => h s (List.mem_of_mem_take hs)
theorem keys_len (d : Tx) (h : TOK d) : (d.flatMap putT).length ≤ 210 * d.length := fm_len putT 210 d fun s hs => (putT_len s (h s hs)).1
theorem txs_len (l : Tx) (h : TOK l) (hl : l.length ≤ 512) : (txs l).length ≤ 5134 + 210 * l.length := by
  have h1 := keys_len (dsT l) h.ds
  have h2 := dsT_len l
  have h3 := (num_len ((dsT l).length : Int)).2
  have h4 := ints_short (ixT (dsT l) l) (by rw [ixT_len]; exact hl)
  unfold txs
  simp only [List.length_append]
  omega
def txT (b : By) (e : Int) : By × Nat × Int :=
  let c := cnT b e 200 4
  if c.2.2 = 0 then (if ((b.drop c.2.1).length : Int) < c.1 then ([], c.2.1, 16) else ((b.drop c.2.1).take c.1.toNat, c.2.1 + c.1.toNat, 0)) else ([], c.2.1, c.2.2)
theorem txT_def (b : By) (e : Int) : txT b e = if (cnT b e 200 4).2.2 = 0 then (if ((b.drop (cnT b e 200 4).2.1).length : Int) < (cnT b e 200 4).1 then ([], (cnT b e 200 4).2.1, 16) else ((b.drop (cnT b e 200 4).2.1).take (cnT b e 200 4).1.toNat, (cnT b e 200 4).2.1 + (cnT b e 200 4).1.toNat, 0)) else ([], (cnT b e 200 4).2.1, (cnT b e 200 4).2.2) := rfl
theorem txT_ok (b : By) (e : Int) : (txT b e).1.length ≤ 200 ∧ (txT b e).2.1 ≤ b.length ∧ ((txT b e).2.2 = 0 → e = 0 ∧ b = putT (txT b e).1 ++ b.drop (txT b e).2.1 ∧ (txT b e).2.1 = (putT (txT b e).1).length) ∧ ((txT b e).2.2 ≠ 0 → (txT b e).1 = []) := by
  have hr := cnT_rng b e 200 4 (by decide) (by decide)
  have o := rnT_ok b e
  rw [txT_def]
  generalize cnT b e 200 4 = c at *
  obtain ⟨x, k, e'⟩ := c
  simp only at hr ⊢
  obtain ⟨h1, h2, h3, h4⟩ := hr
  by_cases he : e' = 0
  · rw [if_pos he]
    have h5 := h4 he
    have o3 := o.2.2.1 h5.1
    rw [← h5.2, ← h3] at o3
    have hk : k ≤ b.length := by rw [h3]; exact o.2.1
    by_cases hs : ((b.drop k).length : Int) < x
    · rw [if_pos hs]
      exact ⟨by simp, hk, fun h => by simp at h, fun _ => rfl⟩
    · rw [if_neg hs]
      have hl : (b.drop k).length = b.length - k := List.length_drop
      have hx : ((x.toNat : Nat) : Int) = x := by omega
      have ht : ((b.drop k).take x.toNat).length = x.toNat := by rw [List.length_take]; omega
      have hp : putT ((b.drop k).take x.toNat) = num x ++ (b.drop k).take x.toNat := by unfold putT; rw [ht, hx]
      refine ⟨by simp only [ht]; omega, by simp only; omega, fun _ => ⟨o3.1, ?_, ?_⟩, fun h => absurd rfl h⟩
      · simp only
        rw [hp, ← List.drop_drop, List.append_assoc, List.take_append_drop]
        exact o3.2.1
      · simp only
        rw [hp, List.length_append, ht, ← o3.2.2]
  · rw [if_neg he]
    exact ⟨by simp, by simp only; rw [h3]; exact o.2.1, fun h => absurd h he, fun _ => rfl⟩
theorem cnT_of {b : By} {e most em : Int} {n : Nat} (h1 : (rnT b e).1 = (n : Int)) (h2 : (rnT b e).2.2 = 0) (hm : (n : Int) ≤ most) : cnT b e most em = ((n : Int), (rnT b e).2.1, 0) := by
  rw [cnT_def, h1, h2]
  have a1 : ¬ ((n : Int) < 0) := by omega
  have a2 : ¬ (most < (n : Int)) := by omega
  simp only [a1, a2, if_true, if_false]
theorem txT_put {s b r : By} (hs : s.length ≤ 200) (h : b = putT s ++ r) : txT b 0 = (s, (putT s).length, 0) := by
  have hb : b = num (s.length : Int) ++ (s ++ r) := by rw [h]; unfold putT; rw [List.append_assoc]
  have r1 := rd1 (b := b) (e := 0) (i64_nat (by omega : s.length ≤ 9223372036854775807)) rfl hb
  have o3 := (rnT_ok b 0).2.2.1 r1.2.1
  rw [r1.1] at o3
  have hc : cnT b 0 200 4 = ((s.length : Int), (rnT b 0).2.1, 0) := cnT_of r1.1 r1.2.1 (by omega)
  rw [txT_def, hc]
  simp only [if_true]
  rw [r1.2.2, if_neg (by rw [List.length_append]; omega), Int.toNat_natCast, List.take_left' rfl, o3.2.2]
  unfold putT
  rw [List.length_append]
def QT (l0 : Tx) (r : By) (ks : Tx) (b' : By) : Prop := ∃ rest, dsT l0 = ks ++ rest ∧ b' = rest.flatMap putT ++ (ints (ixT (dsT l0) l0) ++ r)
theorem QT.step {l0 : Tx} {r : By} {ks : Tx} {b' : By} (ht : TOK l0) (hlt : ks.length < (dsT l0).length) (h : QT l0 r ks b') : (txT b' 0).2.2 = 0 ∧ QT l0 r (ks ++ [(txT b' 0).1]) (b'.drop (txT b' 0).2.1) := by
  obtain ⟨rest, h1, h2⟩ := h
  cases rest with
  | nil => rw [h1] at hlt; simp at hlt
  | cons y rest =>
    have hy : y.length ≤ 200 := ht.ds y (by rw [h1]; simp)
    have := txT_put (b := b') (r := rest.flatMap putT ++ (ints (ixT (dsT l0) l0) ++ r)) hy (by rw [h2]; simp)
    rw [this]
    refine ⟨rfl, rest, by rw [h1]; simp, ?_⟩
    rw [h2]
    simp only [List.flatMap_cons, List.append_assoc]
    rw [List.drop_left' rfl]
theorem QT.fin {l0 : Tx} {r : By} {ks : Tx} {b' : By} (hlen : ks.length = (dsT l0).length) (h : QT l0 r ks b') : ks = dsT l0 ∧ b' = ints (ixT (dsT l0) l0) ++ r := by
  obtain ⟨rest, h1, h2⟩ := h
  have hr : rest = [] := by
    rw [h1, List.length_append] at hlen
    exact List.eq_nil_of_length_eq_zero (by omega)
  subst hr
  exact ⟨by rw [h1]; simp, by rw [h2]; simp⟩
def GT (b : By) (Q : Tx → By → Prop) : Prop := ∀ l0 r, l0.length ≤ 512 → TOK l0 → b = txs l0 ++ r → Q l0 r
theorem gt_head (b : By) : GT b fun l0 r => (cnT b 0 512 5).2.2 = 0 ∧ (cnT b 0 512 5).1 = ((dsT l0).length : Int) ∧ QT l0 r [] (b.drop (cnT b 0 512 5).2.1) := fun l0 r hl ht h => by
  have hd := dsT_len l0
  have hb : b = num ((dsT l0).length : Int) ++ ((dsT l0).flatMap putT ++ (ints (ixT (dsT l0) l0) ++ r)) := by rw [h]; unfold txs; simp only [List.append_assoc]
  have r1 := rd1 (b := b) (e := 0) (i64_nat (by omega : (dsT l0).length ≤ 9223372036854775807)) rfl hb
  have hc : cnT b 0 512 5 = (((dsT l0).length : Int), (rnT b 0).2.1, 0) := cnT_of r1.1 r1.2.1 (by omega)
  rw [hc]
  exact ⟨rfl, rfl, dsT l0, rfl, r1.2.2⟩
def lkT (ks : Tx) (il : Li) : Tx := il.map fun i => ks.getD i.toNat []
theorem lkT_len (ks : Tx) (il : Li) : (lkT ks il).length = il.length := List.length_map _
theorem lkT_ix {d l : Tx} (h : ∀ x ∈ l, x ∈ d) : lkT d (ixT d l) = l := by
  induction l with
  | nil => rfl
  | cons x r ih =>
    have h1 := (idxT_lt (h x (by simp))).2
    have h2 := ih fun y hy => h y (by simp [hy])
    unfold lkT ixT at *
    simp only [List.map_cons, Int.toNat_natCast, List.getD_eq_getElem?_getD, h1, Option.getD_some]
    simp only [List.getD_eq_getElem?_getD] at h2
    rw [h2]
theorem lkT_ok {ks : Tx} (h : TOK ks) (il : Li) : TOK (lkT ks il) := fun s hs => by
  obtain ⟨i, _, e⟩ := List.mem_map.1 hs
  rw [← e, List.getD_eq_getElem?_getD]
  cases hk : ks[i.toNat]? with
  | none => simp
  | some x => simpa using h x (List.mem_of_getElem? hk)
theorem lkT_snoc {ks : Tx} {il : Li} {k i : Nat} {x : By} (hk : k < il.length) (hi : il[k] = (i : Int)) (hx : ks[i]? = some x) : lkT ks (il.take (k + 1)) = lkT ks (il.take k) ++ [x] := by
  unfold lkT
  rw [List.take_succ_eq_append_getElem hk, List.map_append, hi]
  simp only [List.map_cons, List.map_nil, Int.toNat_natCast, List.getD_eq_getElem?_getD, hx, Option.getD_some]
def RTs (b : By) (l : Tx) (n : Nat) (e : Int) : Prop := TOK l ∧ l.length ≤ 512 ∧ ((e = 0 ∧ n = (txs l).length ∧ b.take (txs l).length = txs l) ∨ (e = 1 ∧ l = [] ∧ n = 0)) ∧ GT b fun l0 _ => e = 0 ∧ l = l0
theorem RTs.bad {b : By} (h : GT b fun _ _ => False) : RTs b [] 0 1 := ⟨fun _ h => (by cases h), Nat.zero_le _, .inr ⟨rfl, rfl, rfl⟩, fun l0 r ha hl hb => (h l0 r ha hl hb).elim⟩
theorem RTs.two (b : By) {l : Tx} {n : Nat} {e : Int} (h1 : RTs b l n e) {l' : Tx} {n' : Nat} {e' : Int} (h2 : RTs b l' n' e') : l = l' ∧ n = n' ∧ e = e' := by
  obtain ⟨a1, a2, a3, a4⟩ := h1
  obtain ⟨b1, b2, b3, b4⟩ := h2
  rcases a3 with ⟨rfl, rfl, p1⟩ | ⟨rfl, rfl, rfl⟩
  · have := b4 l (b.drop (txs l).length) a2 a1 (by conv => lhs; rw [← List.take_append_drop (txs l).length b, p1])
    obtain ⟨rfl, rfl⟩ := this
    rcases b3 with ⟨_, rfl, _⟩ | ⟨h, _⟩
    · exact ⟨rfl, rfl, rfl⟩
    · omega
  · rcases b3 with ⟨rfl, rfl, p1⟩ | ⟨rfl, rfl, rfl⟩
    · have := a4 l' (b.drop (txs l').length) b2 b1 (by conv => lhs; rw [← List.take_append_drop (txs l').length b, p1])
      omega
    · exact ⟨rfl, rfl, rfl⟩
attribute [local irreducible] loadVar storeVar Instr.indexAt Instr.index Instr.sliceAt Instr.makeSlice Instr.lookup Instr.mapUpdate Instr.range Instr.next Instr.entry Instr.makeMap Builtin.append_ Builtin.copy_ Builtin.len_ Builtin.min_ Builtin.max_ Builtin.cap_ Builtin.delete_ Builtin.clear_ convert binOp eqGuard Op.unary Calls
section
open Go Go.RowKit Go.Proofs Go.Proofs.YtmhpfadbmpipkaaGreatDoor.Vc Go.Proofs.YtmhpfadbmpipkaaGreatDoor.Ax
abbrev tv (s : By) : AV := .v (.string ⟨s.toArray⟩)
def enT (s : By) : List FV := [.v (.string ⟨s.toArray⟩)]
abbrev tl (l : Tx) : AV := .lst 1 (l.map enT)
theorem sLt_by (a b : By) : sLt ⟨a.toArray⟩ ⟨b.toArray⟩ = decide (a < b) := by
  unfold sLt
  rw [bytesLess_eq, Lib.toList_data, Lib.toList_data]
theorem enT_snoc (l : Tx) (s : By) : (l ++ [s]).map enT = l.map enT ++ [[FV.v (.string ⟨s.toArray⟩)]] := by rw [List.map_append]; rfl
theorem app_s {l : Nat} (h : l ≤ 4194304) : l ≤ 140737488355328 ∧ l ≤ maxLen := ⟨by omega, by unfold maxLen; omega⟩
theorem putTA (b s : By) (hb : b.length ≤ 2000000) (hs : s.length ≤ 200) : AFn Tryz.prog GC 86 [bs b, tv s] 0 [] (Own1 5 1 ((b ++ putT s).map enB)) := by
  have hl := (num_len (s.length : Int)).2
  refine afn_of Tryz.func86 rfl mixed (by kernel_rfl) ?_
  conv => whnf
  (refine acallF [] (by kernel_rfl) (groupsA (s.length : Int) (i64_nat (by omega))) ?_ ?_; (focus (repeat' (first | rfl | trivial | apply And.intro))))
  rintro _ _ _ ⟨rfl, rfl, rfl⟩
  conv => whnf
  refine VReq.mk (app_s (by rw [List.length_map]; show _ + s.length ≤ _; omega)) ?_
  conv => whnf
  have h := ownA b (putT s) (by have := putT_len s hs; omega)
  refine acallF [1] (by kernel_rfl) h ⟨⟨rfl, rfl⟩, ⟨rfl, rfl, by unfold putT; rw [List.map_append]⟩, trivial⟩ ?_
  rintro _ _ _ ⟨rfl, rfl, rfl⟩
  conv => whnf
  exact aend (.own 0) 1 _ [(0, .lab 2)] [] ⟨rfl, rfl, rfl⟩ rfl (by repeat' (first | rfl | trivial | apply And.intro)) (by repeat' (first | rfl | trivial | apply And.intro))
theorem putT2A (b s : By) (hb : b.length ≤ 2000000) (hs : s.length ≤ 200) : AFn Tryz.prog GC 90 [bs b, tv s] 0 [] (Own1 5 1 ((b ++ putT s).map enB)) := by
  have hl := (num_len (s.length : Int)).2
  refine afn_of Tryz.func90 rfl mixed (by kernel_rfl) ?_
  conv => whnf
  (refine acallF [] (by kernel_rfl) (put2A b (s.length : Int) (i64_nat (by omega)) (by omega)) ?_ ?_; (focus (repeat' (first | rfl | trivial | apply And.intro))))
  rintro _ _ _ ⟨rfl, rfl, rfl⟩
  conv => whnf
  refine VReq.mk (app_s (by rw [List.length_map, List.length_append]; show _ + s.length ≤ _; omega)) ?_
  conv => whnf
  refine aend (.own 0) 1 _ [(0, .lab 1)] [] ⟨rfl, rfl, rfl⟩ rfl ⟨⟨rfl, rfl, ?_⟩, trivial⟩ (by repeat' (first | rfl | trivial | apply And.intro))
  unfold putT
  simp only [List.map_append, List.append_assoc]
theorem cloneTA (l : Tx) (hl : l ≠ []) (hs : l.length ≤ 100000) : AFn Tryz.prog GC 83 [tl l] 0 [] (Own1 9 1 (l.map enT)) := by
  have h0 : 0 < l.length := List.length_pos_iff.2 hl
  refine afn_of Tryz.func83 rfl mixed (by kernel_rfl) ?_
  conv => whnf
  refine ⟨fun b hb => ?_⟩
  rw [hb (by rw [List.length_map]; exact h0)]
  conv => whnf
  (repeat' ((first | refine And.intro ?_ ?_ | (apply vif_split <;> intro h <;> try simp only [bl] at h) | refine AAr.i64 (by first | omega | ((try simp only [List.length_map] at *); omega)) ?_ | refine AIn.mk' _ rfl (by first | omega | (simp only [ln]; omega) | (simp only [ln] at *; omega)) ?_ | refine ARd.mapAt (by assumption) ?_ | refine ARd.set (by (try simp only [ln] at *); omega) ?_ | refine ARd.map (by first | omega | (simp only [List.length_map] at *; omega)) ?_ | refine VReq.mk (by first | decide | omega) ?_ | refine AEq.mk (by kernel_rfl) rfl rfl ?_ | refine VReq.mk (app_ok (by (try simp only [ln] at *); omega) (by kernel_rfl)) ?_) <;> conv => whnf))
  exact aend (.own 0) 1 _ [(0, .lab 1)] [] ⟨rfl, rfl, rfl⟩ rfl (by repeat' (first | rfl | trivial | apply And.intro)) (by repeat' (first | rfl | trivial | apply And.intro))
theorem sEq_self (s : ByteArray) : (!sEq s s) = false := by rw [sEqD]; simp
theorem nan3A (s : By) : AFn Tryz.prog GC 130 [tv s] 0 [] (Is (bv false)) := by
  refine afn_of Tryz.func130 rfl mixed (by kernel_rfl) ?_
  conv => whnf
  exact aret [] (congrArg Value.bool (sEq_self _))
theorem lessTA (x y : By) : AFn Tryz.prog GC 110 [tv x, tv y] 0 [] (Is (bv (decide (x < y)))) := by
  have e := sLt_by x y
  refine afn_of Tryz.func110 rfl mixed (by kernel_rfl) ?_
  conv => whnf
  (refine acall [] (by kernel_rfl) (nan3A x) rfl ?_ ?_; (focus (repeat' (first | rfl | trivial | apply And.intro))))
  conv => whnf
  rw [← e]
  (repeat' ((first | refine And.intro ?_ ?_ | (apply vif_split <;> intro h <;> try simp only [bl] at h) | refine AAr.i64 (by first | omega | ((try simp only [List.length_map] at *); omega)) ?_ | refine AIn.mk' _ rfl (by first | omega | (simp only [ln]; omega) | (simp only [ln] at *; omega)) ?_ | refine ARd.mapAt (by assumption) ?_ | refine ARd.set (by (try simp only [ln] at *); omega) ?_ | refine ARd.map (by first | omega | (simp only [List.length_map] at *; omega)) ?_ | refine VReq.mk (by first | decide | omega) ?_ | refine AEq.mk (by kernel_rfl) rfl rfl ?_ | refine VReq.mk (app_ok (by (try simp only [ln] at *); omega) (by kernel_rfl)) ?_) <;> conv => whnf))
  all_goals first
    | exact aret [] (by repeat' (first | rfl | trivial | apply And.intro))
    | exact aret [] (congrArg Value.bool (by assumption))
theorem searchTA (d : Tx) (x : By) (hd : SST d) (hx : x ∈ d) (hs : d.length ≤ 1000000) : AFn Tryz.prog GC 87 [tl d, tv x] 0 [] (Is (.tup [iv (idxT d x), bv true])) := by
  have hi := idxT_lt hx
  refine afn_of Tryz.func87 rfl mixed (by kernel_rfl) ?_
  conv => whnf
  refine aloop ws87_1 0 [7, 8] (fun x : Nat × Nat => [(7, iv x.1), (8, iv x.2)]) (fun _ => []) (fun y => y.1 ≤ idxT d x ∧ idxT d x ≤ y.2 ∧ y.2 ≤ d.length) (fun y => y.2 - y.1) [] [] (0, d.length) (by kernel_rfl) (fun _ => rfl) rfl ⟨Nat.zero_le _, Nat.le_of_lt hi.1, Nat.le_refl _⟩ trivial ⟨rfl, congrArg (fun n : Nat => Value.int .i64 (n : Int)) (List.length_map _), trivial⟩ ?_
  rintro ⟨i, j⟩ ⟨h1, h2, h3⟩
  change i ≤ idxT d x at h1
  change idxT d x ≤ j at h2
  change j ≤ d.length at h3
  conv => whnf
  apply vif_split <;> intro h
  · have hlt : i < j := by simp at h; omega
    conv => whnf
    (repeat' ((first | refine And.intro ?_ ?_ | (apply vif_split <;> intro h <;> try simp only [bl] at h) | refine AAr.i64 (by first | omega | ((try simp only [List.length_map] at *); omega)) ?_ | refine AIn.mk' _ rfl (by first | omega | (simp only [ln]; omega) | (simp only [ln] at *; omega)) ?_ | refine ARd.mapAt (by assumption) ?_ | refine ARd.set (by (try simp only [ln] at *); omega) ?_ | refine ARd.map (by first | omega | (simp only [List.length_map] at *; omega)) ?_ | refine VReq.mk (by first | decide | omega) ?_ | refine AEq.mk (by kernel_rfl) rfl rfl ?_ | refine VReq.mk (app_ok (by (try simp only [ln] at *); omega) (by kernel_rfl)) ?_) <;> conv => whnf))
    refine AAr.to (y := ((i + j : Nat) : Int)) (by rw [← Int.natCast_add]; exact wr_u64 (by omega)) ?_
    conv => whnf
    refine VReq.mk (by decide) ?_
    rw [shrk1]
    conv => whnf
    refine AAr.i64 (by omega) ?_
    conv => whnf
    have hm : (i + j) / 2 < d.length := by omega
    (repeat' ((first | refine And.intro ?_ ?_ | (apply vif_split <;> intro h <;> try simp only [bl] at h) | refine AAr.i64 (by first | omega | ((try simp only [List.length_map] at *); omega)) ?_ | refine AIn.mk' _ rfl (by first | omega | (simp only [ln]; omega) | (simp only [ln] at *; omega)) ?_ | refine ARd.mapAt (by assumption) ?_ | refine ARd.set (by (try simp only [ln] at *); omega) ?_ | refine ARd.map (by first | omega | (simp only [List.length_map] at *; omega)) ?_ | refine VReq.mk (by first | decide | omega) ?_ | refine AEq.mk (by kernel_rfl) rfl rfl ?_ | refine VReq.mk (app_ok (by (try simp only [ln] at *); omega) (by kernel_rfl)) ?_) <;> conv => whnf))
    (refine acall [] (by kernel_rfl) (lessTA d[(i + j) / 2] x) rfl ?_ ?_; (focus (repeat' (first | rfl | trivial | apply And.intro))))
    conv => whnf
    have hat := List.getElem?_eq_getElem hm
    apply vif_split <;> intro h
    · conv => whnf
      refine AAr.i64 (by omega) ?_
      conv => whnf
      have hlt2 : d[(i + j) / 2] < x := of_decide_eq_true h
      have hc : (i + j) / 2 < idxT d x := by
        rcases Nat.lt_trichotomy ((i + j) / 2) (idxT d x) with h4 | h4 | h4
        · exact h4
        · have := hi.2; rw [← h4, hat] at this; injection this with this; rw [this] at hlt2; exact (tlt_irr _ hlt2).elim
        · exact (tlt_asym hlt2 (ssT_lt hd h4 hi.2 hat)).elim
      exact aback ((i + j) / 2 + 1, j) [] [] rfl (by show j - ((i + j) / 2 + 1) < j - i; omega) ⟨hc, h2, h3⟩ trivial ⟨rfl, rfl, trivial⟩
    · conv => whnf
      have hlt2 : ¬ d[(i + j) / 2] < x := of_decide_eq_false h
      have hc : idxT d x ≤ (i + j) / 2 := by
        rcases Nat.lt_or_ge ((i + j) / 2) (idxT d x) with h4 | h4
        · exact absurd (ssT_lt hd h4 hat hi.2) hlt2
        · exact h4
      exact aback (i, (i + j) / 2) [] [] rfl (by show (i + j) / 2 - i < j - i; omega) ⟨h1, hc, by show (i + j) / 2 ≤ _; omega⟩ trivial ⟨rfl, rfl, trivial⟩
  · have hij : i = idxT d x := by simp at h; omega
    have hil : i < d.length := by omega
    have hat : d[i]? = some x := by rw [hij]; exact hi.2
    rw [← hij]
    conv => whnf
    (repeat' ((first | refine And.intro ?_ ?_ | (apply vif_split <;> intro h <;> try simp only [bl] at h) | refine AAr.i64 (by first | omega | ((try simp only [List.length_map] at *); omega)) ?_ | refine AIn.mk' _ rfl (by first | omega | (simp only [ln]; omega) | (simp only [ln] at *; omega)) ?_ | refine ARd.mapAt (by assumption) ?_ | refine ARd.set (by (try simp only [ln] at *); omega) ?_ | refine ARd.map (by first | omega | (simp only [List.length_map] at *; omega)) ?_ | refine VReq.mk (by first | decide | omega) ?_ | refine AEq.mk (by kernel_rfl) rfl rfl ?_ | refine VReq.mk (app_ok (by (try simp only [ln] at *); omega) (by kernel_rfl)) ?_) <;> conv => whnf))
    all_goals first
      | (exfalso; omega)
      | (exfalso; simp only [List.length_map] at h; omega)
      | (exfalso; simp at h; done)
      | exact aret [] (by repeat' (first | rfl | trivial | apply And.intro))
theorem oneT (a : By) : (encStr a).oneCell' = true := rfl
theorem sortTA (l : Tx) (hne : l ≠ []) (hs : l.length ≤ 1000000) : AFn Tryz.prog GC 84 [.own 0] 1 [(0, .rows 9 1 (l.map enT))] (fun a n H => a = .tup [] ∧ n = 1 ∧ H = [(0, .rows 9 1 ((srtT l).map enT))]) :=
  afn_place (enc := encStr) (V := fun _ _ v => v = .tuple #[]) oneT hne (srtT_len l)
    (fun w blk cap hH hb _ => Calls.mono (Tryz.slices_Sort_string blk 0 cap l w hH hb (by omega)) fun e w' ⟨h1, h2⟩ => ⟨_, h1, rfl, h2⟩)
    (fun w σ F blk cap v _ _ hv => by subst hv; exact RepL.tup («as» := []) (vs := []) trivial)
theorem compactTA (l : Tx) (hne : l ≠ []) (hs : l.length ≤ 1000000) : AFn Tryz.prog GC 85 [.own 0] 1 [(0, .rows 9 1 ((srtT l).map enT))] (fun a n H => a = .sub 0 0 (dsT l).length ∧ n = 1 ∧ H = [(0, .rows 9 1 ((dsT l ++ List.replicate (l.length - (dsT l).length) []).map enT))]) :=
  afn_place (enc := encStr) (zs' := dsT l ++ List.replicate (l.length - (dsT l).length) []) (V := fun blk cap v => v = .slice (some ⟨blk, 0, none⟩) (dsT l).length cap) oneT (by intro h; have := srtT_len l; rw [h] at this; exact hne (List.eq_nil_of_length_eq_zero this.symm))
    (by have := dsT_len l; rw [srtT_len, List.length_append, List.length_replicate]; omega)
    (fun w blk cap hH hb hc => Calls.mono (Tryz.slices_Compact_string blk 0 cap (srtT l) w hH (by rw [srtT_len]; omega) hc) fun e w' ⟨h1, q, h2⟩ => ⟨_, h1, by rw [compact_dsT], q, #[], by rw [h2, compact_dsT, Sort.grow_empty, srtT_len]⟩)
    (fun w σ F blk cap v hσ hc hv => by
      subst hv
      have hd := dsT_len l
      rw [srtT_len] at hσ hc
      refine .sub 0 0 _ _ cap (by decide) (by rw [hσ]; show 0 + _ ≤ l.length; omega) (by omega) (fun h => by cases h) fun _ => ⟨blk, by rw [hσ], by rw [Nat.zero_mul]⟩)
theorem take_dsT (l : Tx) (x : Tx) : (((dsT l ++ x).map enT).drop 0).take (dsT l).length = (dsT l).map enT := by
  rw [List.drop_zero, List.map_append]
  exact List.take_left' (List.length_map _)
end
section
open Go Go.RowKit Go.Proofs Go.Proofs.YtmhpfadbmpipkaaGreatDoor.Vc Go.Proofs.YtmhpfadbmpipkaaGreatDoor.Ax Go.Proofs.YtmhpfadbmpipkaaGreatDoor.Ky
structure Ev where
 client : By
 seq : Int
 kind : Int
 time : Int
 id : By
 name : By
 other : By
 ver : Int
 arm : Int
 val : Int
abbrev sF (s : By) : FV := .v (.string ⟨s.toArray⟩)
abbrev iF (n : Int) : FV := .v (.int .i64 n)
def enE (e : Ev) : List FV := [sF e.client, iF e.seq, iF e.kind, iF e.time, sF e.id, sF e.name, sF e.other, iF e.ver, iF e.arm, iF e.val]
def evA (e : Ev) : AV := .agg ((enE e).map FV.up)
abbrev el (l : List Ev) : AV := .lst 10 (l.map enE)
structure Ev.ok (e : Ev) : Prop where
 seq : I64 e.seq
 kind : I64 e.kind
 time : I64 e.time
 ver : I64 e.ver
 arm : I64 e.arm
 val : I64 e.val
 client : e.client.length ≤ 140737488355328
 id : e.id.length ≤ 140737488355328
 name : e.name.length ≤ 140737488355328
 other : e.other.length ≤ 140737488355328
def kyB (s : By) : Bool := keyB ⟨s.toArray⟩
def evC (e : Ev) : Int :=
 if ¬ (e.kind = 1 ∨ e.kind = 2 ∨ e.kind = 3) then 7
 else if kyB e.client = false ∨ kyB e.id = false ∨ (e.kind ≠ 3 ∧ kyB e.name = false) ∨ (e.kind = 3 ∧ kyB e.other = false) then 6
 else if e.seq < 1 ∨ 1073741824 < e.seq ∨ e.time < 0 ∨ 1099511627776 < e.time then 3
 else if e.kind = 1 ∧ (e.ver < 0 ∨ 1099511627776 < e.ver ∨ e.arm < 1 ∨ 8 < e.arm) then 3
 else if e.kind = 2 ∧ (e.val < -1099511627776 ∨ 1099511627776 < e.val) then 3
 else if (e.kind = 1 ∧ (e.other ≠ [] ∨ e.val ≠ 0)) ∨ (e.kind = 2 ∧ (e.other ≠ [] ∨ e.ver ≠ 0 ∨ e.arm ≠ 0)) ∨ (e.kind = 3 ∧ (e.name ≠ [] ∨ e.ver ≠ 0 ∨ e.arm ≠ 0 ∨ e.val ≠ 0 ∨ e.other = e.id)) then 15
 else 0
theorem sEq_tx (a b : By) : sEq ⟨a.toArray⟩ ⟨b.toArray⟩ = decide (a = b) := by
 rw [sEqD]
 by_cases h : a = b
 ·subst h; simp
 ·rw [decide_eq_false h]
  refine decide_eq_false fun e => h ?_
  injection e with e
  simpa using congrArg Array.toList e
theorem withinA (n a b : Int) : AFn Tryz.prog GS 52 [iv n, iv a, iv b] 0 [] (Is (bv (decide (a ≤ n) && decide (n ≤ b)))) := by
 refine afn_of Tryz.func52 rfl mixed (by kernel_rfl) ?_
 conv => whnf
 repeat' (apply vif_split <;> intro h <;> (conv => whnf))
 all_goals (refine aret [] (congrArg Value.bool ?_))
 all_goals (simp_all; try omega)
theorem check1K (k : Int) (client : By) (seq time : Int) (id name other : By) (ver arm val : Int) (z1 : client.length ≤ 140737488355328) (z2 : id.length ≤ 140737488355328) (z3 : name.length ≤ 140737488355328) (z4 : other.length ≤ 140737488355328) : AFn Tryz.prog GS 19 [.agg [tv client, iv seq, iv k, iv time, tv id, tv name, tv other, iv ver, iv arm, iv val]] 0 [] (Is (.v (.int .i64 (evC ⟨client, seq, k, time, id, name, other, ver, arm, val⟩)))) := by
 have k1 := keyG1 ⟨client.toArray⟩ (by show client.length ≤ _; omega)
 have k2 := keyG1 ⟨id.toArray⟩ (by show id.length ≤ _; omega)
 have k3 := keyG1 ⟨name.toArray⟩ (by show name.length ≤ _; omega)
 have k4 := keyG1 ⟨other.toArray⟩ (by show other.length ≤ _; omega)
 unfold evC kyB
 generalize keyB ⟨client.toArray⟩ = b1 at *
 generalize keyB ⟨id.toArray⟩ = b2 at *
 generalize keyB ⟨name.toArray⟩ = b3 at *
 generalize keyB ⟨other.toArray⟩ = b4 at *
 clear z1 z2 z3 z4
 by_cases c1 : k = 1
 ·subst c1
  simp only [true_or, not_true, if_false, true_and, show ¬ (1 : Int) = 2 by decide, show ¬ (1 : Int) = 3 by decide, false_and, or_false, ne_eq, not_false_eq_true]
  refine afn_of Tryz.func19 rfl mixed (by kernel_rfl) ?_
  conv => whnf
  (refine adraw pln19 [] (by kernel_rfl) ?_; conv => whnf)
  repeat' (first
   | ((refine acall [] (by kernel_rfl) (k1) rfl ?_ ?_; (focus ((repeat' (first | rfl | trivial | apply And.intro)); done)); (conv => whnf)))
   | ((refine acall [] (by kernel_rfl) (k2) rfl ?_ ?_; (focus ((repeat' (first | rfl | trivial | apply And.intro)); done)); (conv => whnf)))
   | ((refine acall [] (by kernel_rfl) (k3) rfl ?_ ?_; (focus ((repeat' (first | rfl | trivial | apply And.intro)); done)); (conv => whnf)))
   | ((refine acall [] (by kernel_rfl) (k4) rfl ?_ ?_; (focus ((repeat' (first | rfl | trivial | apply And.intro)); done)); (conv => whnf)))
   | ((refine acall [] (by kernel_rfl) (withinA seq 1 1073741824) rfl ?_ ?_; (focus ((repeat' (first | rfl | trivial | apply And.intro)); done)); (conv => whnf)))
   | ((refine acall [] (by kernel_rfl) (withinA time 0 1099511627776) rfl ?_ ?_; (focus ((repeat' (first | rfl | trivial | apply And.intro)); done)); (conv => whnf)))
   | ((refine acall [] (by kernel_rfl) (withinA ver 0 1099511627776) rfl ?_ ?_; (focus ((repeat' (first | rfl | trivial | apply And.intro)); done)); (conv => whnf)))
   | ((refine acall [] (by kernel_rfl) (withinA arm 1 8) rfl ?_ ?_; (focus ((repeat' (first | rfl | trivial | apply And.intro)); done)); (conv => whnf)))
   | ((refine acall [] (by kernel_rfl) (withinA val (-1099511627776) 1099511627776) rfl ?_ ?_; (focus ((repeat' (first | rfl | trivial | apply And.intro)); done)); (conv => whnf)))
   | (apply vif_split <;> intro h <;> (first | (exfalso; simp only [*, Bool.not_true, Bool.not_false, Bool.false_eq_true, Bool.true_eq_false, reduceCtorEq] at *; done) | (conv => whnf))))
  all_goals (refine aret [] (congrArg (Value.int .i64) ?_))
  all_goals (simp only [cond_true, cond_false, sEq_tx, Bool.not_eq_true', Bool.not_eq_false', decide_eq_true_eq, decide_eq_false_iff_not, beq_iff_eq, bne_iff_ne, beq_eq_false_iff_ne, bne_eq_false_iff_eq, ne_eq, Bool.not_eq_eq_eq_not, Bool.not_true, Bool.not_false, Decidable.not_not, gt_iff_lt, Int.not_lt] at *)
  all_goals (clear k1 k2 k3 k4)
  all_goals first
   | (simp_all; done)
   | (simp_all; omega)
   | ((repeat' split) <;> first | rfl | (exfalso; simp_all; done) | (exfalso; simp_all; omega))
 by_cases c2 : k = 2
 ·subst c2
  simp only [true_or, or_true, not_true, if_false, true_and, show ¬ (2 : Int) = 1 by decide, show ¬ (2 : Int) = 3 by decide, false_and, or_false, false_or, ne_eq, not_false_eq_true]
  refine afn_of Tryz.func19 rfl mixed (by kernel_rfl) ?_
  conv => whnf
  (refine adraw pln19 [] (by kernel_rfl) ?_; conv => whnf)
  repeat' (first
   | ((refine acall [] (by kernel_rfl) (k1) rfl ?_ ?_; (focus ((repeat' (first | rfl | trivial | apply And.intro)); done)); (conv => whnf)))
   | ((refine acall [] (by kernel_rfl) (k2) rfl ?_ ?_; (focus ((repeat' (first | rfl | trivial | apply And.intro)); done)); (conv => whnf)))
   | ((refine acall [] (by kernel_rfl) (k3) rfl ?_ ?_; (focus ((repeat' (first | rfl | trivial | apply And.intro)); done)); (conv => whnf)))
   | ((refine acall [] (by kernel_rfl) (k4) rfl ?_ ?_; (focus ((repeat' (first | rfl | trivial | apply And.intro)); done)); (conv => whnf)))
   | ((refine acall [] (by kernel_rfl) (withinA seq 1 1073741824) rfl ?_ ?_; (focus ((repeat' (first | rfl | trivial | apply And.intro)); done)); (conv => whnf)))
   | ((refine acall [] (by kernel_rfl) (withinA time 0 1099511627776) rfl ?_ ?_; (focus ((repeat' (first | rfl | trivial | apply And.intro)); done)); (conv => whnf)))
   | ((refine acall [] (by kernel_rfl) (withinA ver 0 1099511627776) rfl ?_ ?_; (focus ((repeat' (first | rfl | trivial | apply And.intro)); done)); (conv => whnf)))
   | ((refine acall [] (by kernel_rfl) (withinA arm 1 8) rfl ?_ ?_; (focus ((repeat' (first | rfl | trivial | apply And.intro)); done)); (conv => whnf)))
   | ((refine acall [] (by kernel_rfl) (withinA val (-1099511627776) 1099511627776) rfl ?_ ?_; (focus ((repeat' (first | rfl | trivial | apply And.intro)); done)); (conv => whnf)))
   | (apply vif_split <;> intro h <;> (first | (exfalso; simp only [*, Bool.not_true, Bool.not_false, Bool.false_eq_true, Bool.true_eq_false, reduceCtorEq] at *; done) | (conv => whnf))))
  all_goals (refine aret [] (congrArg (Value.int .i64) ?_))
  all_goals (simp only [cond_true, cond_false, sEq_tx, Bool.not_eq_true', Bool.not_eq_false', decide_eq_true_eq, decide_eq_false_iff_not, beq_iff_eq, bne_iff_ne, beq_eq_false_iff_ne, bne_eq_false_iff_eq, ne_eq, Bool.not_eq_eq_eq_not, Bool.not_true, Bool.not_false, Decidable.not_not, gt_iff_lt, Int.not_lt] at *)
  all_goals (clear k1 k2 k3 k4)
  all_goals first
   | (simp_all; done)
   | (simp_all; omega)
   | ((repeat' split) <;> first | rfl | (exfalso; simp_all; done) | (exfalso; simp_all; omega))
 by_cases c3 : k = 3
 ·subst c3
  simp only [or_true, not_true, if_false, true_and, show ¬ (3 : Int) = 1 by decide, show ¬ (3 : Int) = 2 by decide, false_and, false_or, ne_eq]
  refine afn_of Tryz.func19 rfl mixed (by kernel_rfl) ?_
  conv => whnf
  (refine adraw pln19 [] (by kernel_rfl) ?_; conv => whnf)
  repeat' (first
   | ((refine acall [] (by kernel_rfl) (k1) rfl ?_ ?_; (focus ((repeat' (first | rfl | trivial | apply And.intro)); done)); (conv => whnf)))
   | ((refine acall [] (by kernel_rfl) (k2) rfl ?_ ?_; (focus ((repeat' (first | rfl | trivial | apply And.intro)); done)); (conv => whnf)))
   | ((refine acall [] (by kernel_rfl) (k3) rfl ?_ ?_; (focus ((repeat' (first | rfl | trivial | apply And.intro)); done)); (conv => whnf)))
   | ((refine acall [] (by kernel_rfl) (k4) rfl ?_ ?_; (focus ((repeat' (first | rfl | trivial | apply And.intro)); done)); (conv => whnf)))
   | ((refine acall [] (by kernel_rfl) (withinA seq 1 1073741824) rfl ?_ ?_; (focus ((repeat' (first | rfl | trivial | apply And.intro)); done)); (conv => whnf)))
   | ((refine acall [] (by kernel_rfl) (withinA time 0 1099511627776) rfl ?_ ?_; (focus ((repeat' (first | rfl | trivial | apply And.intro)); done)); (conv => whnf)))
   | ((refine acall [] (by kernel_rfl) (withinA ver 0 1099511627776) rfl ?_ ?_; (focus ((repeat' (first | rfl | trivial | apply And.intro)); done)); (conv => whnf)))
   | ((refine acall [] (by kernel_rfl) (withinA arm 1 8) rfl ?_ ?_; (focus ((repeat' (first | rfl | trivial | apply And.intro)); done)); (conv => whnf)))
   | ((refine acall [] (by kernel_rfl) (withinA val (-1099511627776) 1099511627776) rfl ?_ ?_; (focus ((repeat' (first | rfl | trivial | apply And.intro)); done)); (conv => whnf)))
   | (apply vif_split <;> intro h <;> (first | (exfalso; simp only [*, Bool.not_true, Bool.not_false, Bool.false_eq_true, Bool.true_eq_false, reduceCtorEq] at *; done) | (conv => whnf))))
  all_goals (refine aret [] (congrArg (Value.int .i64) ?_))
  all_goals (simp only [cond_true, cond_false, sEq_tx, Bool.not_eq_true', Bool.not_eq_false', decide_eq_true_eq, decide_eq_false_iff_not, beq_iff_eq, bne_iff_ne, beq_eq_false_iff_ne, bne_eq_false_iff_eq, ne_eq, Bool.not_eq_eq_eq_not, Bool.not_true, Bool.not_false, Decidable.not_not, gt_iff_lt, Int.not_lt] at *)
  all_goals (clear k1 k2 k3 k4)
  all_goals first
   | (simp_all; done)
   | (simp_all; omega)
   | ((repeat' split) <;> first | rfl | (exfalso; simp_all; done) | (exfalso; simp_all; omega))
 have q1 : (k == 1) = false := by simpa using c1
 have q2 : (k == 2) = false := by simpa using c2
 have q3 : (k == 3) = false := by simpa using c3
 refine afn_of Tryz.func19 rfl mixed (by kernel_rfl) ?_
 conv => whnf
 (refine adraw pln19 [] (by kernel_rfl) ?_; conv => whnf)
 rw [q1]
 conv => whnf
 rw [q2]
 conv => whnf
 rw [q3]
 conv => whnf
 exact aret [] (congrArg (Value.int .i64) (by simp [c1, c2, c3]))
theorem check2K (k : Int) (client : By) (seq time : Int) (id name other : By) (ver arm val : Int) (z1 : client.length ≤ 140737488355328) (z2 : id.length ≤ 140737488355328) (z3 : name.length ≤ 140737488355328) (z4 : other.length ≤ 140737488355328) : AFn Tryz.prog GS 23 [.agg [tv client, iv seq, iv k, iv time, tv id, tv name, tv other, iv ver, iv arm, iv val]] 0 [] (Is (.v (.int .i64 (evC ⟨client, seq, k, time, id, name, other, ver, arm, val⟩)))) := by
 have k1 := keyG2 ⟨client.toArray⟩ (by show client.length ≤ _; omega)
 have k2 := keyG2 ⟨id.toArray⟩ (by show id.length ≤ _; omega)
 have k3 := keyG2 ⟨name.toArray⟩ (by show name.length ≤ _; omega)
 have k4 := keyG2 ⟨other.toArray⟩ (by show other.length ≤ _; omega)
 unfold evC kyB
 generalize keyB ⟨client.toArray⟩ = b1 at *
 generalize keyB ⟨id.toArray⟩ = b2 at *
 generalize keyB ⟨name.toArray⟩ = b3 at *
 generalize keyB ⟨other.toArray⟩ = b4 at *
 clear z1 z2 z3 z4
 by_cases c1 : k = 1
 ·subst c1
  simp only [true_or, not_true, if_false, true_and, show ¬ (1 : Int) = 2 by decide, show ¬ (1 : Int) = 3 by decide, false_and, or_false, ne_eq, not_false_eq_true]
  refine afn_of Tryz.func23 rfl mixed (by kernel_rfl) ?_
  conv => whnf
  (refine adraw pln23 [] (by kernel_rfl) ?_; conv => whnf)
  repeat' (first
   | ((refine acall [] (by kernel_rfl) (k1) rfl ?_ ?_; (focus ((repeat' (first | rfl | trivial | apply And.intro)); done)); (conv => whnf)))
   | ((refine acall [] (by kernel_rfl) (k2) rfl ?_ ?_; (focus ((repeat' (first | rfl | trivial | apply And.intro)); done)); (conv => whnf)))
   | ((refine acall [] (by kernel_rfl) (k3) rfl ?_ ?_; (focus ((repeat' (first | rfl | trivial | apply And.intro)); done)); (conv => whnf)))
   | ((refine acall [] (by kernel_rfl) (k4) rfl ?_ ?_; (focus ((repeat' (first | rfl | trivial | apply And.intro)); done)); (conv => whnf)))
   | ((refine acall [] (by kernel_rfl) (withinA seq 1 1073741824) rfl ?_ ?_; (focus ((repeat' (first | rfl | trivial | apply And.intro)); done)); (conv => whnf)))
   | ((refine acall [] (by kernel_rfl) (withinA time 0 1099511627776) rfl ?_ ?_; (focus ((repeat' (first | rfl | trivial | apply And.intro)); done)); (conv => whnf)))
   | ((refine acall [] (by kernel_rfl) (withinA ver 0 1099511627776) rfl ?_ ?_; (focus ((repeat' (first | rfl | trivial | apply And.intro)); done)); (conv => whnf)))
   | ((refine acall [] (by kernel_rfl) (withinA arm 1 8) rfl ?_ ?_; (focus ((repeat' (first | rfl | trivial | apply And.intro)); done)); (conv => whnf)))
   | ((refine acall [] (by kernel_rfl) (withinA val (-1099511627776) 1099511627776) rfl ?_ ?_; (focus ((repeat' (first | rfl | trivial | apply And.intro)); done)); (conv => whnf)))
   | (apply vif_split <;> intro h <;> (first | (exfalso; simp only [*, Bool.not_true, Bool.not_false, Bool.false_eq_true, Bool.true_eq_false, reduceCtorEq] at *; done) | (conv => whnf))))
  all_goals (refine aret [] (congrArg (Value.int .i64) ?_))
  all_goals (simp only [cond_true, cond_false, sEq_tx, Bool.not_eq_true', Bool.not_eq_false', decide_eq_true_eq, decide_eq_false_iff_not, beq_iff_eq, bne_iff_ne, beq_eq_false_iff_ne, bne_eq_false_iff_eq, ne_eq, Bool.not_eq_eq_eq_not, Bool.not_true, Bool.not_false, Decidable.not_not, gt_iff_lt, Int.not_lt] at *)
  all_goals (clear k1 k2 k3 k4)
  all_goals first
   | (simp_all; done)
   | (simp_all; omega)
   | ((repeat' split) <;> first | rfl | (exfalso; simp_all; done) | (exfalso; simp_all; omega))
 by_cases c2 : k = 2
 ·subst c2
  simp only [true_or, or_true, not_true, if_false, true_and, show ¬ (2 : Int) = 1 by decide, show ¬ (2 : Int) = 3 by decide, false_and, or_false, false_or, ne_eq, not_false_eq_true]
  refine afn_of Tryz.func23 rfl mixed (by kernel_rfl) ?_
  conv => whnf
  (refine adraw pln23 [] (by kernel_rfl) ?_; conv => whnf)
  repeat' (first
   | ((refine acall [] (by kernel_rfl) (k1) rfl ?_ ?_; (focus ((repeat' (first | rfl | trivial | apply And.intro)); done)); (conv => whnf)))
   | ((refine acall [] (by kernel_rfl) (k2) rfl ?_ ?_; (focus ((repeat' (first | rfl | trivial | apply And.intro)); done)); (conv => whnf)))
   | ((refine acall [] (by kernel_rfl) (k3) rfl ?_ ?_; (focus ((repeat' (first | rfl | trivial | apply And.intro)); done)); (conv => whnf)))
   | ((refine acall [] (by kernel_rfl) (k4) rfl ?_ ?_; (focus ((repeat' (first | rfl | trivial | apply And.intro)); done)); (conv => whnf)))
   | ((refine acall [] (by kernel_rfl) (withinA seq 1 1073741824) rfl ?_ ?_; (focus ((repeat' (first | rfl | trivial | apply And.intro)); done)); (conv => whnf)))
   | ((refine acall [] (by kernel_rfl) (withinA time 0 1099511627776) rfl ?_ ?_; (focus ((repeat' (first | rfl | trivial | apply And.intro)); done)); (conv => whnf)))
   | ((refine acall [] (by kernel_rfl) (withinA ver 0 1099511627776) rfl ?_ ?_; (focus ((repeat' (first | rfl | trivial | apply And.intro)); done)); (conv => whnf)))
   | ((refine acall [] (by kernel_rfl) (withinA arm 1 8) rfl ?_ ?_; (focus ((repeat' (first | rfl | trivial | apply And.intro)); done)); (conv => whnf)))
   | ((refine acall [] (by kernel_rfl) (withinA val (-1099511627776) 1099511627776) rfl ?_ ?_; (focus ((repeat' (first | rfl | trivial | apply And.intro)); done)); (conv => whnf)))
   | (apply vif_split <;> intro h <;> (first | (exfalso; simp only [*, Bool.not_true, Bool.not_false, Bool.false_eq_true, Bool.true_eq_false, reduceCtorEq] at *; done) | (conv => whnf))))
  all_goals (refine aret [] (congrArg (Value.int .i64) ?_))
  all_goals (simp only [cond_true, cond_false, sEq_tx, Bool.not_eq_true', Bool.not_eq_false', decide_eq_true_eq, decide_eq_false_iff_not, beq_iff_eq, bne_iff_ne, beq_eq_false_iff_ne, bne_eq_false_iff_eq, ne_eq, Bool.not_eq_eq_eq_not, Bool.not_true, Bool.not_false, Decidable.not_not, gt_iff_lt, Int.not_lt] at *)
  all_goals (clear k1 k2 k3 k4)
  all_goals first
   | (simp_all; done)
   | (simp_all; omega)
   | ((repeat' split) <;> first | rfl | (exfalso; simp_all; done) | (exfalso; simp_all; omega))
 by_cases c3 : k = 3
 ·subst c3
  simp only [or_true, not_true, if_false, true_and, show ¬ (3 : Int) = 1 by decide, show ¬ (3 : Int) = 2 by decide, false_and, false_or, ne_eq]
  refine afn_of Tryz.func23 rfl mixed (by kernel_rfl) ?_
  conv => whnf
  (refine adraw pln23 [] (by kernel_rfl) ?_; conv => whnf)
  repeat' (first
   | ((refine acall [] (by kernel_rfl) (k1) rfl ?_ ?_; (focus ((repeat' (first | rfl | trivial | apply And.intro)); done)); (conv => whnf)))
   | ((refine acall [] (by kernel_rfl) (k2) rfl ?_ ?_; (focus ((repeat' (first | rfl | trivial | apply And.intro)); done)); (conv => whnf)))
   | ((refine acall [] (by kernel_rfl) (k3) rfl ?_ ?_; (focus ((repeat' (first | rfl | trivial | apply And.intro)); done)); (conv => whnf)))
   | ((refine acall [] (by kernel_rfl) (k4) rfl ?_ ?_; (focus ((repeat' (first | rfl | trivial | apply And.intro)); done)); (conv => whnf)))
   | ((refine acall [] (by kernel_rfl) (withinA seq 1 1073741824) rfl ?_ ?_; (focus ((repeat' (first | rfl | trivial | apply And.intro)); done)); (conv => whnf)))
   | ((refine acall [] (by kernel_rfl) (withinA time 0 1099511627776) rfl ?_ ?_; (focus ((repeat' (first | rfl | trivial | apply And.intro)); done)); (conv => whnf)))
   | ((refine acall [] (by kernel_rfl) (withinA ver 0 1099511627776) rfl ?_ ?_; (focus ((repeat' (first | rfl | trivial | apply And.intro)); done)); (conv => whnf)))
   | ((refine acall [] (by kernel_rfl) (withinA arm 1 8) rfl ?_ ?_; (focus ((repeat' (first | rfl | trivial | apply And.intro)); done)); (conv => whnf)))
   | ((refine acall [] (by kernel_rfl) (withinA val (-1099511627776) 1099511627776) rfl ?_ ?_; (focus ((repeat' (first | rfl | trivial | apply And.intro)); done)); (conv => whnf)))
   | (apply vif_split <;> intro h <;> (first | (exfalso; simp only [*, Bool.not_true, Bool.not_false, Bool.false_eq_true, Bool.true_eq_false, reduceCtorEq] at *; done) | (conv => whnf))))
  all_goals (refine aret [] (congrArg (Value.int .i64) ?_))
  all_goals (simp only [cond_true, cond_false, sEq_tx, Bool.not_eq_true', Bool.not_eq_false', decide_eq_true_eq, decide_eq_false_iff_not, beq_iff_eq, bne_iff_ne, beq_eq_false_iff_ne, bne_eq_false_iff_eq, ne_eq, Bool.not_eq_eq_eq_not, Bool.not_true, Bool.not_false, Decidable.not_not, gt_iff_lt, Int.not_lt] at *)
  all_goals (clear k1 k2 k3 k4)
  all_goals first
   | (simp_all; done)
   | (simp_all; omega)
   | ((repeat' split) <;> first | rfl | (exfalso; simp_all; done) | (exfalso; simp_all; omega))
 have q1 : (k == 1) = false := by simpa using c1
 have q2 : (k == 2) = false := by simpa using c2
 have q3 : (k == 3) = false := by simpa using c3
 refine afn_of Tryz.func23 rfl mixed (by kernel_rfl) ?_
 conv => whnf
 (refine adraw pln23 [] (by kernel_rfl) ?_; conv => whnf)
 rw [q1]
 conv => whnf
 rw [q2]
 conv => whnf
 rw [q3]
 conv => whnf
 exact aret [] (congrArg (Value.int .i64) (by simp [c1, c2, c3]))
theorem check1A (e : Ev) (he : e.ok) : AFn Tryz.prog GS 19 [evA e] 0 [] (Is (.v (.int .i64 (evC e)))) :=
 check1K e.kind e.client e.seq e.time e.id e.name e.other e.ver e.arm e.val he.client he.id he.name he.other
theorem check2A (e : Ev) (he : e.ok) : AFn Tryz.prog GS 23 [evA e] 0 [] (Is (.v (.int .i64 (evC e)))) :=
 check2K e.kind e.client e.seq e.time e.id e.name e.other e.ver e.arm e.val he.client he.id he.name he.other
end
section
open Go Go.RowKit Go.Proofs Go.Proofs.YtmhpfadbmpipkaaGreatDoor.Vc Go.Proofs.YtmhpfadbmpipkaaGreatDoor.Ax
def loT (a : Int) (l : List Ev) : Int := l.foldl (fun a e => min a e.time) a
def hiT (a : Int) (l : List Ev) : Int := l.foldl (fun a e => max a e.time) a
def lims (l : List Ev) : Int × Int := match l with | [] => (0, 0) | e :: _ => (loT e.time l, hiT e.time l)
theorem loT_take {l : List Ev} {i : Nat} (a : Int) (h : i < l.length) : loT a (l.take (i + 1)) = min (loT a (l.take i)) l[i].time := by
 unfold loT; rw [List.take_succ_eq_append_getElem h, List.foldl_append]; rfl
theorem hiT_take {l : List Ev} {i : Nat} (a : Int) (h : i < l.length) : hiT a (l.take (i + 1)) = max (hiT a (l.take i)) l[i].time := by
 unfold hiT; rw [List.take_succ_eq_append_getElem h, List.foldl_append]; rfl
theorem loT_rng {l : List Ev} {a lo hi : Int} (h1 : lo ≤ a ∧ a ≤ hi) (h : ∀ e ∈ l, lo ≤ e.time ∧ e.time ≤ hi) : lo ≤ loT a l ∧ loT a l ≤ hi ∧ lo ≤ hiT a l ∧ hiT a l ≤ hi := by
 unfold loT hiT
 have : ∀ (l : List Ev) (a b : Int), (lo ≤ a ∧ a ≤ hi) → (lo ≤ b ∧ b ≤ hi) → (∀ e ∈ l, lo ≤ e.time ∧ e.time ≤ hi) → lo ≤ l.foldl (fun a e => min a e.time) a ∧ l.foldl (fun a e => min a e.time) a ≤ hi ∧ lo ≤ l.foldl (fun a e => max a e.time) b ∧ l.foldl (fun a e => max a e.time) b ≤ hi := by
  intro l
  induction l with
  | nil => intro a b h1 h2 _; exact ⟨h1.1, h1.2, h2.1, h2.2⟩
  | cons e r ih =>
   intro a b h1 h2 h
   have he := h e List.mem_cons_self
   simp only [List.foldl_cons]
   exact ih _ _ (by omega) (by omega) fun x hx => h x (List.mem_cons_of_mem _ hx)
 exact this l a a h1 h1 h
theorem limits1A (e : Ev) (r : List Ev) (hl : (e :: r).length ≤ 1000000) : AFn Tryz.prog GS 42 [el (e :: r)] 0 [] (Is (.tup [iv (loT e.time (e :: r)), iv (hiT e.time (e :: r))])) := by
 generalize hl0 : e :: r = l at *
 have h0 : l[0]? = some e := by rw [← hl0]; rfl
 have hpos : 0 < l.length := by rw [← hl0]; simp
 refine afn_of Tryz.func42 rfl mixed (by kernel_rfl) ?_
 conv => whnf
 (refine adraw pln42 [] (by kernel_rfl) ?_; conv => whnf)
 repeat' (first
  | (refine And.intro ?_ ?_ <;> (conv => whnf))
  | (refine AIn.mk' 0 rfl (by rw [List.length_map]; exact hpos) ?_; conv => whnf)
  | (refine ARd.mapAt h0 ?_; conv => whnf))
 refine aloop ws42_1 0 [4, 5, 18] (fun i : Nat => [(4, iv (loT e.time (l.take i))), (5, iv (hiT e.time (l.take i))), (18, iv i)]) (fun _ => []) (fun i => i ≤ l.length) (fun i => l.length - i) [] [] 0 (by kernel_rfl) (fun _ => rfl) rfl (Nat.zero_le _) trivial ⟨rfl, rfl, rfl, trivial⟩ ?_
 intro i hi
 conv => whnf
 apply vif_split <;> intro h
 ·have hlt : i < l.length := by simp at h; omega
  conv => whnf
  refine AIn.mk' i rfl (by rw [List.length_map]; exact hlt) ?_
  conv => whnf
  refine ARd.mapAt (List.getElem?_eq_getElem hlt) ?_
  conv => whnf
  (refine adraw pln42 [] (by kernel_rfl) ?_; conv => whnf)
  refine AAr.i64 (by omega) ?_
  conv => whnf
  exact aback (i + 1) [] [] rfl (by show l.length - (i + 1) < l.length - i; omega) hlt trivial ⟨congrArg (Value.int .i64) (loT_take _ hlt).symm, congrArg (Value.int .i64) (hiT_take _ hlt).symm, rfl, trivial⟩
 ·have hie : i = l.length := by simp at h; omega
  subst hie
  rw [List.take_length]
  conv => whnf
  exact aret [] (by repeat' (first | rfl | trivial | apply And.intro))
theorem limits2A (e : Ev) (r : List Ev) (hl : (e :: r).length ≤ 1000000) : AFn Tryz.prog GS 25 [el (e :: r)] 0 [] (Is (.tup [iv (loT e.time (e :: r)), iv (hiT e.time (e :: r))])) := by
 generalize hl0 : e :: r = l at *
 have h0 : l[0]? = some e := by rw [← hl0]; rfl
 have hpos : 0 < l.length := by rw [← hl0]; simp
 refine afn_of Tryz.func25 rfl mixed (by kernel_rfl) ?_
 conv => whnf
 (refine adraw pln25 [] (by kernel_rfl) ?_; conv => whnf)
 repeat' (first
  | (refine And.intro ?_ ?_ <;> (conv => whnf))
  | (refine AIn.mk' 0 rfl (by rw [List.length_map]; exact hpos) ?_; conv => whnf)
  | (refine ARd.mapAt h0 ?_; conv => whnf))
 refine aloop ws25_1 0 [4, 5, 6] (fun i : Nat => [(4, iv (loT e.time (l.take i))), (5, iv (hiT e.time (l.take i))), (6, iv i)]) (fun _ => []) (fun i => i ≤ l.length) (fun i => l.length - i) [] [] 0 (by kernel_rfl) (fun _ => rfl) rfl (Nat.zero_le _) trivial ⟨rfl, rfl, rfl, trivial⟩ ?_
 intro i hi
 conv => whnf
 apply vif_split <;> intro h
 ·have hlt : i < l.length := by simp at h; omega
  conv => whnf
  (refine adraw pln25 [] (by kernel_rfl) ?_; conv => whnf)
  repeat' (first
   | (refine And.intro ?_ ?_ <;> (conv => whnf))
   | (refine AIn.mk' i rfl (by rw [List.length_map]; exact hlt) ?_; conv => whnf)
   | (refine ARd.mapAt (List.getElem?_eq_getElem hlt) ?_; conv => whnf))
  refine AAr.i64 (by omega) ?_
  conv => whnf
  exact aback (i + 1) [] [] rfl (by show l.length - (i + 1) < l.length - i; omega) hlt trivial ⟨congrArg (Value.int .i64) (loT_take _ hlt).symm, congrArg (Value.int .i64) (hiT_take _ hlt).symm, rfl, trivial⟩
 ·have hie : i = l.length := by simp at h; omega
  subst hie
  rw [List.take_length]
  conv => whnf
  exact aret [] (by repeat' (first | rfl | trivial | apply And.intro))
theorem app_e {n : Nat} (h : n ≤ 100000) : n * 112 ≤ 140737488355328 ∧ n ≤ maxLen := ⟨by omega, by unfold maxLen; omega⟩
theorem cloneEA (l : List Ev) (hl : l ≠ []) (hs : l.length ≤ 10000) : AFn Tryz.prog GS 48 [el l] 0 [] (Own1 38 10 (l.map enE)) := by
 have h0 : 0 < l.length := List.length_pos_iff.2 hl
 refine afn_of Tryz.func48 rfl mixed (by kernel_rfl) ?_
 conv => whnf
 refine ⟨fun b hb => ?_⟩
 rw [hb (by rw [List.length_map]; exact h0)]
 conv => whnf
 refine VReq.mk (app_e (by simp only [List.length_map, List.length_nil]; omega)) ?_
 conv => whnf
 exact aend (.own 0) 1 _ [(0, .lab 1)] [] ⟨rfl, rfl, rfl⟩ rfl (by repeat' (first | rfl | trivial | apply And.intro)) (by repeat' (first | rfl | trivial | apply And.intro))
abbrev fV (f : Nat) : FV := .v (.func (.func f) #[] #[])
theorem columnsA : AFn Tryz.prog GS 49 [] 0 [] (Own1 93 2 [[fV 73, .lst 1 [[fV 74], [fV 75], [fV 76]]],
  [fV 77, .v (.slice none 0 0)], [fV 78, .v (.slice none 0 0)], [fV 79, .lst 1 [[fV 80], [fV 81], [fV 82]]]]) := by
 refine afn_of Tryz.func49 rfl mixed (by kernel_rfl) ?_
 conv => whnf
 exact aend (.own 0) 1 _ [(0, .lab 2)] [] ⟨rfl, rfl, rfl⟩ rfl (by repeat' (first | rfl | trivial | apply And.intro)) (by repeat' (first | rfl | trivial | apply And.intro))
end
section
open Go Go.RowKit Go.Proofs Go.Proofs.YtmhpfadbmpipkaaGreatDoor.Vc Go.Proofs.YtmhpfadbmpipkaaGreatDoor.Ax
attribute [local irreducible] best ints en bd
theorem keys_take {d : Tx} {i : Nat} (h : i < d.length) : (d.take (i + 1)).flatMap putT = (d.take i).flatMap putT ++ putT d[i] := by
 rw [List.take_succ_eq_append_getElem h, List.flatMap_append, List.flatMap_cons, List.flatMap_nil, List.append_nil]
theorem key_at (l x : Tx) {k : Nat} (h : k < (dsT l).length) : (dsT l ++ x)[0 + k]? = some (dsT l)[k] := by rw [Nat.zero_add, List.getElem?_append_left h, List.getElem?_eq_getElem h]
theorem ixT_take {d l : Tx} {k : Nat} (h : k < l.length) : ixT d (l.take (k + 1)) = ixT d (l.take k) ++ [((idxT d l[k] : Nat) : Int)] := by
 unfold ixT
 rw [List.take_succ_eq_append_getElem h, List.map_append]; rfl
theorem textsNA (l : Tx) (hne : l ≠ []) (hs : l.length ≤ 512) (ht : TOK l) : AFn Tryz.prog GC 50 [tl l] 0 [] (Is (bs (txs l))) := by
 have hdl := dsT_len l
 have hkl := fun k => keys_len ((dsT l).take k) (ht.ds.take k)
 have n1 := (num_len ((dsT l).length : Int)).2
 refine afn_of Tryz.func50 rfl mixed (by kernel_rfl) ?_
 conv => whnf
 (refine acallF [] (by kernel_rfl) (cloneTA l hne (by omega)) ?_ ?_; (focus (repeat' (first | rfl | trivial | apply And.intro))))
 rintro _ _ _ ⟨rfl, rfl, rfl⟩
 conv => whnf
 refine acallM [0] [] (by kernel_rfl) (sortTA l hne (by omega)) rfl (by repeat' (first | rfl | trivial | apply And.intro)) (by repeat' (first | rfl | trivial | apply And.intro)) ?_
 rintro _ _ _ ⟨rfl, rfl, rfl⟩
 refine ⟨rfl, ?_⟩
 conv => whnf
 refine acallM [0] [] (by kernel_rfl) (compactTA l hne (by omega)) rfl (by repeat' (first | rfl | trivial | apply And.intro)) (by repeat' (first | rfl | trivial | apply And.intro)) ?_
 rintro _ _ _ ⟨rfl, rfl, rfl⟩
 refine ⟨rfl, ?_⟩
 conv => whnf
 (refine acallF [0] (by kernel_rfl) (putA [] ((dsT l).length : Int) (i64_nat (by omega)) (by simp)) ?_ ?_; (focus (repeat' (first | rfl | trivial | apply And.intro))))
 rintro _ _ _ ⟨rfl, rfl, rfl⟩
 conv => whnf
 refine aloop ws50_1 3 [4, 23] (fun k : Nat => [(4, .own 2), (23, iv k)]) (fun k => [(0, .fz 1 ((dsT l ++ List.replicate (l.length - (dsT l).length) []).map enT)), (2, .rows 5 1 ((num ((dsT l).length : Int) ++ ((dsT l).take k).flatMap putT).map enB))]) (fun k => k ≤ (dsT l).length) (fun k => (dsT l).length - k) [(2, .lab 1)] [] 0 (by kernel_rfl) (fun _ => rfl) rfl (Nat.zero_le _) ⟨⟨rfl, rfl⟩, ⟨rfl, rfl, by simp⟩, trivial⟩ ⟨rfl, rfl, trivial⟩ ?_
 rintro k hk
 have hkk := hkl k
 rw [List.length_take] at hkk
 conv => whnf
 apply vif_split <;> intro h
 ·have hlt : k < (dsT l).length := by simp at h; omega
  have hmem : (dsT l)[k] ∈ dsT l := List.getElem_mem hlt
  conv => whnf
  refine AIn.mk' k rfl hlt ?_
  conv => whnf
  refine ARd.mapAt (key_at l _ hlt) ?_
  conv => whnf
  refine acallF [2] (by kernel_rfl) (putTA (num ((dsT l).length : Int) ++ ((dsT l).take k).flatMap putT) (dsT l)[k] (by rw [List.length_append]; omega) (ht.ds _ hmem)) ⟨⟨rfl, rfl, rfl⟩, rfl, trivial⟩ ?_
  rintro _ _ _ ⟨rfl, rfl, rfl⟩
  conv => whnf
  refine AAr.i64 (by omega) ?_
  conv => whnf
  refine aback (k + 1) [(2, .lab 3)] [] rfl (by show (dsT l).length - (k + 1) < (dsT l).length - k; omega) hlt ⟨⟨rfl, rfl⟩, ⟨rfl, rfl, ?_⟩, trivial⟩ ⟨rfl, rfl, trivial⟩
  rw [keys_take hlt, ← List.append_assoc]
 ·have : k = (dsT l).length := by simp at h; omega
  subst this
  rw [List.take_length]
  conv => whnf
  refine aloop ws50_2 4 [7, 33] (fun k : Nat => [(7, .own 3), (33, iv k)]) (fun k => [(0, .fz 1 ((dsT l ++ List.replicate (l.length - (dsT l).length) []).map enT)), (2, .rows 5 1 ((num ((dsT l).length : Int) ++ (dsT l).flatMap putT).map enB)), (3, .rows 3 1 ((ixT (dsT l) (l.take k)).map enI))]) (fun k => k ≤ l.length) (fun k => l.length - k) [(3, .nil)] [] 0 (by kernel_rfl) (fun _ => rfl) rfl (Nat.zero_le _) ⟨⟨rfl, rfl⟩, ⟨rfl, rfl, rfl⟩, rfl, trivial⟩ ⟨trivial, rfl, trivial⟩ ?_
  rintro k hk
  conv => whnf
  apply vif_split <;> intro h
  ·have hlt : k < l.length := by simp at h; omega
   have hmem : l[k] ∈ dsT l := (dsT_mem l _).2 (List.getElem_mem hlt)
   have hil := (idxT_lt hmem).1
   conv => whnf
   (repeat' ((first | refine And.intro ?_ ?_ | (apply vif_split <;> intro h <;> try simp only [bl] at h) | refine AAr.i64 (by first | omega | ((try simp only [List.length_map] at *); omega)) ?_ | refine AIn.mk' _ rfl (by first | omega | (simp only [ln]; omega) | (simp only [ln] at *; omega)) ?_ | refine ARd.mapAt (by assumption) ?_ | refine ARd.set (by (try simp only [ln] at *); omega) ?_ | refine ARd.map (by first | omega | (simp only [List.length_map] at *; omega)) ?_ | refine VReq.mk (by first | decide | omega) ?_ | refine AEq.mk (by kernel_rfl) rfl rfl ?_ | refine VReq.mk (app_ok (by (try simp only [ln] at *); omega) (by kernel_rfl)) ?_) <;> conv => whnf))
   refine acall [] (by kernel_rfl) (searchTA (dsT l) l[k] (dsT_ss l) hmem (by omega)) rfl ⟨⟨rfl, take_dsT l _⟩, rfl, trivial⟩ ?_
   conv => whnf
   refine VReq.mk (app_ok (by rw [List.length_map, ixT_len, List.length_take]; show _ + 1 ≤ _; omega) (by kernel_rfl)) ?_
   conv => whnf
   refine AAr.i64 (by omega) ?_
   conv => whnf
   refine aback (k + 1) [(3, .lab 5)] [] rfl (by show l.length - (k + 1) < l.length - k; omega) hlt ⟨⟨rfl, rfl⟩, ⟨rfl, rfl, rfl⟩, ⟨rfl, rfl, ?_⟩, trivial⟩ ⟨rfl, rfl, trivial⟩
   rw [ixT_take hlt, List.map_append]
   rfl
  ·have : k = l.length := by simp at h; omega
   subst this
   rw [List.take_length]
   conv => whnf
   have hkk2 := keys_len (dsT l) ht.ds
   have hib := ints_short (ixT (dsT l) l) (by rw [ixT_len]; exact hs)
   (refine acallF [3] (by kernel_rfl) (intsA (ixT (dsT l) l) (ixT_all _ _ (fun x hx => (dsT_mem l x).2 hx) (by omega)) (by rw [ixT_len]; exact hs)) ?_ ?_; (focus (repeat' (first | rfl | trivial | apply And.intro))))
   rintro _ _ _ ⟨rfl, rfl, rfl⟩
   conv => whnf
   refine VReq.mk (app_ok (by simp only [List.length_map, List.length_append]; omega) (by kernel_rfl)) ?_
   conv => whnf
   refine aret [4] ⟨rfl, rfl, ?_⟩
   unfold txs
   simp only [List.map_append]
theorem cloneT0A : AFn Tryz.prog GC 83 [tl []] 0 [] (fun a n H => (a = .v (.slice none 0 0) ∧ n = 0 ∧ H = []) ∨ (a = .own 0 ∧ n = 1 ∧ H = [(0, .rows 9 1 [])])) := by
 refine afn_of Tryz.func83 rfl mixed (by kernel_rfl) ?_
 conv => whnf
 refine ⟨fun b _ => ?_⟩
 cases b
 ·conv => whnf
  (repeat' ((first | refine And.intro ?_ ?_ | (apply vif_split <;> intro h <;> try simp only [bl] at h) | refine AAr.i64 (by first | omega | ((try simp only [List.length_map] at *); omega)) ?_ | refine AIn.mk' _ rfl (by first | omega | (simp only [ln]; omega) | (simp only [ln] at *; omega)) ?_ | refine ARd.mapAt (by assumption) ?_ | refine ARd.set (by (try simp only [ln] at *); omega) ?_ | refine ARd.map (by first | omega | (simp only [List.length_map] at *; omega)) ?_ | refine VReq.mk (by first | decide | omega) ?_ | refine AEq.mk (by kernel_rfl) rfl rfl ?_ | refine VReq.mk (app_ok (by (try simp only [ln] at *); omega) (by kernel_rfl)) ?_) <;> conv => whnf))
  exact aend (.own 0) 1 _ [(0, .lab 1)] [] (.inr ⟨rfl, rfl, rfl⟩) rfl (by repeat' (first | rfl | trivial | apply And.intro)) (by repeat' (first | rfl | trivial | apply And.intro))
 ·conv => whnf
  exact aend (.v (.slice none 0 0)) 0 [] [] [] (.inl ⟨rfl, rfl, rfl⟩) rfl (by repeat' (first | rfl | trivial | apply And.intro)) (by repeat' (first | rfl | trivial | apply And.intro))
theorem len0A : AFn Tryz.prog GC 109 [uv 0] 0 [] (Is (iv 0)) := by
 have h : AFn Tryz.prog GC 104 [uv 0] 0 [] (Is (iv 0)) := len64A 0 (by decide)
 refine afn_of Tryz.func109 rfl mixed (by kernel_rfl) ?_
 conv => whnf
 (refine acall [] (by kernel_rfl) (h) rfl ?_ ?_; (focus (repeat' (first | rfl | trivial | apply And.intro))))
 conv => whnf
 exact aret [] (by repeat' (first | rfl | trivial | apply And.intro))
theorem ins0A : AFn Tryz.prog GC 121 [tl [], iv 0, iv 0] 0 [] (Is (.tup [])) := by
 refine afn_of Tryz.func121 rfl mixed (by kernel_rfl) ?_
 conv => whnf
 refine AAr.i64 (by decide) ?_
 conv => whnf
 refine aloop ws121_1 0 [6] (fun i : Nat => [(6, iv i)]) (fun _ => []) (fun i => i = 1) (fun _ => 0) [] [] 1 (by kernel_rfl) (fun _ => rfl) rfl rfl trivial ⟨rfl, trivial⟩ ?_
 rintro i rfl
 conv => whnf
 exact aret [] (by repeat' (first | rfl | trivial | apply And.intro))
theorem pdq0A : AFn Tryz.prog GC 108 [tl [], iv 0, iv 0, iv 0] 0 [] (Is (.tup [])) := by
 refine afn_of Tryz.func108 rfl mixed (by kernel_rfl) ?_
 conv => whnf
 refine aloop ws108_1 0 [1, 2, 3, 8, 9] (fun _ : Nat => [(1, iv 0), (2, iv 0), (3, iv 0), (8, bv true), (9, bv true)]) (fun _ => []) (fun _ => True) (fun _ => 0) [] [] 0 (by kernel_rfl) (fun _ => rfl) rfl trivial trivial (by repeat' (first | rfl | trivial | apply And.intro)) ?_
 rintro i _
 conv => whnf
 refine AAr.i64 (by decide) ?_
 conv => whnf
 (refine acall [] (by kernel_rfl) (ins0A) rfl ?_ ?_; (focus (repeat' (first | rfl | trivial | apply And.intro))))
 conv => whnf
 exact aret [] (by repeat' (first | rfl | trivial | apply And.intro))
theorem sortT0A : AFn Tryz.prog GC 84 [tl []] 0 [] (Is (.tup [])) := by
 refine afn_of Tryz.func84 rfl mixed (by kernel_rfl) ?_
 conv => whnf
 refine AAr.to (y := 0) rfl ?_
 conv => whnf
 (refine acall [] (by kernel_rfl) (len0A) rfl ?_ ?_; (focus (repeat' (first | rfl | trivial | apply And.intro))))
 conv => whnf
 (refine acall [] (by kernel_rfl) (pdq0A) rfl ?_ ?_; (focus (repeat' (first | rfl | trivial | apply And.intro))))
 conv => whnf
 exact aret [] (by repeat' (first | rfl | trivial | apply And.intro))
theorem compactT0A : AFn Tryz.prog GC 85 [tl []] 0 [] (Is (tl [])) := by
 refine afn_of Tryz.func85 rfl mixed (by kernel_rfl) ?_
 conv => whnf
 exact aret [] (by repeat' (first | rfl | trivial | apply And.intro))
theorem txs_nil : txs [] = num 0 ++ ints [] := by
 unfold txs
 simp [dsT, ixT]
theorem textsEA : AFn Tryz.prog GC 50 [tl []] 0 [] (Is (bs (txs []))) := by
 refine afn_of Tryz.func50 rfl mixed (by kernel_rfl) ?_
 conv => whnf
 (refine acallF [] (by kernel_rfl) (cloneT0A) ?_ ?_; (focus (repeat' (first | rfl | trivial | apply And.intro))))
 rintro _ _ _ (⟨rfl, rfl, rfl⟩ | ⟨rfl, rfl, rfl⟩)
 ·skip
  conv => whnf
  (refine acallF [] (by kernel_rfl) (sortT0A) ?_ ?_; (focus (repeat' (first | rfl | trivial | apply And.intro))))
  rintro _ _ _ ⟨rfl, rfl, rfl⟩
  conv => whnf
  (refine acallF [] (by kernel_rfl) (compactT0A) ?_ ?_; (focus (repeat' (first | rfl | trivial | apply And.intro))))
  rintro _ _ _ ⟨rfl, rfl, rfl⟩
  conv => whnf
  (refine acallF [] (by kernel_rfl) (putA [] 0 (by unfold I64; omega) (by simp)) ?_ ?_; (focus (repeat' (first | rfl | trivial | apply And.intro))))
  rintro _ _ _ ⟨rfl, rfl, rfl⟩
  conv => whnf
  refine aloop ws50_1 (0 + 2) [4, 23] (fun k : Nat => [(4, .own (0 + 1)), (23, iv k)]) (fun _ => [(0 + 1, .rows 5 1 ((num 0).map enB))]) (fun k => k = 0) (fun _ => 0) [(0 + 1, .lab 0)] [] 0 (by kernel_rfl) (fun _ => rfl) rfl rfl ⟨⟨rfl, rfl, rfl⟩, trivial⟩ ⟨rfl, rfl, trivial⟩ ?_
  rintro k rfl
  conv => whnf
  refine aloop ws50_2 (0 + 2) [7, 33] (fun k : Nat => [(7, .v (.slice none 0 0)), (33, iv k)]) (fun _ => [(0 + 1, .rows 5 1 ((num 0).map enB))]) (fun k => k = 0) (fun _ => 0) [] [] 0 (by kernel_rfl) (fun _ => rfl) rfl rfl ⟨⟨rfl, rfl, rfl⟩, trivial⟩ ⟨rfl, rfl, trivial⟩ ?_
  rintro k rfl
  conv => whnf
  (refine acallF [] (by kernel_rfl) (intsA [] AllI.nil (by simp)) ?_ ?_; (focus (repeat' (first | rfl | trivial | apply And.intro))))
  rintro _ _ _ ⟨rfl, rfl, rfl⟩
  conv => whnf
  have hib := ints_short [] (by simp)
  have hn := (num_len 0).2
  refine VReq.mk (app_ok (by simp only [List.length_map]; omega) (by kernel_rfl)) ?_
  conv => whnf
  refine aret [0 + 2] ⟨rfl, rfl, ?_⟩
  rw [txs_nil, List.map_append]
 ·skip
  conv => whnf
  (refine acallF [0] (by kernel_rfl) (sortT0A) ?_ ?_; (focus (repeat' (first | rfl | trivial | apply And.intro))))
  rintro _ _ _ ⟨rfl, rfl, rfl⟩
  conv => whnf
  (refine acallF [] (by kernel_rfl) (compactT0A) ?_ ?_; (focus (repeat' (first | rfl | trivial | apply And.intro))))
  rintro _ _ _ ⟨rfl, rfl, rfl⟩
  conv => whnf
  (refine acallF [] (by kernel_rfl) (putA [] 0 (by unfold I64; omega) (by simp)) ?_ ?_; (focus (repeat' (first | rfl | trivial | apply And.intro))))
  rintro _ _ _ ⟨rfl, rfl, rfl⟩
  conv => whnf
  refine aloop ws50_1 (1 + 2) [4, 23] (fun k : Nat => [(4, .own (1 + 1)), (23, iv k)]) (fun _ => [(1 + 1, .rows 5 1 ((num 0).map enB))]) (fun k => k = 0) (fun _ => 0) [(1 + 1, .lab 1)] [] 0 (by kernel_rfl) (fun _ => rfl) rfl rfl ⟨⟨rfl, rfl, rfl⟩, trivial⟩ ⟨rfl, rfl, trivial⟩ ?_
  rintro k rfl
  conv => whnf
  refine aloop ws50_2 (1 + 2) [7, 33] (fun k : Nat => [(7, .v (.slice none 0 0)), (33, iv k)]) (fun _ => [(1 + 1, .rows 5 1 ((num 0).map enB))]) (fun k => k = 0) (fun _ => 0) [] [] 0 (by kernel_rfl) (fun _ => rfl) rfl rfl ⟨⟨rfl, rfl, rfl⟩, trivial⟩ ⟨rfl, rfl, trivial⟩ ?_
  rintro k rfl
  conv => whnf
  (refine acallF [] (by kernel_rfl) (intsA [] AllI.nil (by simp)) ?_ ?_; (focus (repeat' (first | rfl | trivial | apply And.intro))))
  rintro _ _ _ ⟨rfl, rfl, rfl⟩
  conv => whnf
  have hib := ints_short [] (by simp)
  have hn := (num_len 0).2
  refine VReq.mk (app_ok (by simp only [List.length_map]; omega) (by kernel_rfl)) ?_
  conv => whnf
  refine aret [1 + 2] ⟨rfl, rfl, ?_⟩
  rw [txs_nil, List.map_append]
theorem textsA (l : Tx) (hs : l.length ≤ 512) (ht : TOK l) : AFn Tryz.prog GC 50 [tl l] 0 [] (Is (bs (txs l))) := by
 by_cases h : l = []
 ·subst h; exact textsEA
 ·exact textsNA l h hs ht
theorem by_inj {a b : By} (h : (⟨a.toArray⟩ : ByteArray) = ⟨b.toArray⟩) : a = b := by
 injection h with h
 simpa using congrArg Array.toList h
end
end Go.Proofs.YtmhpfadbmpipkaaGreatDoor.Cl
