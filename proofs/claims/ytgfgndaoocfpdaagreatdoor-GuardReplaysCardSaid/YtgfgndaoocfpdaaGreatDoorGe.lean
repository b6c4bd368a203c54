/- Joined parts of the proof. The walks of the laws GuardCourse and GuardReplays -/
import Derived.Test.YtgfgndaoocfpdaaGreatDoorPq
import Derived.Test.YtgfgndaoocfpdaaGreatDoorQk20
set_option linter.unusedVariables false
set_option linter.unusedSimpArgs false
set_option maxRecDepth 100000
set_option maxHeartbeats 16000000
namespace Go.Proofs.YtgfgndaoocfpdaaGreatDoor.Cl
open Go Go.RowKit Go.Proofs Go.Proofs.YtgfgndaoocfpdaaGreatDoor.Vc Go.Proofs.YtgfgndaoocfpdaaGreatDoor.Ax Go.Proofs.YtgfgndaoocfpdaaGreatDoor.Ky Go.Proofs.YtgfgndaoocfpdaaGreatDoor.Id
attribute [local irreducible] loadVar storeVar Instr.indexAt Instr.index Instr.sliceAt Instr.makeSlice Instr.lookup Instr.mapUpdate Instr.range Instr.next Instr.entry Instr.makeMap Builtin.append_ Builtin.copy_ Builtin.len_ Builtin.min_ Builtin.max_ Builtin.cap_ Builtin.delete_ Builtin.clear_ convert binOp eqGuard Op.unary Calls
section
theorem runS_crs {p : Pn} {l : List Ev} {w : List Wg} (hc : pnC p = 0) (h1 : 1 ≤ p.stages) (ms : Li) : ∃ la, Crs p 0 la (runS p l w ms) := by
 unfold runS
 rw [if_neg (by omega)]
 cases ms with
 | nil => exact ⟨0, trivial⟩
 | cons m r => exact ⟨m, runR_crs hc (m :: r) 0 m m 0 (Int.le_refl _) (by omega)⟩
theorem runR_all {Q : Ac → Prop} {look : Int → Int → Int → Ac} (hQ : ∀ st si m, Q (look st si m)) : ∀ (ms : Li) (st si la : Int) (n : Nat), ∀ a ∈ runR look ms st si la n, Q a := by
 intro ms
 induction ms with
 | nil => intro st si la n a h; cases h
 | cons m r ih =>
  intro st si la n a h
  unfold runR at h
  split at h
  ·exact ih _ _ _ _ a h
  split at h
  ·cases h
  rcases List.mem_cons.1 h with rfl | h
  ·exact hQ _ _ _
  split at h
  ·exact ih _ _ _ _ a h
  split at h
  ·cases h
  ·exact ih _ _ _ _ a h
theorem look_num {p : Pn} {l : List Ev} {w : List Wg} (hl : l.length ≤ 10000) (st si m : Int) : (0 ≤ (lookS p l w st si m).ctl ∧ (lookS p l w st si m).ctl ≤ 10000) ∧ (0 ≤ (lookS p l w st si m).trt ∧ (lookS p l w st si m).trt ≤ 10000) := by
 have h1 := armN_le (finS l p.exp m) si 1
 have h2 := armN_le (finS l p.exp m) si 2
 have h3 : (finS l p.exp m).length ≤ (fstS l p.exp).length := List.length_filter_le _ _
 have h4 := fstS_len l p.exp
 unfold lookS
 split
 ·exact ⟨⟨by decide, by decide⟩, by decide, by decide⟩
 unfold lookG
 dsimp only
 split
 ·dsimp only; omega
 split
 ·dsimp only; omega
 split
 ·dsimp only; omega
 split
 ·dsimp only; omega
 ·dsimp only; omega
theorem runS_num {p : Pn} {l : List Ev} {w : List Wg} (hl : l.length ≤ 10000) (ms : Li) : ∀ a ∈ runS p l w ms, (0 ≤ a.ctl ∧ a.ctl ≤ 10000) ∧ (0 ≤ a.trt ∧ a.trt ≤ 10000) := by
 unfold runS
 split
 ·intro a h; cases h
 ·cases ms with
  | nil => intro a h; cases h
  | cons m r => exact runR_all (fun st si m => look_num hl st si m) _ _ _ _ _
structure KC3 where
 i : Nat
 st : Int
 la : Int
attribute [local irreducible] lookS runS lngS mksS wg1 wg2
theorem lawCourseA (P : LP) (l : By) (a b c d : Nat) (k : By) (hz : LpZ P) (ha : a < 256) (hb : b < 256) (hc : c < 256) (hd : d < 256) :
  AFn Tryz.prog GS 7 [lpA P, bs l, u8v a, u8v b, u8v c, u8v d, bs k] 0 [] (Is (bv true)) := by
 refine afn_of Tryz.func7 rfl mixed (by kernel_rfl) ?_
 conv=>whnf
 (refine acall [] (by kernel_rfl) (gawakeA) rfl ?_ ?_; (focus trivial))
 conv=>whnf
 (refine acall [] (by kernel_rfl) (longA P l hz.l) rfl ?_ ?_; (focus trivial))
 conv=>whnf
 refine vif_split (fun h0 => ?_) (fun h0 => ?_)
 ·conv=>whnf
  exact aret [] (by trivial)
 have hl2 := lngS_no (p := P) (l := l) h0
 conv=>whnf
 refine acallF [] (by kernel_rfl) (rolloutF P hz) ?_ ?_
 ·trivial
 rintro _ _ _ ⟨p, hp, rfl, rfl, rfl⟩
 have hpz := hp.z
 have hpc := hp.ok
 conv=>whnf
 (refine adraw pln7 [] (by kernel_rfl) ?_; conv=>whnf)
 refine acallF [] (by kernel_rfl) (eventsA l (by omega)) ?_ ?_
 ·trivial
 rintro _ _ _ ⟨L, hL, rfl, rfl, rfl⟩
 conv=>whnf
 refine acallF [] (by kernel_rfl) (wdataA a b c d ha hb hc hd) ?_ ?_
 ·trivial
 rintro _ _ _ ⟨rfl, rfl, rfl⟩
 conv=>whnf
 have hmk := mksS_I k
 have hml := (mksS_ok k).1
 refine acallF [] (by kernel_rfl) (marksA k) ?_ ?_
 ·trivial
 rintro _ _ _ ⟨rfl, rfl, rfl⟩
 have hB := evB_of hL
 have hLl := hL.len
 obtain ⟨w, hw⟩ : ∃ w, w = [wg1 a b, wg2 c d] := ⟨_, rfl⟩
 have hwl : w.length ≤ 100000 := by rw [hw]; show 2 ≤ 100000; decide
 rw [← hw]
 clear hw
 have hrun := grunA p L w (mksS k) hpz hB hwl hmk (by omega)
 obtain ⟨la, hcr⟩ := runS_crs (l := L) (w := w) hpc hp.stages.1 (mksS k)
 have hnum := runS_num (p := p) (w := w) hB.len (mksS k)
 have hrl := (runS_len p L w (mksS k)).1
 have hnil := runS_nil (l := L) (w := w) (ms := mksS k) hpc
 generalize runS p L w (mksS k) = acs at *
 have hps := hp.stages
 have hpn := hp.needed
 conv=>whnf
 refine acallF [] (by kernel_rfl) hrun ?_ ?_
 ·trivial
 rintro _ _ _ ⟨rfl, rfl, rfl⟩
 conv=>whnf
 refine aloop ws7_1 2 [17, 18] (fun x : KC3 => [(17, iv x.st), (18, iv x.i)]) (fun x => [(1, pnB p), (0, lpB P)]) (fun x => x.i ≤ acs.length ∧ (0 ≤ x.st ∧ x.st ≤ x.i) ∧ Crs p x.st x.la (acs.drop x.i) ∧ (0 < x.i → ∃ b, acs[x.i - 1]? = some b ∧ b.mark = x.la)) (fun x => acs.length - x.i) [] [] ⟨0, 0, la⟩ (by kernel_rfl) (fun _ => rfl) rfl ⟨Nat.zero_le _, ⟨by show (0 : Int) ≤ 0; decide, by show (0 : Int) ≤ 0; decide⟩, hcr, fun h => absurd h (Nat.lt_irrefl 0)⟩ (by trivial) (by trivial) ?_
 clear hcr hrun
 rintro ⟨i, st, la⟩ ⟨hi, hst, hcr, hpm⟩
 dsimp only at hi hst hcr hpm
 conv=>whnf
 apply vif_split <;> intro h
 rotate_left 1
 ·conv=>whnf
  refine vif_split (fun h1 => ?_) (fun h1 => ?_)
  rotate_left 1
  ·exfalso; simp at h1; omega
  conv=>whnf
  refine aret [] (congrArg Value.bool ?_)
  have h5 : (acs = []) ↔ k = [] := by
   rw [hnil]
   constructor
   ·intro h5
    have h8 : (mksS k).length = 0 := by rw [h5]; rfl
    exact List.eq_nil_of_length_eq_zero (by omega)
   ·intro h5
    have h8 : (mksS k).length = 0 := by rw [hml, h5]; rfl
    exact List.eq_nil_of_length_eq_zero h8
  by_cases h6 : k = []
  ·have h7 := h5.2 h6; subst h6; subst h7; rfl
  ·have h7 : ¬ acs = [] := fun h => h6 (h5.1 h)
   simp [h6, h7]
   have e1 := List.length_pos_iff.2 h6
   have e2 := List.length_pos_iff.2 h7
   rw [beq_eq_false_iff_ne.2 (show ((k.length : Nat) : Int) ≠ 0 by omega), beq_eq_false_iff_ne.2 (show ((acs.length : Nat) : Int) ≠ 0 by omega)]
 have hlt : i < acs.length := by simp at h; omega
 have hg := List.getElem?_eq_getElem hlt
 have hnu := hnum _ (List.getElem_mem hlt)
 rw [List.drop_eq_getElem_cons hlt] at hcr
 generalize acs[i] = y at *
 obtain ⟨hgd, hmk2, hlast, hst2, hnext⟩ := hcr
 obtain ⟨_, g2, g3, g4, g5, g6, g7⟩ := hgd
 have hlast2 : 3 ≤ y.kind → i + 1 = acs.length := fun h => by
  have := congrArg List.length (hlast h)
  rw [List.length_drop, List.length_nil] at this
  omega
 have hpb : 0 < i → ∃ b, acs[i - 1]? = some b ∧ b.mark ≤ y.mark := fun h => by obtain ⟨b, h1, h2⟩ := hpm h; exact ⟨b, h1, by omega⟩
 clear hlast hpm
 have hks : y.kind = 1 ∨ y.kind = 2 ∨ y.kind = 3 ∨ y.kind = 4 ∨ y.kind = 5 := by omega
 conv=>whnf
 refine AIn.mk' i rfl (lmZ hlt) ?_
 conv=>whnf
 refine ARd.mapAt hg ?_
 have hnx : (0 < i + 1 → ∃ b, acs[i + 1 - 1]? = some b ∧ b.mark = y.mark) := fun _ => ⟨y, by rw [Nat.add_sub_cancel]; exact hg, rfl⟩
 have hi0 : i = 0 ∨ ∃ j b, i = j + 1 ∧ acs[j]? = some b ∧ b.mark ≤ y.mark ∧ j < acs.length := by
  rcases Nat.eq_zero_or_pos i with h1 | h1
  ·exact .inl h1
  ·obtain ⟨b, h2, h3⟩ := hpb h1
   exact .inr ⟨i - 1, b, by omega, h2, h3, by omega⟩
 clear hpb
 rcases hi0 with rfl | ⟨j, b', rfl, hb1, hb2, hjl⟩
 ·rcases hks with hk | hk | hk | hk | hk
  all_goals
   conv=>whnf
   (refine adraw pln7 [] (by kernel_rfl) ?_; conv=>whnf)
   repeat' (first
    | (refine And.intro ?_ ?_ <;> (conv=>whnf))
    | (refine vif_split (fun h9 => ?_) (fun h9 => ?_) <;> (first | (exfalso; simp [hk] at h9; done) | (exfalso; simp [hk] at h9; omega) | (conv=>whnf)))
    | (refine AAr.i64 (by (try dsimp only); first | omega | (simp only [List.length_map]; omega)) ?_; conv=>whnf))
  all_goals (first
   | exact aback ⟨0 + 1, if y.kind = 2 then st + 1 else st, y.mark⟩ [] [] rfl (by show acs.length - (0 + 1) < acs.length - 0; omega) ⟨hlt, by dsimp only; split <;> omega, hnext, hnx⟩ (by trivial) ⟨ciZ (by dsimp only; rw [if_neg (by omega)]), rfl, trivial⟩
   | exact aback ⟨0 + 1, if y.kind = 2 then st + 1 else st, y.mark⟩ [] [] rfl (by show acs.length - (0 + 1) < acs.length - 0; omega) ⟨hlt, by dsimp only; split <;> omega, hnext, hnx⟩ (by trivial) ⟨ciZ (by dsimp only; rw [if_pos hk]), rfl, trivial⟩)
 ·rcases hks with hk | hk | hk | hk | hk
  all_goals
   conv=>whnf
   (refine adraw pln7 [] (by kernel_rfl) ?_; conv=>whnf)
   repeat' (first
    | (refine And.intro ?_ ?_ <;> (conv=>whnf))
    | (refine vif_split (fun h9 => ?_) (fun h9 => ?_) <;> (first | (exfalso; simp [hk] at h9; done) | (exfalso; simp [hk] at h9; omega) | (conv=>whnf)))
    | (refine AAr.to (y := (j : Int)) (show IntKind.i64.wrap (((j + 1 : Nat) : Int) - 1) = j by rw [IntWalk.i64_in _ (by omega)]; omega) ?_; conv=>whnf)
    | (refine AIn.mk' j rfl (lmZ hjl) ?_; conv=>whnf)
    | (refine ARd.mapAt hb1 ?_; conv=>whnf)
    | (refine AAr.i64 (by (try dsimp only); first | omega | (simp only [List.length_map]; omega)) ?_; conv=>whnf))
  all_goals (first
   | exact aback ⟨j + 1 + 1, if y.kind = 2 then st + 1 else st, y.mark⟩ [] [] rfl (by show acs.length - (j + 1 + 1) < acs.length - (j + 1); omega) ⟨hlt, by dsimp only; split <;> omega, hnext, hnx⟩ (by trivial) ⟨ciZ (by dsimp only; rw [if_neg (by omega)]), rfl, trivial⟩
   | exact aback ⟨j + 1 + 1, if y.kind = 2 then st + 1 else st, y.mark⟩ [] [] rfl (by show acs.length - (j + 1 + 1) < acs.length - (j + 1); omega) ⟨hlt, by dsimp only; split <;> omega, hnext, hnx⟩ (by trivial) ⟨ciZ (by dsimp only; rw [if_pos hk]), rfl, trivial⟩)
theorem runR_rng {p : Pn} {l : List Ev} {w : List Wg} (hc : pnC p = 0) : ∀ (ms : Li) (st si la : Int) (n : Nat), si ≤ la → 0 ≤ st → (∀ m ∈ ms, -1000 ≤ m ∧ m ≤ 1000) → ∀ a ∈ runR (lookS p l w) ms st si la n, (0 ≤ a.stage ∧ a.stage ≤ st + ms.length) ∧ (-1000 ≤ a.mark ∧ a.mark ≤ 1000) := by
 intro ms
 induction ms with
 | nil => intro st si la n _ _ _ a h; cases h
 | cons m r ih =>
  intro st si la n h1 h2 h3 a h
  have h4 := h3 m List.mem_cons_self
  have h5 : ∀ m ∈ r, -1000 ≤ m ∧ m ≤ 1000 := fun m hm => h3 m (List.mem_cons_of_mem _ hm)
  simp only [List.length_cons]
  unfold runR at h
  split at h
  ·have := ih _ _ _ _ h1 h2 h5 a h; omega
  rename_i hlt
  split at h
  ·cases h
  rcases List.mem_cons.1 h with rfl | h
  ·have hg := lookS_good (l := l) (w := w) (st := st) (si := si) (m := m) hc (by omega)
   rw [hg.stage, hg.mark]; omega
  split at h
  ·have := ih _ _ _ _ (Int.le_refl _) (by omega) h5 a h; omega
  split at h
  ·cases h
  ·have := ih _ _ _ _ (by omega) h2 h5 a h; omega
theorem runS_rng {p : Pn} {l : List Ev} {w : List Wg} (hc : pnC p = 0) {ms : Li} (hm : ∀ m ∈ ms, -1000 ≤ m ∧ m ≤ 1000) (hl : ms.length ≤ 45) : ∀ a ∈ runS p l w ms, (0 ≤ a.stage ∧ a.stage ≤ 45) ∧ (-1000 ≤ a.mark ∧ a.mark ≤ 1000) := by
 unfold runS
 rw [if_neg (by omega)]
 cases ms with
 | nil => intro a h; cases h
 | cons m r =>
  intro a h
  have := runR_rng hc (m :: r) 0 m m 0 (Int.le_refl _) (Int.le_refl _) hm a h
  omega
theorem asc_drop {l : List Ev} (h : l.Pairwise fun a b => a.time ≤ b.time) {k : Nat} {e : Ev} (he : l[k]? = some e) : ∀ x ∈ l.drop k, e.time ≤ x.time := by
 have hk := (List.getElem?_eq_some_iff.1 he).1
 have hd := List.drop_eq_getElem_cons hk
 have hp := h.sublist (List.drop_sublist k l)
 rw [hd] at hp ⊢
 obtain ⟨_, rfl⟩ := List.getElem?_eq_some_iff.1 he
 intro x hx
 rcases List.mem_cons.1 hx with rfl | hx
 ·exact Int.le_refl _
 ·exact (List.pairwise_cons.1 hp).1 x hx
theorem lawReplaysA (P : LP) (l : By) (a b c d : Nat) (k : By) (hz : LpZ P) (ha : a < 256) (hb : b < 256) (hc : c < 256) (hd : d < 256) :
  AFn Tryz.prog GS 6 [lpA P, bs l, u8v a, u8v b, u8v c, u8v d, bs k] 0 [] (Is (bv true)) := by
 refine afn_of Tryz.func6 rfl mixed (by kernel_rfl) ?_
 conv=>whnf
 (refine acall [] (by kernel_rfl) (gawakeA) rfl ?_ ?_; (focus trivial))
 conv=>whnf
 (refine acall [] (by kernel_rfl) (longA P l hz.l) rfl ?_ ?_; (focus trivial))
 conv=>whnf
 refine vif_split (fun h0 => ?_) (fun h0 => ?_)
 ·conv=>whnf
  exact aret [] (by trivial)
 have hl2 := lngS_no (p := P) (l := l) h0
 conv=>whnf
 refine acallF [] (by kernel_rfl) (rolloutF P hz) ?_ ?_
 ·trivial
 rintro _ _ _ ⟨p, hp, rfl, rfl, rfl⟩
 have hpz := hp.z
 have hpc := hp.ok
 conv=>whnf
 refine acallF [] (by kernel_rfl) (eventsA l (by omega)) ?_ ?_
 ·trivial
 rintro _ _ _ ⟨L, hL, rfl, rfl, rfl⟩
 conv=>whnf
 refine acallF [] (by kernel_rfl) (wdataA a b c d ha hb hc hd) ?_ ?_
 ·trivial
 rintro _ _ _ ⟨rfl, rfl, rfl⟩
 have hB := evB_of hL
 have hLl := hL.len
 obtain ⟨w, hw⟩ : ∃ w, w = [wg1 a b, wg2 c d] := ⟨_, rfl⟩
 have hwl : w.length ≤ 100000 := by rw [hw]; show 2 ≤ 100000; decide
 rw [← hw]
 clear hw
 have hmk := mksS_I k
 have hml := mksS_ok k
 have hrun := grunA p L w (mksS k) hpz hB hwl hmk (by omega)
 have hrng := runS_rng (l := L) (w := w) hpc hml.2 (by omega)
 have hrl := (runS_len p L w (mksS k)).1
 have hfst : ∀ y r, runS p L w (mksS k) = y :: r → Rpl (lookS p L w) y.mark (y :: r) := fun y r h => by
  obtain ⟨m0, h1, h2⟩ := runS_first hpc h
  rw [h1]; exact h2
 generalize runS p L w (mksS k) = acs at *
 conv=>whnf
 (refine adraw pln6 [] (by kernel_rfl) ?_; conv=>whnf)
 refine acallF [] (by kernel_rfl) (marksA k) ?_ ?_
 ·trivial
 rintro _ _ _ ⟨rfl, rfl, rfl⟩
 conv=>whnf
 refine acallF [] (by kernel_rfl) hrun ?_ ?_
 ·trivial
 rintro _ _ _ ⟨rfl, rfl, rfl⟩
 conv=>whnf
 refine aloop ws6_1 2 [19, 20] (fun x : KC3 => [(19, iv x.la), (20, iv x.i)]) (fun x => [(1, pnB p), (0, lpB P)]) (fun x => x.i ≤ acs.length ∧ (-1000 ≤ x.la ∧ x.la ≤ 1000) ∧ (x.i = 0 ∨ Rpl (lookS p L w) x.la (acs.drop x.i))) (fun x => acs.length - x.i) [] [] ⟨0, 0, 0⟩ (by kernel_rfl) (fun _ => rfl) rfl ⟨Nat.zero_le _, ⟨by show (-1000 : Int) ≤ 0; decide, by show (0 : Int) ≤ 1000; decide⟩, .inl rfl⟩ (by trivial) (by trivial) ?_
 clear hrun
 rintro ⟨i, _, si⟩ ⟨hi, hsi, hrp⟩
 dsimp only at hi hsi hrp
 conv=>whnf
 apply vif_split <;> intro h
 rotate_left 1
 ·conv=>whnf
  exact aret [] (by trivial)
 have hlt : i < acs.length := by simp at h; omega
 have hg := List.getElem?_eq_getElem hlt
 have hry := hrng _ (List.getElem_mem hlt)
 have hdc := List.drop_eq_getElem_cons hlt
 rw [hdc] at hrp
 generalize acs[i] = y at *
 conv=>whnf
 refine vif_split (fun h3 => ?_) (fun h3 => ?_)
 ·have hi0 : i = 0 := by simp at h3; omega
  have hrp := hfst y _ (by rw [← hdc, hi0, List.drop_zero])
  have hsi := hry.2
  conv=>whnf
  refine AIn.mk' 0 rfl (by rw [List.length_map]; rw [hi0] at hlt; exact hlt) ?_
  conv=>whnf
  refine ARd.mapAt (by rw [hi0] at hg; exact hg) ?_
  conv=>whnf
  have hnext := hrp.2.2
  have hsm := hrp.2.1
  have heq := hrp.1
  have hmore : ∀ {q : Nat}, (∀ e ∈ L.take q, e.time < y.mark) → (∀ e ∈ L.drop q, y.mark ≤ e.time) → AFn Tryz.prog GS 16 [pnA p, el (L.take q), wgL w, iv y.stage, iv y.mark, iv y.mark] 0 [] (Is (acA y)) := fun {q} h1 h2 => by
   have hk := glookA p (L.take q) w y.stage (y.mark) y.mark hpz ⟨by rw [List.length_take]; omega, fun e he => hB.time e (List.mem_of_mem_take he), fun e he => hB.val e (List.mem_of_mem_take he)⟩ hwl ⟨by omega, by omega⟩ ⟨by omega, by omega⟩ ⟨by omega, by omega⟩
   rwa [← lookS_more h1 h2 p w y.stage (y.mark), List.take_append_drop, heq] at hk
  conv=>whnf
  refine aloop ws6_2 2 [21] (fun q : Nat => [(21, iv q)]) (fun _ => [(1, pnB p), (0, lpB P)]) (fun q => q ≤ L.length ∧ ∀ e ∈ L.take q, e.time < y.mark) (fun q => L.length - q) [] [] 0 (by kernel_rfl) (fun _ => rfl) rfl ⟨Nat.zero_le _, fun e he => by cases he⟩ (by trivial) (by trivial) ?_
  rintro q ⟨hq, hbe⟩
  replace hmore := fun h => hmore hbe h
  conv=>whnf
  (refine adraw pln6 [] (by kernel_rfl) ?_; conv=>whnf)
  refine vif_split (fun h5 => ?_) (fun h5 => ?_)
  rotate_left 1
  ·have hqe : q = L.length := by simp at h5; omega
   have hdr : ∀ e ∈ L.drop q, y.mark ≤ e.time := by rw [hqe, List.drop_length]; intro e he; cases he
   have hst := hmore hdr
   conv=>whnf
   (refine adraw pln6 [] (by kernel_rfl) ?_; conv=>whnf)
   repeat' (first
    | (refine And.intro ?_ ?_ <;> (conv=>whnf))
    | (refine ABd.mk' 0 q rfl rfl (Nat.zero_le _) (by rw [List.length_map]; exact hq) ?_; rw [show cut none (some (AV.v (.int .i64 (q : Int)))) 0 q (L.map enE) = (L.take q).map enE from List.map_take.symm]; conv=>whnf)
    | (refine AIn.mk' i rfl (lmZ hlt) ?_; conv=>whnf)
    | (refine ARd.mapAt hg ?_; conv=>whnf)
    | ((refine acall [] (by kernel_rfl) (hst) rfl ?_ ?_; (focus (trivial; done)); (conv=>whnf)))
    | (refine AEq.mk (by kernel_rfl) rfl rfl ?_; conv=>whnf))
   refine vif_split (fun h9 => ?_) (fun h9 => ?_)
   ·exfalso; simp at h9
   conv=>whnf
   repeat' (first
    | (refine AIn.mk' i rfl (lmZ hlt) ?_; conv=>whnf)
    | (refine ARd.mapAt hg ?_; conv=>whnf))
   refine vif_split (fun h9 => ?_) (fun h9 => ?_)
   ·have k2 : y.kind = 2 := by simpa using h9
    rw [if_pos k2] at hnext
    conv=>whnf
    repeat' (first
     | (refine AIn.mk' i rfl (lmZ hlt) ?_; conv=>whnf)
     | (refine ARd.mapAt hg ?_; conv=>whnf))
    refine AAr.i64 (by show _ ≤ (i : Int) + 1 ∧ (i : Int) + 1 ≤ _; omega) ?_
    conv=>whnf
    exact aback ⟨i + 1, 0, y.mark⟩ [] [] rfl (by show acs.length - (i + 1) < acs.length - i; omega) ⟨hlt, hry.2, .inr hnext⟩ (by trivial) (by trivial)
   ·have k2 : ¬ y.kind = 2 := by simpa using h9
    rw [if_neg k2] at hnext
    conv=>whnf
    refine AAr.i64 (by show _ ≤ (i : Int) + 1 ∧ (i : Int) + 1 ≤ _; omega) ?_
    conv=>whnf
    exact aback ⟨i + 1, 0, y.mark⟩ [] [] rfl (by show acs.length - (i + 1) < acs.length - i; omega) ⟨hlt, hsi, .inr hnext⟩ (by trivial) (by trivial)
  have hql : q < L.length := by simp at h5; omega
  have hgq := List.getElem?_eq_getElem hql
  have hsn := List.take_succ_eq_append_getElem hql
  generalize L[q] = z at *
  conv=>whnf
  repeat' (first
   | (refine And.intro ?_ ?_ <;> (conv=>whnf))
   | (refine AIn.mk' q rfl (lmZ hql) ?_; conv=>whnf)
   | (refine ARd.mapAt hgq ?_; conv=>whnf)
   | (refine AIn.mk' i rfl (lmZ hlt) ?_; conv=>whnf)
   | (refine ARd.mapAt hg ?_; conv=>whnf))
  refine vif_split (fun h6 => ?_) (fun h6 => ?_)
  ·have hzt : z.time < y.mark := by simpa using h6
   conv=>whnf
   refine AAr.i64 (by omega) ?_
   conv=>whnf
   exact aback (q + 1) [] [] rfl (by show L.length - (q + 1) < L.length - q; omega) ⟨hql, fun e he => by
    rw [hsn] at he
    rcases List.mem_append.1 he with he | he
    ·exact hbe e he
    ·rw [List.mem_singleton.1 he]; exact hzt⟩ (by trivial) (by trivial)
  have hzt : ¬ z.time < y.mark := by simpa using h6
  have hdr : ∀ e ∈ L.drop q, y.mark ≤ e.time := fun e he => by have := asc_drop hL.asc hgq e he; omega
  have hst := hmore hdr
  conv=>whnf
  (refine adraw pln6 [] (by kernel_rfl) ?_; conv=>whnf)
  repeat' (first
   | (refine And.intro ?_ ?_ <;> (conv=>whnf))
   | (refine ABd.mk' 0 q rfl rfl (Nat.zero_le _) (by rw [List.length_map]; exact hq) ?_; rw [show cut none (some (AV.v (.int .i64 (q : Int)))) 0 q (L.map enE) = (L.take q).map enE from List.map_take.symm]; conv=>whnf)
   | (refine AIn.mk' i rfl (lmZ hlt) ?_; conv=>whnf)
   | (refine ARd.mapAt hg ?_; conv=>whnf)
   | ((refine acall [] (by kernel_rfl) (hst) rfl ?_ ?_; (focus (trivial; done)); (conv=>whnf)))
   | (refine AEq.mk (by kernel_rfl) rfl rfl ?_; conv=>whnf))
  refine vif_split (fun h9 => ?_) (fun h9 => ?_)
  ·exfalso; simp at h9
  conv=>whnf
  repeat' (first
   | (refine AIn.mk' i rfl (lmZ hlt) ?_; conv=>whnf)
   | (refine ARd.mapAt hg ?_; conv=>whnf))
  refine vif_split (fun h9 => ?_) (fun h9 => ?_)
  ·have k2 : y.kind = 2 := by simpa using h9
   rw [if_pos k2] at hnext
   conv=>whnf
   repeat' (first
    | (refine AIn.mk' i rfl (lmZ hlt) ?_; conv=>whnf)
    | (refine ARd.mapAt hg ?_; conv=>whnf))
   refine AAr.i64 (by show _ ≤ (i : Int) + 1 ∧ (i : Int) + 1 ≤ _; omega) ?_
   conv=>whnf
   exact aback ⟨i + 1, 0, y.mark⟩ [] [] rfl (by show acs.length - (i + 1) < acs.length - i; omega) ⟨hlt, hry.2, .inr hnext⟩ (by trivial) (by trivial)
  ·have k2 : ¬ y.kind = 2 := by simpa using h9
   rw [if_neg k2] at hnext
   conv=>whnf
   refine AAr.i64 (by show _ ≤ (i : Int) + 1 ∧ (i : Int) + 1 ≤ _; omega) ?_
   conv=>whnf
   exact aback ⟨i + 1, 0, y.mark⟩ [] [] rfl (by show acs.length - (i + 1) < acs.length - i; omega) ⟨hlt, hsi, .inr hnext⟩ (by trivial) (by trivial)
 ·have hi0 : ¬ i = 0 := by simp at h3; omega
  replace hrp := hrp.resolve_left hi0
  have hnext := hrp.2.2
  have hsm := hrp.2.1
  have heq := hrp.1
  have hmore : ∀ {q : Nat}, (∀ e ∈ L.take q, e.time < y.mark) → (∀ e ∈ L.drop q, y.mark ≤ e.time) → AFn Tryz.prog GS 16 [pnA p, el (L.take q), wgL w, iv y.stage, iv si, iv y.mark] 0 [] (Is (acA y)) := fun {q} h1 h2 => by
   have hk := glookA p (L.take q) w y.stage (si) y.mark hpz ⟨by rw [List.length_take]; omega, fun e he => hB.time e (List.mem_of_mem_take he), fun e he => hB.val e (List.mem_of_mem_take he)⟩ hwl ⟨by omega, by omega⟩ ⟨by omega, by omega⟩ ⟨by omega, by omega⟩
   rwa [← lookS_more h1 h2 p w y.stage (si), List.take_append_drop, heq] at hk
  conv=>whnf
  refine aloop ws6_2 2 [21] (fun q : Nat => [(21, iv q)]) (fun _ => [(1, pnB p), (0, lpB P)]) (fun q => q ≤ L.length ∧ ∀ e ∈ L.take q, e.time < y.mark) (fun q => L.length - q) [] [] 0 (by kernel_rfl) (fun _ => rfl) rfl ⟨Nat.zero_le _, fun e he => by cases he⟩ (by trivial) (by trivial) ?_
  rintro q ⟨hq, hbe⟩
  replace hmore := fun h => hmore hbe h
  conv=>whnf
  (refine adraw pln6 [] (by kernel_rfl) ?_; conv=>whnf)
  refine vif_split (fun h5 => ?_) (fun h5 => ?_)
  rotate_left 1
  ·have hqe : q = L.length := by simp at h5; omega
   have hdr : ∀ e ∈ L.drop q, y.mark ≤ e.time := by rw [hqe, List.drop_length]; intro e he; cases he
   have hst := hmore hdr
   conv=>whnf
   (refine adraw pln6 [] (by kernel_rfl) ?_; conv=>whnf)
   repeat' (first
    | (refine And.intro ?_ ?_ <;> (conv=>whnf))
    | (refine ABd.mk' 0 q rfl rfl (Nat.zero_le _) (by rw [List.length_map]; exact hq) ?_; rw [show cut none (some (AV.v (.int .i64 (q : Int)))) 0 q (L.map enE) = (L.take q).map enE from List.map_take.symm]; conv=>whnf)
    | (refine AIn.mk' i rfl (lmZ hlt) ?_; conv=>whnf)
    | (refine ARd.mapAt hg ?_; conv=>whnf)
    | ((refine acall [] (by kernel_rfl) (hst) rfl ?_ ?_; (focus (trivial; done)); (conv=>whnf)))
    | (refine AEq.mk (by kernel_rfl) rfl rfl ?_; conv=>whnf))
   refine vif_split (fun h9 => ?_) (fun h9 => ?_)
   ·exfalso; simp at h9
   conv=>whnf
   repeat' (first
    | (refine AIn.mk' i rfl (lmZ hlt) ?_; conv=>whnf)
    | (refine ARd.mapAt hg ?_; conv=>whnf))
   refine vif_split (fun h9 => ?_) (fun h9 => ?_)
   ·have k2 : y.kind = 2 := by simpa using h9
    rw [if_pos k2] at hnext
    conv=>whnf
    repeat' (first
     | (refine AIn.mk' i rfl (lmZ hlt) ?_; conv=>whnf)
     | (refine ARd.mapAt hg ?_; conv=>whnf))
    refine AAr.i64 (by show _ ≤ (i : Int) + 1 ∧ (i : Int) + 1 ≤ _; omega) ?_
    conv=>whnf
    exact aback ⟨i + 1, 0, y.mark⟩ [] [] rfl (by show acs.length - (i + 1) < acs.length - i; omega) ⟨hlt, hry.2, .inr hnext⟩ (by trivial) (by trivial)
   ·have k2 : ¬ y.kind = 2 := by simpa using h9
    rw [if_neg k2] at hnext
    conv=>whnf
    refine AAr.i64 (by show _ ≤ (i : Int) + 1 ∧ (i : Int) + 1 ≤ _; omega) ?_
    conv=>whnf
    exact aback ⟨i + 1, 0, si⟩ [] [] rfl (by show acs.length - (i + 1) < acs.length - i; omega) ⟨hlt, hsi, .inr hnext⟩ (by trivial) (by trivial)
  have hql : q < L.length := by simp at h5; omega
  have hgq := List.getElem?_eq_getElem hql
  have hsn := List.take_succ_eq_append_getElem hql
  generalize L[q] = z at *
  conv=>whnf
  repeat' (first
   | (refine And.intro ?_ ?_ <;> (conv=>whnf))
   | (refine AIn.mk' q rfl (lmZ hql) ?_; conv=>whnf)
   | (refine ARd.mapAt hgq ?_; conv=>whnf)
   | (refine AIn.mk' i rfl (lmZ hlt) ?_; conv=>whnf)
   | (refine ARd.mapAt hg ?_; conv=>whnf))
  refine vif_split (fun h6 => ?_) (fun h6 => ?_)
  ·have hzt : z.time < y.mark := by simpa using h6
   conv=>whnf
   refine AAr.i64 (by omega) ?_
   conv=>whnf
   exact aback (q + 1) [] [] rfl (by show L.length - (q + 1) < L.length - q; omega) ⟨hql, fun e he => by
    rw [hsn] at he
    rcases List.mem_append.1 he with he | he
    ·exact hbe e he
    ·rw [List.mem_singleton.1 he]; exact hzt⟩ (by trivial) (by trivial)
  have hzt : ¬ z.time < y.mark := by simpa using h6
  have hdr : ∀ e ∈ L.drop q, y.mark ≤ e.time := fun e he => by have := asc_drop hL.asc hgq e he; omega
  have hst := hmore hdr
  conv=>whnf
  (refine adraw pln6 [] (by kernel_rfl) ?_; conv=>whnf)
  repeat' (first
   | (refine And.intro ?_ ?_ <;> (conv=>whnf))
   | (refine ABd.mk' 0 q rfl rfl (Nat.zero_le _) (by rw [List.length_map]; exact hq) ?_; rw [show cut none (some (AV.v (.int .i64 (q : Int)))) 0 q (L.map enE) = (L.take q).map enE from List.map_take.symm]; conv=>whnf)
   | (refine AIn.mk' i rfl (lmZ hlt) ?_; conv=>whnf)
   | (refine ARd.mapAt hg ?_; conv=>whnf)
   | ((refine acall [] (by kernel_rfl) (hst) rfl ?_ ?_; (focus (trivial; done)); (conv=>whnf)))
   | (refine AEq.mk (by kernel_rfl) rfl rfl ?_; conv=>whnf))
  refine vif_split (fun h9 => ?_) (fun h9 => ?_)
  ·exfalso; simp at h9
  conv=>whnf
  repeat' (first
   | (refine AIn.mk' i rfl (lmZ hlt) ?_; conv=>whnf)
   | (refine ARd.mapAt hg ?_; conv=>whnf))
  refine vif_split (fun h9 => ?_) (fun h9 => ?_)
  ·have k2 : y.kind = 2 := by simpa using h9
   rw [if_pos k2] at hnext
   conv=>whnf
   repeat' (first
    | (refine AIn.mk' i rfl (lmZ hlt) ?_; conv=>whnf)
    | (refine ARd.mapAt hg ?_; conv=>whnf))
   refine AAr.i64 (by show _ ≤ (i : Int) + 1 ∧ (i : Int) + 1 ≤ _; omega) ?_
   conv=>whnf
   exact aback ⟨i + 1, 0, y.mark⟩ [] [] rfl (by show acs.length - (i + 1) < acs.length - i; omega) ⟨hlt, hry.2, .inr hnext⟩ (by trivial) (by trivial)
  ·have k2 : ¬ y.kind = 2 := by simpa using h9
   rw [if_neg k2] at hnext
   conv=>whnf
   refine AAr.i64 (by show _ ≤ (i : Int) + 1 ∧ (i : Int) + 1 ≤ _; omega) ?_
   conv=>whnf
   exact aback ⟨i + 1, 0, si⟩ [] [] rfl (by show acs.length - (i + 1) < acs.length - i; omega) ⟨hlt, hsi, .inr hnext⟩ (by trivial) (by trivial)
end
end Go.Proofs.YtgfgndaoocfpdaaGreatDoor.Cl
