/- Joined parts of the proof. The walk of the law GuardReasons -/
import Derived.Test.YtgfgndaoocfpdaaGreatDoorPq
import Derived.Test.YtgfgndaoocfpdaaGreatDoorQk20
set_option linter.unusedVariables false
set_option linter.unusedSimpArgs false
set_option maxRecDepth 100000
set_option maxHeartbeats 16000000
namespace Go.Proofs.YtgfgndaoocfpdaaGreatDoor.Cl
open Go Go.RowKit Go.Proofs Go.Proofs.YtgfgndaoocfpdaaGreatDoor.Vc Go.Proofs.YtgfgndaoocfpdaaGreatDoor.Ax Go.Proofs.YtgfgndaoocfpdaaGreatDoor.Ky Go.Proofs.YtgfgndaoocfpdaaGreatDoor.Id
attribute [local irreducible] loadVar storeVar Instr.indexAt Instr.index Instr.sliceAt Instr.makeSlice Instr.lookup Instr.mapUpdate Instr.range Instr.next Instr.entry Instr.makeMap Builtin.append_ Builtin.copy_ Builtin.len_ Builtin.min_ Builtin.max_ Builtin.cap_ Builtin.delete_ Builtin.clear_ convert binOp eqGuard Op.unary Calls
section
attribute [local irreducible] lookS lngS wg1 wg2
theorem look_rsn {p : Pn} {l : List Ev} {w : List Wg} {M : Int} (hc : pnC p = 0) (hM : 0 ≤ M) :
  (0 < alrS (finS l p.exp M) w p.level → (lookS p l w 0 0 M).kind = 3 ∧ (lookS p l w 0 0 M).health = -1) ∧
  (¬ 0 < alrS (finS l p.exp M) w p.level → (lookS p l w 0 0 M).kind ≠ 3 ∧ (lookS p l w 0 0 M).health = illS l w p M ∧ ((lookS p l w 0 0 M).kind = 4 ↔ 0 ≤ illS l w p M)) := by
 have hI : illS l w p M = -1 ∨ 0 ≤ illS l w p M := illT_rng _ _ _
 unfold lookS
 rw [if_neg (by omega)]
 unfold lookG
 dsimp only
 generalize illS l w p M = I at *
 generalize lastD (balS (finS l p.exp M) w) = K
 generalize armN (finS l p.exp M) 0 1 = a
 generalize armN (finS l p.exp M) 0 2 = b
 generalize alrS (finS l p.exp M) w p.level = al
 refine ⟨fun h => ?_, fun h => ?_⟩
 ·rw [if_pos h]; exact ⟨rfl, rfl⟩
 rw [if_neg h]
 by_cases h2 : 0 ≤ I
 ·rw [if_pos h2]; exact ⟨by show (4 : Int) ≠ 3; decide, rfl, ⟨fun _ => h2, fun _ => rfl⟩⟩
 rw [if_neg h2]
 have h3 : I = -1 := by omega
 subst h3
 split
 ·exact ⟨by show (1 : Int) ≠ 3; decide, rfl, by show (1 : Int) = 4 ↔ (0 : Int) ≤ -1; decide⟩
 split
 ·exact ⟨by show (5 : Int) ≠ 3; decide, rfl, by show (5 : Int) = 4 ↔ (0 : Int) ≤ -1; decide⟩
 ·exact ⟨by show (2 : Int) ≠ 3; decide, rfl, by show (2 : Int) = 4 ↔ (0 : Int) ≤ -1; decide⟩
attribute [local irreducible] mtC kyM fstS pnC balS alrS uppS lowS illP thr smpS
theorem lawReasonsA (P : LP) (l : By) (a b c d m : Nat) (hz : LpZ P) (ha : a < 256) (hb : b < 256) (hc : c < 256) (hd : d < 256) (hm : m < 256) :
  AFn Tryz.prog GS 8 [lpA P, bs l, u8v a, u8v b, u8v c, u8v d, u8v m] 0 [] (Is (bv true)) := by
 refine afn_of Tryz.func8 rfl mixed (by kernel_rfl) ?_
 conv=>whnf
 (refine acall [] (by kernel_rfl) (gawakeA) rfl ?_ ?_; (focus trivial))
 conv=>whnf
 (refine acall [] (by kernel_rfl) (longA P l hz.l) rfl ?_ ?_; (focus trivial))
 conv=>whnf
 refine vif_split (fun h0 => ?_) (fun h0 => ?_)
 ·conv=>whnf
  exact aret [] (by trivial)
 have hl2 := lngS_no (p := P) (l := l) h0
 conv=>whnf
 refine acallF [] (by kernel_rfl) (rolloutF P hz) ?_ ?_
 ·trivial
 rintro _ _ _ ⟨p, hp, rfl, rfl, rfl⟩
 have hpz := hp.z
 have hpc := hp.ok
 conv=>whnf
 refine acallF [] (by kernel_rfl) (eventsA l (by omega)) ?_ ?_
 ·trivial
 rintro _ _ _ ⟨L, hL, rfl, rfl, rfl⟩
 conv=>whnf
 refine acallF [] (by kernel_rfl) (wdataA a b c d ha hb hc hd) ?_ ?_
 ·trivial
 rintro _ _ _ ⟨rfl, rfl, rfl⟩
 have hB := evB_of hL
 have hLl := hL.len
 have hne := wg_ne a b c d
 generalize wg1 a b = g1 at *
 generalize wg2 c d = g2 at *
 have m3 : m % 150 < 150 := Nat.mod_lt _ (by decide)
 obtain ⟨M, hM⟩ : ∃ M : Int, M = (m : Int).tmod 150 := ⟨_, rfl⟩
 have hM2 : M = ((m % 150 : Nat) : Int) := hM
 have k1 := glookA p L [g1, g2] 0 0 M hpz hB (by show 2 ≤ 100000; decide) ⟨by decide, by decide⟩ ⟨by decide, by decide⟩ ⟨by omega, by omega⟩
 obtain ⟨r1, r2⟩ := look_rsn (l := L) (w := [g1, g2]) (M := M) hpc (by omega)
 generalize lookS p L [g1, g2] 0 0 M = R at *
 have hF := first2A (G := GS) L p.exp (by omega) hL.asc
 have hfl := fstS_len L p.exp
 have hfin : finS L p.exp M = finT (fstS L p.exp) M (fstS L p.exp).length := by unfold finS finT; rw [List.take_length]
 rw [hfin] at r1 r2
 generalize hFd : fstS L p.exp = F at *
 clear hfin
 conv=>whnf
 repeat' (first
  | (refine VReq.mk (by decide) ?_; conv=>whnf)
  | (refine AAr.i64 (by omega) ?_; conv=>whnf))
 rw [← hM]
 refine acallF [] (by kernel_rfl) k1 ?_ ?_
 ·trivial
 rintro _ _ _ ⟨rfl, rfl, rfl⟩
 conv=>whnf
 refine acallF [] (by kernel_rfl) hF ?_ ?_
 ·trivial
 rintro _ _ _ ⟨rfl, rfl, rfl⟩
 conv=>whnf
 refine aloop ws8_1 4 [21, 22] (fun i : Nat => [(21, .own 3), (22, iv i)]) (fun i => [(3, .rows 60 6 ((finT F M i).map exF)), (2, .var 46 [iv R.mark, iv R.kind, iv R.stage, iv R.ctl, iv R.trt, iv R.wealth, iv R.health]), (1, pnB p), (0, lpB P)]) (fun i => i ≤ F.length) (fun i => F.length - i) [(3, .nil)] [] 0 (by kernel_rfl) (fun _ => rfl) rfl (Nat.zero_le _) (by trivial) (by trivial) ?_
 intro i hi
 have hql := finT_len F M i
 conv=>whnf
 apply vif_split <;> intro h
 ·have hlt : i < F.length := by simp at h; omega
  have hg := List.getElem?_eq_getElem hlt
  have hn := finT_succ (mark := M) hlt
  generalize F[i] = e at *
  generalize hq : finT F M i = q at *
  conv=>whnf
  refine AIn.mk' i rfl (lmZ hlt) ?_
  conv=>whnf
  refine ARd.mapAt hg ?_
  conv=>whnf
  refine vif_split (fun h1 => ?_) (fun h1 => ?_)
  rotate_left 1
  ·have c1 : ¬ e.time < M := by simp only [decide_eq_false_iff_not] at h1; omega
   rw [if_neg c1] at hn
   conv=>whnf
   refine AAr.i64 (by omega) ?_
   conv=>whnf
   exact aback (i + 1) [(3, .lab 3)] [] rfl (by show F.length - (i + 1) < F.length - i; omega) hlt ⟨⟨rfl, rfl, by rw [hn]⟩, (by trivial), (by trivial), (by trivial), trivial⟩ (by trivial)
  have c1 : e.time < M := by simp only [decide_eq_true_eq] at h1; omega
  rw [if_pos c1] at hn
  conv=>whnf
  refine AIn.mk' i rfl (lmZ hlt) ?_
  conv=>whnf
  refine ARd.mapAt hg ?_
  conv=>whnf
  refine VReq.mk (app_ok (by simp only [List.length_map, List.length_cons, List.length_nil]; omega) (by kernel_rfl)) ?_
  conv=>whnf
  have hmp : q.map exF ++ [exF e] = (q ++ [e]).map exF := by rw [List.map_append]; rfl
  refine AAr.i64 (by omega) ?_
  conv=>whnf
  exact aback (i + 1) [(3, .lab 5)] [] rfl (by show F.length - (i + 1) < F.length - i; omega) hlt ⟨⟨rfl, rfl, by rw [hn]; exact hmp⟩, (by trivial), (by trivial), (by trivial), trivial⟩ (by trivial)
 have hie : i = F.length := by simp at h; omega
 subst hie
 generalize hq : finT F M F.length = q at *
 have hal := balarm2A (G := GS) q g1 g2 p.level (by omega) hne
 generalize alrS q [g1, g2] p.level = al at *
 conv=>whnf
 refine acallF [3] (by kernel_rfl) hal ?_ ?_
 ·trivial
 rintro _ _ _ ⟨rfl, rfl, rfl⟩
 conv=>whnf
 by_cases c1 : 0 < al
 ·obtain ⟨e1, e2⟩ := r1 c1
  repeat' (first
   | (refine vif_split (fun h9 => ?_) (fun h9 => ?_) <;> (first | (exfalso; simp [e1, c1] at h9; done) | (exfalso; simp [e1] at h9; omega) | (conv=>whnf)))
   | (exact aret [] (congrArg Value.bool (by simp [e2]))))
 obtain ⟨e1, e2, e3⟩ := r2 c1
 repeat' (refine vif_split (fun h9 => ?_) (fun h9 => ?_) <;> (first | (exfalso; simp [e1, c1] at h9; done) | (exfalso; simp [e1] at h9; omega) | (conv=>whnf)))
 have hhl := hp.hl
 have hsm := fun (m : Mt) h1 h2 => samples2A L p.exp m M hB hL.asc h1 h2
 have hsl := fun (m : Mt) => smp_lenI L p.exp m M
 have hzm := hpz.m
 have hIr : illS L [g1, g2] p M = -1 ∨ 0 ≤ illS L [g1, g2] p M := illT_rng _ _ _
 have hI : illT (illP L [g1, g2] p M) p.health 0 = illS L [g1, g2] p M := rfl
 generalize illS L [g1, g2] p M = I at *
 have hPd : ∀ x : Hl, illP L [g1, g2] p M x = (decide (uppS (scrS L [g1, g2] p.exp x.m M) p.level < x.lo) || decide (x.hi < lowS (scrS L [g1, g2] p.exp x.m M) p.level)) := fun x => by rw [illP]
 generalize illP L [g1, g2] p M = f at *
 refine AAr.i64 (by rw [List.length_map]; omega) ?_
 conv=>whnf
 refine aloop ws8_2 4 [24, 25] (fun j : Nat => [(24, iv (illT f (p.health.drop j) j)), (25, iv ((j : Int) - 1))]) (fun _ => [(2, .var 46 [iv R.mark, iv R.kind, iv R.stage, iv R.ctl, iv R.trt, iv R.wealth, iv R.health]), (1, pnB p), (0, lpB P)]) (fun j => j ≤ p.health.length) (fun j => j) [] [] p.health.length (by kernel_rfl) (fun _ => rfl) rfl (Nat.le_refl _) (by trivial) ⟨ciZ (by rw [List.drop_length]; rfl), ciZ (by rw [List.length_map]), trivial⟩ ?_
 intro j hj
 conv=>whnf
 refine vif_split (fun h2 => ?_) (fun h2 => ?_)
 rotate_left 1
 ·have hj0 : j = 0 := by simp at h2; omega
  subst hj0
  rw [List.drop_zero, hI]
  by_cases hI0 : 0 ≤ I
  ·have e4 := e3.2 hI0
   conv=>whnf
   repeat' (refine vif_split (fun h9 => ?_) (fun h9 => ?_) <;> (first | (exfalso; simp [e2] at h9; done) | (conv=>whnf)))
   all_goals exact aret [] (congrArg Value.bool (by simp [e2, e4, hI0]))
  ·have e4 : R.kind ≠ 4 := fun h => hI0 (e3.1 h)
   conv=>whnf
   repeat' (refine vif_split (fun h9 => ?_) (fun h9 => ?_) <;> (first | (exfalso; simp [e2] at h9; done) | (conv=>whnf)))
   all_goals exact aret [] (congrArg Value.bool (by simp [e2, e4, hI0]))
 have hj0 : 0 < j := by simp at h2; omega
 obtain ⟨j, rfl⟩ : ∃ i, j = i + 1 := ⟨j - 1, by omega⟩
 have hlt2 : j < p.health.length := by omega
 have hg2 := List.getElem?_eq_getElem hlt2
 have hm2 := hzm _ (List.getElem_mem hlt2)
 have hI2 := illT_drop (f := f) hlt2
 generalize p.health[j] = x at *
 have hPx := hPd x
 have hS := hsm x.m hm2.1 hm2.2
 have hSl := hsl x.m
 rw [hFd] at hSl
 have hSb := smp_beforeI (l := L) (name := p.exp) (m := x.m) (mark := M)
 have hsc : scrS L [g1, g2] p.exp x.m M = allS (if mtC x.m = 0 then smpS L p.exp x.m M else []) [g1, g2] x.m.cap (decide (0 < x.m.before)) := rfl
 generalize (if mtC x.m = 0 then smpS L p.exp x.m M else []) = S at *
 have hAl := all2A (G := GS) S [g1, g2] x.m.cap (decide (0 < x.m.before)) hSb (by omega) (by show 2 ≤ 100000; decide)
 have hAn := allS_len S [g1, g2] x.m.cap (decide (0 < x.m.before))
 rw [← hsc] at hAl hAn
 generalize scrS L [g1, g2] p.exp x.m M = Z at *
 have hUp := upper2A (G := GS) Z p.level (by omega)
 have hLo := lower2A (G := GS) Z p.level (by omega)
 generalize uppS Z p.level = u at *
 generalize lowS Z p.level = lw at *
 generalize illT f (List.drop (j + 1) p.health) (j + 1) = I1 at *
 conv=>whnf
 refine AIn.mk' j (by omega) (lmZ hlt2) ?_
 conv=>whnf
 refine ARd.mapAt hg2 ?_
 conv=>whnf
 (refine adraw pln8 [] (by kernel_rfl) ?_; conv=>whnf)
 refine acallF [] (by kernel_rfl) hS ?_ ?_
 ·trivial
 rintro _ _ _ ⟨rfl, rfl, rfl⟩
 conv=>whnf
 refine acallF [] (by kernel_rfl) hAl ?_ ?_
 ·trivial
 rintro _ _ _ ⟨rfl, rfl, rfl⟩
 conv=>whnf
 (refine adraw pln8 [] (by kernel_rfl) ?_; conv=>whnf)
 (refine acall [] (by kernel_rfl) (hUp) rfl ?_ ?_; (focus trivial))
 conv=>whnf
 refine vif_split (fun h3 => ?_) (fun h3 => ?_)
 ·have c2 : u < x.lo := by simpa using h3
  rw [hPx, decide_eq_true c2, Bool.true_or, if_pos rfl] at hI2
  conv=>whnf
  repeat' (refine vif_split (fun h9 => ?_) (fun h9 => ?_) <;> (first | (exfalso; simp at h9; done) | (exfalso; simp at h9; omega) | (conv=>whnf)))
  conv=>whnf
  refine AAr.i64 (by omega) ?_
  conv=>whnf
  exact aback j [] [] rfl (by show j < j + 1; omega) (by omega) (by trivial) ⟨ciZ (by omega), ciZ (by omega), trivial⟩
 have c2 : ¬ u < x.lo := by simpa using h3
 conv=>whnf
 (refine acall [] (by kernel_rfl) (hLo) rfl ?_ ?_; (focus trivial))
 conv=>whnf
 refine vif_split (fun h4 => ?_) (fun h4 => ?_)
 ·have c3 : x.hi < lw := by simpa using h4
  rw [hPx, decide_eq_true c3, Bool.or_true, if_pos rfl] at hI2
  conv=>whnf
  conv=>whnf
  refine AAr.i64 (by omega) ?_
  conv=>whnf
  exact aback j [] [] rfl (by show j < j + 1; omega) (by omega) (by trivial) ⟨ciZ (by omega), ciZ (by omega), trivial⟩
 have c3 : ¬ x.hi < lw := by simpa using h4
 rw [hPx, decide_eq_false c2, decide_eq_false c3, Bool.false_or, if_neg (by decide)] at hI2
 conv=>whnf
 refine AAr.i64 (by omega) ?_
 conv=>whnf
 exact aback j [] [] rfl (by show j < j + 1; omega) (by omega) (by trivial) ⟨ciZ (by omega), ciZ (by omega), trivial⟩
end
end Go.Proofs.YtgfgndaoocfpdaaGreatDoor.Cl
