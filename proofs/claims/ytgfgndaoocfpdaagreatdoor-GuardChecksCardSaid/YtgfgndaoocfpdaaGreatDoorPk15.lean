/- Joined parts of the proof. The walks of both Predict, Of and All -/
import Derived.Test.YtgfgndaoocfpdaaGreatDoorPk14
set_option linter.unusedVariables false
set_option linter.unusedSimpArgs false
set_option maxRecDepth 100000
set_option maxHeartbeats 16000000
namespace Go.Proofs.YtgfgndaoocfpdaaGreatDoor.Cl
open Go Go.RowKit Go.Proofs Go.Proofs.YtgfgndaoocfpdaaGreatDoor.Vc Go.Proofs.YtgfgndaoocfpdaaGreatDoor.Ax Go.Proofs.YtgfgndaoocfpdaaGreatDoor.Id
attribute [local irreducible] loadVar storeVar Instr.indexAt Instr.index Instr.sliceAt Instr.makeSlice Instr.lookup Instr.mapUpdate Instr.range Instr.next Instr.entry Instr.makeMap Builtin.append_ Builtin.copy_ Builtin.len_ Builtin.min_ Builtin.max_ Builtin.cap_ Builtin.delete_ Builtin.clear_ convert binOp eqGuard Op.unary Calls
section
theorem selA_snoc (arm : Int) (q : List Sm) (x : Sm) : selA arm (q ++ [x]) = if x.x.arm = arm then selA arm q ++ [x] else selA arm q := by
 unfold selA
 rw [List.filter_append]
 by_cases h : x.x.arm = arm <;> simp [h]
theorem selC_snoc (arm : Int) (c : Nat) (q : List Sm) (x : Sm) : selC arm c (q ++ [x]) = if x.x.arm = arm ∧ cls x.before = c then selC arm c q ++ [x] else selC arm c q := by
 unfold selC
 rw [List.filter_append]
 by_cases h : x.x.arm = arm <;> by_cases h2 : cls x.before = c <;> simp [h, h2]
theorem selA_sub (arm : Int) (q : List Sm) : ∀ x ∈ selA arm q, x ∈ q := fun x h => (List.mem_filter.1 h).1
theorem selC_sub (arm : Int) (c : Nat) (q : List Sm) : ∀ x ∈ selC arm c q, x ∈ q := fun x h => (List.mem_filter.1 h).1
theorem selA_len (arm : Int) (q : List Sm) : (selA arm q).length ≤ q.length := List.length_filter_le _ _
theorem selC_len (arm : Int) (c : Nat) (q : List Sm) : (selC arm c q).length ≤ q.length := List.length_filter_le _ _
attribute [local irreducible] cls flr wid
section
variable {G : Glob}
theorem predictA (s q : List Sm) (x : Sm) (k : Nat) (arm cap : Int) (hk : s[k]? = some x) (hqs : q = s.take k) (hq : okV 1048576 q) (hb : ∀ y ∈ q ++ [x], I64 y.before) (hc : 1 ≤ cap ∧ cap ≤ 1048576) (hl : s.length ≤ 100000) :
  AFn Tryz.prog G 97 [smL s, iv k, iv arm, iv cap] 0 [] (Is (iv (preS q x.before arm cap))) := by
 have hks := (List.getElem?_eq_some_iff.1 hk).1
 have hql : q.length = k := by rw [hqs, List.length_take]; omega
 obtain ⟨A, hA⟩ : ∃ A, A = preS q x.before arm cap := ⟨_, rfl⟩
 rw [← hA]
 unfold preS mean at hA
 refine afn_of Tryz.func97 rfl mixed (by kernel_rfl) ?_
 conv=>whnf
 apply vif_split <;> intro h
 ·exfalso; simp at h; omega
 conv=>whnf
 refine AIn.mk' k rfl (lmZ hks) ?_
 conv=>whnf
 refine ARd.mapAt hk ?_
 conv=>whnf
 (refine acall [] (by kernel_rfl) (classA x.before (hb x (by simp))) rfl ?_ ?_; (focus trivial))
 have hxb := hb x (by simp)
 conv=>whnf
 refine aloop ws97_1 0 [31] (fun j : Nat => [(31, iv j)]) (fun _ => []) (fun j => j ≤ 2 ∧ (1 ≤ j → ¬ 0 < (selC arm (cls x.before) q).length) ∧ (2 ≤ j → ¬ 0 < (selA arm q).length)) (fun j => 2 - j) [] [] 0 (by kernel_rfl) (fun _ => rfl) rfl ⟨by decide, fun h => by omega, fun h => by omega⟩ (by trivial) (by trivial) ?_
 rintro j ⟨hj, hj1, hj2⟩
 have hj3 : j = 0 ∨ j = 1 ∨ j = 2 := by omega
 rcases hj3 with rfl | rfl | rfl
 ·conv=>whnf
  refine AIn.mk' 0 rfl (by decide) ?_
  conv=>whnf
  refine ABd.mk' 0 k rfl rfl (Nat.zero_le _) (by rw [List.length_map]; omega) ?_
  rw [show cut none (some (AV.v (.int .i64 (k : Int)))) 0 k (s.map smF) = q.map smF by rw [hqs]; exact List.map_take.symm]
  conv=>whnf
  refine aloop ws97_2 0 [12, 13, 38] (fun i : Nat => [(12, iv ((selC arm (cls x.before) (q.take i)).length : Nat)), (13, iv (sumV (selC arm (cls x.before) (q.take i)))), (38, iv i)]) (fun _ => []) (fun i => i ≤ q.length) (fun i => q.length - i) [] [] 0 (by kernel_rfl) (fun _ => rfl) rfl (Nat.zero_le _) (by trivial) ⟨rfl, rfl, rfl, trivial⟩ ?_
  intro i hi
  have hv1 := sumV_rng (l := selC arm (cls x.before) (q.take i)) fun y hy => hq _ (List.mem_of_mem_take ((selC_sub _ _ _) _ hy))
  have hl1 : (selC arm (cls x.before) (q.take i)).length ≤ i := Nat.le_trans (selC_len _ _ _) (List.length_take_le _ _)
  conv=>whnf
  apply vif_split <;> intro h
  ·have hlt : i < q.length := by simp at h; omega
   have hg := List.getElem?_eq_getElem hlt
   have hsn : q.take (i + 1) = q.take i ++ [q[i]] := List.take_succ_eq_append_getElem hlt
   have hS := selC_snoc arm (cls x.before) (q.take i) q[i]
   rw [← hsn] at hS
   have hv := hq _ (List.getElem_mem hlt)
   have hyb := hb _ (List.mem_append_left _ (List.getElem_mem hlt))
   generalize q[i] = y at *
   conv=>whnf
   refine AIn.mk' i rfl (lmZ hlt) ?_
   conv=>whnf
   refine ARd.mapAt hg ?_
   conv=>whnf
   refine vif_split (fun h1 => ?_) (fun h1 => ?_)
   rotate_left 1
   ·skip
    rw [if_neg (fun h' => by simp at h1; exact h1 h'.1)] at hS
    conv=>whnf
    refine AAr.i64 (by omega) ?_
    conv=>whnf
    exact aback (i + 1) [] [] rfl (by show q.length - (i + 1) < q.length - i; omega) hlt (by trivial) ⟨by rw [hS]; rfl, by rw [hS]; rfl, rfl, trivial⟩
   conv=>whnf
   (refine acall [] (by kernel_rfl) (classA y.before hyb) rfl ?_ ?_; (focus trivial))
   conv=>whnf
   refine vif_split (fun h2 => ?_) (fun h2 => ?_)
   ·have hcc : ((cls y.before : Nat) : Int) = cls x.before := by simpa using h2
    rw [if_pos ⟨by simpa using h1, by omega⟩] at hS
    have hsv := sumV_snoc (selC arm (cls x.before) (q.take i)) y
    have hsl : (selC arm (cls x.before) (q.take i) ++ [y]).length = (selC arm (cls x.before) (q.take i)).length + 1 := by rw [List.length_append]; rfl
    rw [← hS] at hsv hsl
    conv=>whnf
    (refine adraw pln97 [] (by kernel_rfl) ?_; conv=>whnf)
    repeat' (first
     | (refine And.intro ?_ ?_ <;> (conv=>whnf))
     | (refine AAr.i64 (by omega) ?_; conv=>whnf))
    all_goals exact aback (i + 1) [] [] rfl (by show q.length - (i + 1) < q.length - i; omega) hlt (by trivial) ⟨ciZ (by rw [hsl]; omega), ciZ hsv.symm, rfl, trivial⟩
   ·have hcc : ¬ ((cls y.before : Nat) : Int) = cls x.before := by simpa using h2
    rw [if_neg (fun h' => by omega)] at hS
    conv=>whnf
    refine AAr.i64 (by omega) ?_
    conv=>whnf
    exact aback (i + 1) [] [] rfl (by show q.length - (i + 1) < q.length - i; omega) hlt (by trivial) ⟨by rw [hS]; rfl, by rw [hS]; rfl, rfl, trivial⟩
  have hie : i = q.length := by simp at h; omega
  subst hie
  rw [List.take_length] at hv1 hl1 ⊢
  conv=>whnf
  refine vif_split (fun h0 => ?_) (fun h0 => ?_)
  ·have hp : 0 < (selC arm (cls x.before) q).length := by simp only [decide_eq_true_eq, gt_iff_lt] at h0; omega
   conv=>whnf
   (refine acall [] (by kernel_rfl) (floorA (a := sumV (selC arm (cls x.before) q)) (b := ((selC arm (cls x.before) q).length : Nat)) (by omega) (by omega)) rfl ?_ ?_; (focus trivial))
   conv=>whnf
   exact aret [] (ciZ (by rw [hA, if_pos hp]))
  have hz : ¬ 0 < (selC arm (cls x.before) q).length := by simp only [decide_eq_false_iff_not, gt_iff_lt] at h0; omega
  conv=>whnf
  refine AAr.i64 (by decide) ?_
  conv=>whnf
  exact aback 1 [] [] rfl (by decide) ⟨by decide, fun _ => hz, fun h => by omega⟩ (by trivial) (by trivial)
 ·conv=>whnf
  refine AIn.mk' 1 rfl (by decide) ?_
  conv=>whnf
  refine ABd.mk' 0 k rfl rfl (Nat.zero_le _) (by rw [List.length_map]; omega) ?_
  rw [show cut none (some (AV.v (.int .i64 (k : Int)))) 0 k (s.map smF) = q.map smF by rw [hqs]; exact List.map_take.symm]
  conv=>whnf
  refine aloop ws97_2 0 [12, 13, 38] (fun i : Nat => [(12, iv ((selA arm (q.take i)).length : Nat)), (13, iv (sumV (selA arm (q.take i)))), (38, iv i)]) (fun _ => []) (fun i => i ≤ q.length) (fun i => q.length - i) [] [] 0 (by kernel_rfl) (fun _ => rfl) rfl (Nat.zero_le _) (by trivial) ⟨rfl, rfl, rfl, trivial⟩ ?_
  intro i hi
  have hv1 := sumV_rng (l := selA arm (q.take i)) fun y hy => hq _ (List.mem_of_mem_take ((selA_sub _ _) _ hy))
  have hl1 : (selA arm (q.take i)).length ≤ i := Nat.le_trans (selA_len _ _) (List.length_take_le _ _)
  conv=>whnf
  apply vif_split <;> intro h
  ·have hlt : i < q.length := by simp at h; omega
   have hg := List.getElem?_eq_getElem hlt
   have hsn : q.take (i + 1) = q.take i ++ [q[i]] := List.take_succ_eq_append_getElem hlt
   have hS := selA_snoc arm (q.take i) q[i]
   rw [← hsn] at hS
   have hv := hq _ (List.getElem_mem hlt)
   have hyb := hb _ (List.mem_append_left _ (List.getElem_mem hlt))
   generalize q[i] = y at *
   conv=>whnf
   refine AIn.mk' i rfl (lmZ hlt) ?_
   conv=>whnf
   refine ARd.mapAt hg ?_
   conv=>whnf
   refine vif_split (fun h1 => ?_) (fun h1 => ?_)
   rotate_left 1
   ·skip
    rw [if_neg (fun h' => by simp at h1; exact h1 h')] at hS
    conv=>whnf
    refine AAr.i64 (by omega) ?_
    conv=>whnf
    exact aback (i + 1) [] [] rfl (by show q.length - (i + 1) < q.length - i; omega) hlt (by trivial) ⟨by rw [hS]; rfl, by rw [hS]; rfl, rfl, trivial⟩
   ·skip
    rw [if_pos (by simpa using h1)] at hS
    have hsv := sumV_snoc (selA arm (q.take i)) y
    have hsl : (selA arm (q.take i) ++ [y]).length = (selA arm (q.take i)).length + 1 := by rw [List.length_append]; rfl
    rw [← hS] at hsv hsl
    conv=>whnf
    (refine adraw pln97 [] (by kernel_rfl) ?_; conv=>whnf)
    repeat' (first
     | (refine And.intro ?_ ?_ <;> (conv=>whnf))
     | (refine AAr.i64 (by omega) ?_; conv=>whnf))
    all_goals exact aback (i + 1) [] [] rfl (by show q.length - (i + 1) < q.length - i; omega) hlt (by trivial) ⟨ciZ (by rw [hsl]; omega), ciZ hsv.symm, rfl, trivial⟩
  have hie : i = q.length := by simp at h; omega
  subst hie
  rw [List.take_length] at hv1 hl1 ⊢
  conv=>whnf
  refine vif_split (fun h0 => ?_) (fun h0 => ?_)
  ·have hp : 0 < (selA arm q).length := by simp only [decide_eq_true_eq, gt_iff_lt] at h0; omega
   conv=>whnf
   (refine acall [] (by kernel_rfl) (floorA (a := sumV (selA arm q)) (b := ((selA arm q).length : Nat)) (by omega) (by omega)) rfl ?_ ?_; (focus trivial))
   conv=>whnf
   exact aret [] (ciZ (by rw [hA, if_neg (hj1 (Nat.le_refl _)), if_pos hp]))
  have hz : ¬ 0 < (selA arm q).length := by simp only [decide_eq_false_iff_not, gt_iff_lt] at h0; omega
  conv=>whnf
  refine AAr.i64 (by decide) ?_
  conv=>whnf
  exact aback 2 [] [] rfl (by decide) ⟨by decide, fun _ => hj1 (Nat.le_refl _), fun _ => hz⟩ (by trivial) (by trivial)
 ·conv=>whnf
  (refine acall [] (by kernel_rfl) (floorA (a := cap) (b := 2) (by decide) (by omega)) rfl ?_ ?_; (focus trivial))
  conv=>whnf
  exact aret [] (ciZ (by rw [hA, if_neg (hj1 (by decide)), if_neg (hj2 (by decide))]))
def ofA : Option Sc → AV
 | some z => .tup [.agg [iv z.num, iv z.unit, iv z.range], bv true]
 | none => .tup [.agg [iv 0, iv 0, iv 0], bv false]
theorem ofSA (s q : List Sm) (x : Sm) (k : Nat) (w : Wg) (cap : Int) (adj : Bool) (hk : s[k]? = some x) (hqs : q = s.take k) (hb : ∀ y ∈ q ++ [x], I64 y.before) (hl : s.length ≤ 100000) :
  AFn Tryz.prog G 71 [smL s, iv k, .agg [iv w.ver, iv w.c, iv w.t], iv cap, bv adj] 0 [] (Is (ofA (ofO q x w cap adj))) := by
 have hks := (List.getElem?_eq_some_iff.1 hk).1
 have hql : q.length = k := by rw [hqs, List.length_take]; omega
 have hqx : q ++ [x] = s.take (k + 1) := by rw [hqs, List.take_add_one, hk]; rfl
 have hqn : (q ++ [x]).length = k + 1 := by rw [List.length_append, hql]; rfl
 obtain ⟨O, hO⟩ : ∃ O, O = ofO q x w cap adj := ⟨_, rfl⟩
 rw [← hO]
 refine afn_of Tryz.func71 rfl mixed (by kernel_rfl) ?_
 conv=>whnf
 apply vif_split <;> intro h
 ·exfalso; simp at h; omega
 conv=>whnf
 (refine acall [] (by kernel_rfl) (wvalidA w.c w.t) rfl ?_ ?_; (focus trivial))
 conv=>whnf
 apply vif_split <;> intro h
 ·have hn : ¬ (okW w.c ∧ okW w.t) := fun h' => by simp [h'] at h
  conv=>whnf
  have hO2 : O = none := by rw [hO]; unfold ofO; exact if_neg (fun h' => hn ⟨h'.2.1, h'.2.2.1⟩)
  rw [hO2]
  conv=>whnf
  exact aret [] ⟨⟨rfl, rfl, rfl, trivial⟩, rfl, trivial⟩
 have hw : okW w.c ∧ okW w.t := by simpa using h
 obtain ⟨hwc, hwt⟩ := hw
 conv=>whnf
 apply vif_split <;> intro h
 ·have hn : cap < 1 := by simpa using h
  conv=>whnf
  have hO2 : O = none := by rw [hO]; unfold ofO; exact if_neg (fun h' => by have := h'.2.2.2.1; omega)
  rw [hO2]
  conv=>whnf
  exact aret [] ⟨⟨rfl, rfl, rfl, trivial⟩, rfl, trivial⟩
 have hc1 : 1 ≤ cap := by simpa using h
 conv=>whnf
 apply vif_split <;> intro h
 ·have hn : 1048576 < cap := by simpa using h
  conv=>whnf
  have hO2 : O = none := by rw [hO]; unfold ofO; exact if_neg (fun h' => by have := h'.2.2.2.1; omega)
  rw [hO2]
  conv=>whnf
  exact aret [] ⟨⟨rfl, rfl, rfl, trivial⟩, rfl, trivial⟩
 have hc : 1 ≤ cap ∧ cap ≤ 1048576 := ⟨hc1, by simpa using h⟩
 conv=>whnf
 refine AAr.i64 (by omega) ?_
 conv=>whnf
 refine ABd.mk' 0 (k + 1) rfl rfl (Nat.zero_le _) (by rw [List.length_map]; omega) ?_
 rw [show cut none (some (AV.v (.int .i64 ((k : Int) + 1)))) 0 (k + 1) (s.map smF) = (q ++ [x]).map smF by rw [hqx]; exact List.map_take.symm]
 conv=>whnf
 refine aloop ws71_1 3 [51] (fun i : Nat => [(51, iv i)]) (fun _ => [(2, .var 152 [iv w.c, iv w.t]), (1, .var 98 [iv 0, iv 0, iv 0]), (0, .var 83 [iv w.ver, iv w.c, iv w.t])]) (fun i => i ≤ (q ++ [x]).length ∧ okV cap ((q ++ [x]).take i)) (fun i => (q ++ [x]).length - i) [] [] 0 (by kernel_rfl) (fun _ => rfl) rfl ⟨Nat.zero_le _, fun _ h => by cases h⟩ (by trivial) (by trivial) ?_
 rintro i ⟨hi, hv⟩
 conv=>whnf
 apply vif_split <;> intro h
 ·have hlt : i < (q ++ [x]).length := by simp only [List.length_map, decide_eq_true_eq] at h; omega
  have hg := List.getElem?_eq_getElem hlt
  have hm := List.getElem_mem hlt
  have hv2 := hv
  have hsn : (q ++ [x]).take (i + 1) = (q ++ [x]).take i ++ [(q ++ [x])[i]] := List.take_succ_eq_append_getElem hlt
  generalize (q ++ [x])[i] = z at *
  conv=>whnf
  refine AIn.mk' i rfl (lmZ hlt) ?_
  conv=>whnf
  refine ARd.mapAt hg ?_
  conv=>whnf
  refine vif_split (fun h1 => ?_) (fun h1 => ?_)
  ·have hn : z.value < 0 := by simpa using h1
   conv=>whnf
   have hO2 : O = none := by rw [hO]; unfold ofO; exact if_neg (fun h' => by have := h'.2.2.2.2 z hm; omega)
   rw [hO2]
   conv=>whnf
   exact aret [] ⟨⟨rfl, rfl, rfl, trivial⟩, rfl, trivial⟩
  conv=>whnf
  refine vif_split (fun h2 => ?_) (fun h2 => ?_)
  ·have hn : cap < z.value := by simpa using h2
   conv=>whnf
   have hO2 : O = none := by rw [hO]; unfold ofO; exact if_neg (fun h' => by have := h'.2.2.2.2 z hm; omega)
   rw [hO2]
   conv=>whnf
   exact aret [] ⟨⟨rfl, rfl, rfl, trivial⟩, rfl, trivial⟩
  conv=>whnf
  refine AAr.i64 (by omega) ?_
  conv=>whnf
  exact aback (i + 1) [] [] rfl (by show (q ++ [x]).length - (i + 1) < (q ++ [x]).length - i; omega) ⟨hlt, fun y hy => by
   rw [hsn] at hy
   rcases List.mem_append.1 hy with hy | hy
   ·exact hv y hy
   ·rw [List.mem_singleton.1 hy]; exact ⟨by simpa using h1, by simpa using h2⟩⟩ (by trivial) (by trivial)
 have hie : i = (q ++ [x]).length := by simp only [List.length_map, decide_eq_false_iff_not] at h; omega
 subst hie
 rw [List.take_length] at hv
 have hq : okV 1048576 q := fun y hy => by have := hv y (List.mem_append_left _ hy); omega
 have hxv := hv x (by simp)
 have hO2 : (x.x.arm = 1 ∨ x.x.arm = 2) → O = some (ofS q x w cap adj) := fun ha => by rw [hO]; exact if_pos ⟨ha, hwc, hwt, hc, hv⟩
 have hO3 : ¬ (x.x.arm = 1 ∨ x.x.arm = 2) → O = none := fun ha => by rw [hO]; exact if_neg fun h' => ha h'.1
 clear hO
 have harm : x.x.arm = 1 ∨ x.x.arm = 2 ∨ (x.x.arm ≠ 1 ∧ x.x.arm ≠ 2) := by omega
 conv=>whnf
 refine vif_split (fun ha => ?_) (fun ha => ?_)
 ·have hp1 := preS_rng (b := x.before) (arm := 1) hq hc
  have hp2 := preS_rng (b := x.before) (arm := 2) hq hc
  have hpr1 := predictA (G := G) s q x k 1 cap hk hqs hq hb hc hl
  have hpr2 := predictA (G := G) s q x k 2 cap hk hqs hq hb hc hl
  subst ha
  have hz : ofS q x w cap true = ⟨if x.x.arm = 1 then w.c * w.t * (preS q x.before 2 cap - preS q x.before 1 cap) - (w.c + w.t) * w.t * (x.value - preS q x.before 1 cap) else w.c * w.t * (preS q x.before 2 cap - preS q x.before 1 cap) + (w.c + w.t) * w.c * (x.value - preS q x.before 2 cap), w.c * w.t * cap, cap * (2 * (w.c * w.t) + (w.c + w.t) * max w.c w.t)⟩ := rfl
  generalize ofS q x w cap true = z at *
  generalize preS q x.before 1 cap = p1 at *
  generalize preS q x.before 2 cap = p2 at *
  have hc0 : 0 ≤ w.c ∧ w.c ≤ 10000 := by unfold okW at hwc; omega
  have ht0 : 0 ≤ w.t ∧ w.t ≤ 10000 := by unfold okW at hwt; omega
  have hs0 : 0 ≤ w.c + w.t ∧ w.c + w.t ≤ 20000 := by omega
  have hx0 : 0 ≤ max w.c w.t ∧ max w.c w.t ≤ 10000 := by omega
  have hP := mulR hc0.1 hc0.2 ht0.1 ht0.2
  have hSt := mulR hs0.1 hs0.2 ht0.1 ht0.2
  have hSc := mulR hs0.1 hs0.2 hc0.1 hc0.2
  have hSm := mulR hs0.1 hs0.2 hx0.1 hx0.2
  have hC := mulR hP.1 hP.2 (show 0 ≤ cap by omega) hc.2
  have hR := mulR (show 0 ≤ cap by omega) hc.2 (show 0 ≤ 2 * (w.c * w.t) + (w.c + w.t) * max w.c w.t by omega) (show _ ≤ 400000000 by omega)
  have hD := mulS (b := p2 - p1) (B := 1048576) hP.1 hP.2 (by omega) (by omega)
  have hA1 := mulS (b := x.value - p1) (B := 1048576) hSt.1 hSt.2 (by omega) (by omega)
  have hA2 := mulS (b := x.value - p2) (B := 1048576) hSc.1 hSc.2 (by omega) (by omega)
  conv=>whnf
  (refine acall [] (by kernel_rfl) (hpr1) rfl ?_ ?_; (focus trivial))
  conv=>whnf
  (refine acall [] (by kernel_rfl) (hpr2) rfl ?_ ?_; (focus trivial))
  rcases harm with ha1 | ha1 | ha1
  ·skip
   conv=>whnf
   (refine adraw pln71 [] (by kernel_rfl) ?_; conv=>whnf)
   repeat' (first
    | (refine And.intro ?_ ?_ <;> (conv=>whnf))
    | ((refine acall [] (by kernel_rfl) (wprodA hwc hwt) rfl ?_ ?_; (focus (trivial; done)); (conv=>whnf)))
    | ((refine acall [] (by kernel_rfl) (wsumA hwc hwt) rfl ?_ ?_; (focus (trivial; done)); (conv=>whnf)))
    | (refine AAr.i64 (by omega) ?_; conv=>whnf)
    | (refine AIn.mk' k rfl (lmZ hks) ?_; conv=>whnf)
    | (refine ARd.mapAt hk ?_; conv=>whnf)
    | (refine vif_split (fun h1 => ?_) (fun h1 => ?_) <;> (first | (exfalso; simp [ha1] at h1; done) | (conv=>whnf)))
    | ((refine adraw pln71 [] (by kernel_rfl) ?_; conv=>whnf)))
   all_goals (rw [hO2 (.inl ha1)])
   all_goals exact aret [] ⟨⟨ciZ (by rw [hz, ha1, if_pos rfl]), ciZ (by rw [hz]), ciZ (by rw [hz]), trivial⟩, rfl, trivial⟩
  ·skip
   conv=>whnf
   (refine adraw pln71 [] (by kernel_rfl) ?_; conv=>whnf)
   repeat' (first
    | (refine And.intro ?_ ?_ <;> (conv=>whnf))
    | ((refine acall [] (by kernel_rfl) (wprodA hwc hwt) rfl ?_ ?_; (focus (trivial; done)); (conv=>whnf)))
    | ((refine acall [] (by kernel_rfl) (wsumA hwc hwt) rfl ?_ ?_; (focus (trivial; done)); (conv=>whnf)))
    | (refine AAr.i64 (by omega) ?_; conv=>whnf)
    | (refine AIn.mk' k rfl (lmZ hks) ?_; conv=>whnf)
    | (refine ARd.mapAt hk ?_; conv=>whnf)
    | (refine vif_split (fun h1 => ?_) (fun h1 => ?_) <;> (first | (exfalso; simp [ha1] at h1; done) | (conv=>whnf)))
    | ((refine adraw pln71 [] (by kernel_rfl) ?_; conv=>whnf)))
   all_goals (rw [hO2 (.inr ha1)])
   all_goals exact aret [] ⟨⟨ciZ (by rw [hz, ha1, if_neg (by decide)]), ciZ (by rw [hz]), ciZ (by rw [hz]), trivial⟩, rfl, trivial⟩
  ·skip
   conv=>whnf
   (refine adraw pln71 [] (by kernel_rfl) ?_; conv=>whnf)
   repeat' (first
    | (refine And.intro ?_ ?_ <;> (conv=>whnf))
    | ((refine acall [] (by kernel_rfl) (wprodA hwc hwt) rfl ?_ ?_; (focus (trivial; done)); (conv=>whnf)))
    | ((refine acall [] (by kernel_rfl) (wsumA hwc hwt) rfl ?_ ?_; (focus (trivial; done)); (conv=>whnf)))
    | (refine AAr.i64 (by omega) ?_; conv=>whnf)
    | (refine AIn.mk' k rfl (lmZ hks) ?_; conv=>whnf)
    | (refine ARd.mapAt hk ?_; conv=>whnf)
    | (refine vif_split (fun h1 => ?_) (fun h1 => ?_) <;> (first | (exfalso; simp [ha1] at h1; done) | (conv=>whnf))))
   all_goals (rw [hO3 (fun h' => h'.elim ha1.1 ha1.2)])
   all_goals exact aret [] ⟨⟨rfl, rfl, rfl, trivial⟩, rfl, trivial⟩
 ·have hz : ofS q x w cap adj = ⟨if x.x.arm = 1 then w.c * w.t * (0 - 0) - (w.c + w.t) * w.t * (x.value - 0) else w.c * w.t * (0 - 0) + (w.c + w.t) * w.c * (x.value - 0), w.c * w.t * cap, cap * (2 * (w.c * w.t) + (w.c + w.t) * max w.c w.t)⟩ := by rw [ha]; rfl
  generalize ofS q x w cap adj = z at *
  have hc0 : 0 ≤ w.c ∧ w.c ≤ 10000 := by unfold okW at hwc; omega
  have ht0 : 0 ≤ w.t ∧ w.t ≤ 10000 := by unfold okW at hwt; omega
  have hs0 : 0 ≤ w.c + w.t ∧ w.c + w.t ≤ 20000 := by omega
  have hx0 : 0 ≤ max w.c w.t ∧ max w.c w.t ≤ 10000 := by omega
  have hP := mulR hc0.1 hc0.2 ht0.1 ht0.2
  have hSt := mulR hs0.1 hs0.2 ht0.1 ht0.2
  have hSc := mulR hs0.1 hs0.2 hc0.1 hc0.2
  have hSm := mulR hs0.1 hs0.2 hx0.1 hx0.2
  have hC := mulR hP.1 hP.2 (show 0 ≤ cap by omega) hc.2
  have hR := mulR (show 0 ≤ cap by omega) hc.2 (show 0 ≤ 2 * (w.c * w.t) + (w.c + w.t) * max w.c w.t by omega) (show _ ≤ 400000000 by omega)
  have hD := mulS (b := 0 - 0) (B := 1048576) hP.1 hP.2 (by omega) (by omega)
  have hA1 := mulS (b := x.value - 0) (B := 1048576) hSt.1 hSt.2 (by omega) (by omega)
  have hA2 := mulS (b := x.value - 0) (B := 1048576) hSc.1 hSc.2 (by omega) (by omega)
  rcases harm with ha1 | ha1 | ha1
  ·skip
   conv=>whnf
   (refine adraw pln71 [] (by kernel_rfl) ?_; conv=>whnf)
   repeat' (first
    | (refine And.intro ?_ ?_ <;> (conv=>whnf))
    | ((refine acall [] (by kernel_rfl) (wprodA hwc hwt) rfl ?_ ?_; (focus (trivial; done)); (conv=>whnf)))
    | ((refine acall [] (by kernel_rfl) (wsumA hwc hwt) rfl ?_ ?_; (focus (trivial; done)); (conv=>whnf)))
    | (refine AAr.i64 (by omega) ?_; conv=>whnf)
    | (refine AIn.mk' k rfl (lmZ hks) ?_; conv=>whnf)
    | (refine ARd.mapAt hk ?_; conv=>whnf)
    | (refine vif_split (fun h1 => ?_) (fun h1 => ?_) <;> (first | (exfalso; simp [ha1] at h1; done) | (conv=>whnf)))
    | ((refine adraw pln71 [] (by kernel_rfl) ?_; conv=>whnf)))
   all_goals (rw [hO2 (.inl ha1)])
   all_goals exact aret [] ⟨⟨ciZ (by rw [hz, ha1, if_pos rfl]), ciZ (by rw [hz]), ciZ (by rw [hz]), trivial⟩, rfl, trivial⟩
  ·skip
   conv=>whnf
   (refine adraw pln71 [] (by kernel_rfl) ?_; conv=>whnf)
   repeat' (first
    | (refine And.intro ?_ ?_ <;> (conv=>whnf))
    | ((refine acall [] (by kernel_rfl) (wprodA hwc hwt) rfl ?_ ?_; (focus (trivial; done)); (conv=>whnf)))
    | ((refine acall [] (by kernel_rfl) (wsumA hwc hwt) rfl ?_ ?_; (focus (trivial; done)); (conv=>whnf)))
    | (refine AAr.i64 (by omega) ?_; conv=>whnf)
    | (refine AIn.mk' k rfl (lmZ hks) ?_; conv=>whnf)
    | (refine ARd.mapAt hk ?_; conv=>whnf)
    | (refine vif_split (fun h1 => ?_) (fun h1 => ?_) <;> (first | (exfalso; simp [ha1] at h1; done) | (conv=>whnf)))
    | ((refine adraw pln71 [] (by kernel_rfl) ?_; conv=>whnf)))
   all_goals (rw [hO2 (.inr ha1)])
   all_goals exact aret [] ⟨⟨ciZ (by rw [hz, ha1, if_neg (by decide)]), ciZ (by rw [hz]), ciZ (by rw [hz]), trivial⟩, rfl, trivial⟩
  ·skip
   conv=>whnf
   (refine adraw pln71 [] (by kernel_rfl) ?_; conv=>whnf)
   repeat' (first
    | (refine And.intro ?_ ?_ <;> (conv=>whnf))
    | ((refine acall [] (by kernel_rfl) (wprodA hwc hwt) rfl ?_ ?_; (focus (trivial; done)); (conv=>whnf)))
    | ((refine acall [] (by kernel_rfl) (wsumA hwc hwt) rfl ?_ ?_; (focus (trivial; done)); (conv=>whnf)))
    | (refine AAr.i64 (by omega) ?_; conv=>whnf)
    | (refine AIn.mk' k rfl (lmZ hks) ?_; conv=>whnf)
    | (refine ARd.mapAt hk ?_; conv=>whnf)
    | (refine vif_split (fun h1 => ?_) (fun h1 => ?_) <;> (first | (exfalso; simp [ha1] at h1; done) | (conv=>whnf))))
   all_goals (rw [hO3 (fun h' => h'.elim ha1.1 ha1.2)])
   all_goals exact aret [] ⟨⟨rfl, rfl, rfl, trivial⟩, rfl, trivial⟩
end
end
section
attribute [local irreducible] cls flr wid
theorem fndW_some {w : List Wg} {v : Int} {j : Nat} {g : Wg} (h : ∀ i x, i < j → w[i]? = some x → x.ver ≠ v) (hg : w[j]? = some g) (he : g.ver = v) : fndW w v = some g := by
 induction w generalizing j with
 | nil => simp at hg
 | cons a r ih =>
  unfold fndW
  rw [List.find?_cons]
  cases j with
  | zero =>
   simp only [List.getElem?_cons_zero, Option.some.injEq] at hg
   subst hg
   simp [he]
  | succ j =>
   have h0 := h 0 a (by omega) rfl
   simp only [h0, decide_false]
   exact ih (j := j) (fun i x hi hx => h (i + 1) x (by omega) (by simpa using hx)) (by simpa using hg)
theorem fndW_none {w : List Wg} {v : Int} (h : ∀ i x, i < w.length → w[i]? = some x → x.ver ≠ v) : fndW w v = none := by
 unfold fndW
 rw [List.find?_eq_none]
 intro x hx
 obtain ⟨i, hi⟩ := List.getElem?_of_mem hx
 have := h i x (List.getElem?_eq_some_iff.1 hi).1 hi
 simpa using this
structure KA where
 k : Nat
 out : List Sc
theorem app_sc {n : Nat} (h : n ≤ 200000) : n * 24 ≤ 140737488355328 ∧ n ≤ maxLen := ⟨by omega, by unfold maxLen; omega⟩
section
variable {G : Glob}
theorem allA (s : List Sm) (w : List Wg) (cap : Int) (adj : Bool) (hb : ∀ y ∈ s, I64 y.before) (hl : s.length ≤ 100000) (hw : w.length ≤ 100000) :
  AFn Tryz.prog G 42 [smL s, wgL w, iv cap, bv adj] 0 [] (Is (scL (allS s w cap adj))) := by
 obtain ⟨A, hA⟩ : ∃ A, A = allS s w cap adj := ⟨_, rfl⟩
 rw [← hA]
 refine afn_of Tryz.func42 rfl mixed (by kernel_rfl) ?_
 conv=>whnf
 refine aloop ws42_1 1 [9, 18] (fun x : KA => [(9, .own 0), (18, iv x.k)]) (fun x => [(0, .rows 98 3 (x.out.map scF))]) (fun x => x.k ≤ s.length ∧ x.out.length ≤ x.k ∧ x.out ++ allR w cap adj (s.take x.k) (s.drop x.k) = A) (fun x => s.length - x.k) [(0, .nil)] [] ⟨0, []⟩ (by kernel_rfl) (fun _ => rfl) rfl ⟨Nat.zero_le _, Nat.zero_le _, by rw [hA]; rfl⟩ (by trivial) (by trivial) ?_
 rintro ⟨k, out⟩ ⟨hk, ho, hR⟩
 dsimp only at hk ho hR
 conv=>whnf
 apply vif_split <;> intro h
 rotate_left 1
 ·have hie : k = s.length := by simp at h; omega
  subst hie
  rw [List.drop_length] at hR
  simp only [allR, List.append_nil] at hR
  subst hR
  conv=>whnf
  exact aend (scL out) 0 [] [] [0] ⟨rfl, rfl, rfl⟩ rfl trivial ⟨rfl, rfl, rfl⟩
 have hlt : k < s.length := by simp at h; omega
 have hg := List.getElem?_eq_getElem hlt
 rw [allR_drop hlt] at hR
 have hof := fun v => ofSA (G := G) s (s.take k) s[k] k v cap adj hg rfl (fun y hy => by
  rcases List.mem_append.1 hy with hy | hy
  ·exact hb y (List.mem_of_mem_take hy)
  ·rw [List.mem_singleton.1 hy]; exact hb _ (List.getElem_mem hlt)) hl
 have fin (hn : oneS w cap adj (s.take k) s[k] = []) : out ++ allR w cap adj (s.take (k + 1)) (s.drop (k + 1)) = A := by rw [hn] at hR; exact hR
 have finS (z : Sc) (hn : oneS w cap adj (s.take k) s[k] = [z]) : (out ++ [z]) ++ allR w cap adj (s.take (k + 1)) (s.drop (k + 1)) = A := by rw [hn] at hR; rw [List.append_assoc]; exact hR
 have hone : ∀ v, fndW w s[k].x.ver = some v → oneS w cap adj (s.take k) s[k] = (ofO (s.take k) s[k] v cap adj).toList := fun v hv => by unfold oneS; rw [hv]
 have hone0 : fndW w s[k].x.ver = none → oneS w cap adj (s.take k) s[k] = [] := fun hv => by unfold oneS; rw [hv]
 clear hR
 generalize s[k] = x at *
 generalize oneS w cap adj (s.take k) x = O1 at *
 conv=>whnf
 refine AIn.mk' k rfl (lmZ hlt) ?_
 conv=>whnf
 refine ARd.mapAt hg ?_
 conv=>whnf
 refine aloop ws42_2 2 [9, 25] (fun j : Nat => [(9, .own 0), (25, iv j)]) (fun _ => [(1, .var 96 ((smF x).map FV.up)), (0, .rows 98 3 (out.map scF))]) (fun j => j ≤ w.length ∧ ∀ i v, i < j → w[i]? = some v → v.ver ≠ x.x.ver) (fun j => w.length - j) [] [] 0 (by kernel_rfl) (fun _ => rfl) rfl ⟨Nat.zero_le _, fun i v hi => absurd hi (Nat.not_lt_zero i)⟩ (by trivial) (by trivial) ?_
 rintro j ⟨hj, hno⟩
 conv=>whnf
 refine vif_split (fun h2 => ?_) (fun h2 => ?_)
 rotate_left 1
 ·have hje : j = w.length := by simp at h2; omega
  subst hje
  conv=>whnf
  refine AAr.i64 (by show _ ≤ (k : Int) + 1 ∧ (k : Int) + 1 ≤ _; omega) ?_
  conv=>whnf
  exact aback ⟨k + 1, out⟩ [(0, .lab 0)] [] rfl (by show s.length - (k + 1) < s.length - k; omega) ⟨hlt, by show out.length ≤ k + 1; omega, fin (hone0 (fndW_none fun i v hi => hno i v hi))⟩ (by trivial) (by trivial)
 have hjt : j < w.length := by simp at h2; omega
 have hgw := List.getElem?_eq_getElem hjt
 generalize w[j] = v at *
 conv=>whnf
 refine AIn.mk' j rfl (lmZ hjt) ?_
 conv=>whnf
 refine ARd.mapAt hgw ?_
 conv=>whnf
 refine vif_split (fun h3 => ?_) (fun h3 => ?_)
 ·have hne : v.ver ≠ x.x.ver := by simpa using h3
  conv=>whnf
  refine AAr.i64 (by omega) ?_
  conv=>whnf
  exact aback (j + 1) [] [] rfl (by show w.length - (j + 1) < w.length - j; omega) ⟨hjt, fun i u hi hu => by
   rcases Nat.lt_or_ge i j with h4 | h4
   ·exact hno i u h4 hu
   ·have : i = j := by omega
    subst this
    rw [hgw] at hu
    injection hu with hu
    subst hu
    exact hne⟩ (by trivial) (by trivial)
 have he : v.ver = x.x.ver := by simpa using h3
 have h1 := hone v (fndW_some hno hgw he)
 have hcall := hof v
 conv=>whnf
 cases hO : ofO (s.take k) x v cap adj with
 | none =>
  rw [hO] at hcall h1
  (refine acall [] (by kernel_rfl) (hcall) rfl ?_ ?_; (focus trivial))
  conv=>whnf
  refine AAr.i64 (by show _ ≤ (k : Int) + 1 ∧ (k : Int) + 1 ≤ _; omega) ?_
  conv=>whnf
  exact aback ⟨k + 1, out⟩ [(0, .lab 0)] [] rfl (by show s.length - (k + 1) < s.length - k; omega) ⟨hlt, by show out.length ≤ k + 1; omega, fin h1⟩ (by trivial) (by trivial)
 | some z =>
  rw [hO] at hcall h1
  (refine acall [] (by kernel_rfl) (hcall) rfl ?_ ?_; (focus trivial))
  conv=>whnf
  refine VReq.mk (app_sc (by simp only [List.length_map, List.length_cons, List.length_nil]; omega)) ?_
  conv=>whnf
  refine AAr.i64 (by show _ ≤ (k : Int) + 1 ∧ (k : Int) + 1 ≤ _; omega) ?_
  conv=>whnf
  refine aback ⟨k + 1, out ++ [z]⟩ [(0, .lab 5)] [] rfl (by show s.length - (k + 1) < s.length - k; omega) ⟨hlt, by show (out ++ [z]).length ≤ k + 1; rw [List.length_append]; simp; omega, finS z h1⟩ ⟨⟨rfl, rfl, ?_⟩, trivial⟩ (by trivial)
  rw [List.map_append]
  rfl
theorem predict2A (s q : List Sm) (x : Sm) (k : Nat) (arm cap : Int) (hk : s[k]? = some x) (hqs : q = s.take k) (hq : okV 1048576 q) (hb : ∀ y ∈ q ++ [x], I64 y.before) (hc : 1 ≤ cap ∧ cap ≤ 1048576) (hl : s.length ≤ 100000) :
  AFn Tryz.prog G 84 [smL s, iv k, iv arm, iv cap] 0 [] (Is (iv (preS q x.before arm cap))) := by
 have hks := (List.getElem?_eq_some_iff.1 hk).1
 have hql : q.length = k := by rw [hqs, List.length_take]; omega
 have hxb := hb x (by simp)
 have hsq : ∀ i, i < q.length → s[i]? = q[i]? := fun i hi => by rw [hqs, List.getElem?_take, if_pos (by omega)]
 obtain ⟨A, hA⟩ : ∃ A, A = preS q x.before arm cap := ⟨_, rfl⟩
 rw [← hA]
 unfold preS mean at hA
 generalize hcx : cls x.before = c at *
 refine afn_of Tryz.func84 rfl mixed (by kernel_rfl) ?_
 conv=>whnf
 apply vif_split <;> intro h
 ·exfalso; simp at h; omega
 conv=>whnf
 refine aloop ws84_1 0 [9, 10, 11, 12, 13] (fun i : Nat => [(9, iv (sumV (selA arm (q.take i)))), (10, iv ((selA arm (q.take i)).length : Nat)), (11, iv (sumV (selC arm c (q.take i)))), (12, iv ((selC arm c (q.take i)).length : Nat)), (13, iv i)]) (fun _ => []) (fun i => i ≤ q.length) (fun i => q.length - i) [] [] 0 (by kernel_rfl) (fun _ => rfl) rfl (Nat.zero_le _) (by trivial) ⟨rfl, rfl, rfl, rfl, rfl, trivial⟩ ?_
 intro i hi
 have hv1 := sumV_rng (l := selA arm (q.take i)) fun y hy => hq _ (List.mem_of_mem_take (selA_sub _ _ _ hy))
 have hv2 := sumV_rng (l := selC arm c (q.take i)) fun y hy => hq _ (List.mem_of_mem_take (selC_sub _ _ _ _ hy))
 have hl1 : (selA arm (q.take i)).length ≤ i := Nat.le_trans (selA_len _ _) (List.length_take_le _ _)
 have hl2 : (selC arm c (q.take i)).length ≤ i := Nat.le_trans (selC_len _ _ _) (List.length_take_le _ _)
 conv=>whnf
 apply vif_split <;> intro h
 ·have hlt : i < q.length := by simp at h; omega
  have hg : s[i]? = some q[i] := by rw [hsq i hlt]; exact List.getElem?_eq_getElem hlt
  have his : i < s.length := by omega
  have hsn : q.take (i + 1) = q.take i ++ [q[i]] := List.take_succ_eq_append_getElem hlt
  have hS := selA_snoc arm (q.take i) q[i]
  have hT := selC_snoc arm c (q.take i) q[i]
  rw [← hsn] at hS hT
  have hv := hq _ (List.getElem_mem hlt)
  have hyb := hb _ (List.mem_append_left _ (List.getElem_mem hlt))
  generalize q[i] = y at *
  have hsv := sumV_snoc (selA arm (q.take i)) y
  have hsl : (selA arm (q.take i) ++ [y]).length = (selA arm (q.take i)).length + 1 := by rw [List.length_append]; rfl
  have htv := sumV_snoc (selC arm c (q.take i)) y
  have htl : (selC arm c (q.take i) ++ [y]).length = (selC arm c (q.take i)).length + 1 := by rw [List.length_append]; rfl
  conv=>whnf
  repeat' (first
   | (refine AIn.mk' i rfl (lmZ his) ?_; conv=>whnf)
   | (refine ARd.mapAt hg ?_; conv=>whnf))
  refine vif_split (fun h1 => ?_) (fun h1 => ?_)
  ·have hn : ¬ y.x.arm = arm := by simpa using h1
   rw [if_neg hn] at hS
   rw [if_neg (fun h' => hn h'.1)] at hT
   conv=>whnf
   refine AAr.i64 (by omega) ?_
   conv=>whnf
   exact aback (i + 1) [] [] rfl (by show q.length - (i + 1) < q.length - i; omega) hlt (by trivial) ⟨ciZ (by rw [hS]), ciZ (by rw [hS] <;> omega), ciZ (by rw [hT]), ciZ (by rw [hT] <;> omega), rfl, trivial⟩
  have hy : y.x.arm = arm := by simpa using h1
  rw [if_pos hy] at hS
  rw [← hS] at hsv hsl
  conv=>whnf
  repeat' (first
   | (refine AIn.mk' i rfl (lmZ his) ?_; conv=>whnf)
   | (refine ARd.mapAt hg ?_; conv=>whnf)
   | (refine AAr.i64 (by omega) ?_; conv=>whnf))
  (refine adraw pln84 [] (by kernel_rfl) ?_; conv=>whnf)
  repeat' (first
   | (refine And.intro ?_ ?_ <;> (conv=>whnf))
   | (refine AIn.mk' i rfl (lmZ his) ?_; conv=>whnf)
   | (refine AIn.mk' k rfl (lmZ hks) ?_; conv=>whnf)
   | (refine ARd.mapAt hg ?_; conv=>whnf)
   | (refine ARd.mapAt hk ?_; conv=>whnf)
   | ((refine acall [] (by kernel_rfl) (class2A y.before hyb) rfl ?_ ?_; (focus (trivial; done)); (conv=>whnf)))
   | ((refine acall [] (by kernel_rfl) (class2A x.before hxb) rfl ?_ ?_; (focus (trivial; done)); (conv=>whnf))))
  all_goals (rw [hcx])
  all_goals (refine vif_split (fun h2 => ?_) (fun h2 => ?_))
  rotate_left 1
  ·have hn : ¬ ((cls y.before : Nat) : Int) = c := by simpa using h2
   rw [if_neg (fun h' => hn (by rw [h'.2]))] at hT
   conv=>whnf
   refine AAr.i64 (by omega) ?_
   conv=>whnf
   exact aback (i + 1) [] [] rfl (by show q.length - (i + 1) < q.length - i; omega) hlt (by trivial) ⟨ciZ (by rw [hsv]), ciZ (by rw [hsl] <;> omega), ciZ (by rw [hT]), ciZ (by rw [hT] <;> omega), rfl, trivial⟩
  have hcc : ((cls y.before : Nat) : Int) = c := by simpa using h2
  rw [if_pos ⟨hy, by omega⟩] at hT
  rw [← hT] at htv htl
  conv=>whnf
  repeat' (first
   | (refine AIn.mk' i rfl (lmZ his) ?_; conv=>whnf)
   | (refine ARd.mapAt hg ?_; conv=>whnf)
   | (refine AAr.i64 (by omega) ?_; conv=>whnf))
  exact aback (i + 1) [] [] rfl (by show q.length - (i + 1) < q.length - i; omega) hlt (by trivial) ⟨ciZ (by rw [hsv]), ciZ (by rw [hsl] <;> omega), ciZ (by rw [htv]), ciZ (by rw [htl] <;> omega), rfl, trivial⟩
 have hie : i = q.length := by simp at h; omega
 subst hie
 rw [List.take_length] at hv1 hl1 hv2 hl2 ⊢
 conv=>whnf
 refine vif_split (fun h0 => ?_) (fun h0 => ?_)
 ·have hp : 0 < (selC arm c q).length := by simp only [decide_eq_true_eq, gt_iff_lt] at h0; omega
  conv=>whnf
  (refine acall [] (by kernel_rfl) (floor2A (a := sumV (selC arm c q)) (b := ((selC arm c q).length : Nat)) (by omega) (by omega)) rfl ?_ ?_; (focus trivial))
  conv=>whnf
  exact aret [] (ciZ (by rw [hA, if_pos hp]))
 have hz : ¬ 0 < (selC arm c q).length := by simp only [decide_eq_false_iff_not, gt_iff_lt] at h0; omega
 conv=>whnf
 refine vif_split (fun h0 => ?_) (fun h0 => ?_)
 ·have hp : 0 < (selA arm q).length := by simp only [decide_eq_true_eq, gt_iff_lt] at h0; omega
  conv=>whnf
  (refine acall [] (by kernel_rfl) (floor2A (a := sumV (selA arm q)) (b := ((selA arm q).length : Nat)) (by omega) (by omega)) rfl ?_ ?_; (focus trivial))
  conv=>whnf
  exact aret [] (ciZ (by rw [hA, if_neg hz, if_pos hp]))
 have hz2 : ¬ 0 < (selA arm q).length := by simp only [decide_eq_false_iff_not, gt_iff_lt] at h0; omega
 conv=>whnf
 (refine acall [] (by kernel_rfl) (floor2A (a := cap) (b := 2) (by decide) (by omega)) rfl ?_ ?_; (focus trivial))
 conv=>whnf
 exact aret [] (ciZ (by rw [hA, if_neg hz, if_neg hz2]))
theorem of2A (s q : List Sm) (x : Sm) (k : Nat) (w : Wg) (cap : Int) (adj : Bool) (hk : s[k]? = some x) (hqs : q = s.take k) (hb : ∀ y ∈ q ++ [x], I64 y.before) (hl : s.length ≤ 100000) :
  AFn Tryz.prog G 54 [smL s, iv k, .agg [iv w.ver, iv w.c, iv w.t], iv cap, bv adj] 0 [] (Is (ofA (ofO q x w cap adj))) := by
 have hks := (List.getElem?_eq_some_iff.1 hk).1
 have hql : q.length = k := by rw [hqs, List.length_take]; omega
 have hqx : q ++ [x] = s.take (k + 1) := by rw [hqs, List.take_add_one, hk]; rfl
 have hqn : (q ++ [x]).length = k + 1 := by rw [List.length_append, hql]; rfl
 have hsq : ∀ i, i < (q ++ [x]).length → s[i]? = (q ++ [x])[i]? := fun i hi => by rw [hqx, List.getElem?_take, if_pos (by omega)]
 obtain ⟨O, hO⟩ : ∃ O, O = ofO q x w cap adj := ⟨_, rfl⟩
 rw [← hO]
 refine afn_of Tryz.func54 rfl mixed (by kernel_rfl) ?_
 conv=>whnf
 (refine adraw pln54 [] (by kernel_rfl) ?_; conv=>whnf)
 apply vif_split <;> intro h
 ·exfalso; simp at h; omega
 conv=>whnf
 repeat' (first
  | (refine AIn.mk' k rfl (lmZ hks) ?_; conv=>whnf)
  | (refine ARd.mapAt hk ?_; conv=>whnf))
 apply vif_split <;> intro h
 ·have hn : x.x.arm < 1 := by simpa using h
  conv=>whnf
  have hO2 : O = none := by rw [hO]; unfold ofO; exact if_neg (fun h' => by have := h'.1; omega)
  rw [hO2]
  conv=>whnf
  exact aret [] ⟨⟨rfl, rfl, rfl, trivial⟩, rfl, trivial⟩
 have hr1 : ¬ x.x.arm < 1 := by simpa using h
 conv=>whnf
 repeat' (first
  | (refine AIn.mk' k rfl (lmZ hks) ?_; conv=>whnf)
  | (refine ARd.mapAt hk ?_; conv=>whnf))
 apply vif_split <;> intro h
 ·have hn : 2 < x.x.arm := by simpa using h
  conv=>whnf
  have hO2 : O = none := by rw [hO]; unfold ofO; exact if_neg (fun h' => by have := h'.1; omega)
  rw [hO2]
  conv=>whnf
  exact aret [] ⟨⟨rfl, rfl, rfl, trivial⟩, rfl, trivial⟩
 have hr2 : ¬ 2 < x.x.arm := by simpa using h
 conv=>whnf
 apply vif_split <;> intro h
 ·have hn : w.c < 1 := by simpa using h
  conv=>whnf
  have hO2 : O = none := by rw [hO]; unfold ofO; exact if_neg (fun h' => by have := h'.2.1; unfold okW at this; omega)
  rw [hO2]
  conv=>whnf
  exact aret [] ⟨⟨rfl, rfl, rfl, trivial⟩, rfl, trivial⟩
 have hw1 : ¬ w.c < 1 := by simpa using h
 conv=>whnf
 apply vif_split <;> intro h
 ·have hn : 10000 < w.c := by simpa using h
  conv=>whnf
  have hO2 : O = none := by rw [hO]; unfold ofO; exact if_neg (fun h' => by have := h'.2.1; unfold okW at this; omega)
  rw [hO2]
  conv=>whnf
  exact aret [] ⟨⟨rfl, rfl, rfl, trivial⟩, rfl, trivial⟩
 have hw2 : ¬ 10000 < w.c := by simpa using h
 conv=>whnf
 apply vif_split <;> intro h
 ·have hn : w.t < 1 := by simpa using h
  conv=>whnf
  have hO2 : O = none := by rw [hO]; unfold ofO; exact if_neg (fun h' => by have := h'.2.2.1; unfold okW at this; omega)
  rw [hO2]
  conv=>whnf
  exact aret [] ⟨⟨rfl, rfl, rfl, trivial⟩, rfl, trivial⟩
 have hw3 : ¬ w.t < 1 := by simpa using h
 conv=>whnf
 apply vif_split <;> intro h
 ·have hn : 10000 < w.t := by simpa using h
  conv=>whnf
  have hO2 : O = none := by rw [hO]; unfold ofO; exact if_neg (fun h' => by have := h'.2.2.1; unfold okW at this; omega)
  rw [hO2]
  conv=>whnf
  exact aret [] ⟨⟨rfl, rfl, rfl, trivial⟩, rfl, trivial⟩
 have hw4 : ¬ 10000 < w.t := by simpa using h
 have hwc : okW w.c := by unfold okW; omega
 have hwt : okW w.t := by unfold okW; omega
 conv=>whnf
 apply vif_split <;> intro h
 ·have hn : cap < 1 := by simpa using h
  conv=>whnf
  have hO2 : O = none := by rw [hO]; unfold ofO; exact if_neg (fun h' => by have := h'.2.2.2.1; omega)
  rw [hO2]
  conv=>whnf
  exact aret [] ⟨⟨rfl, rfl, rfl, trivial⟩, rfl, trivial⟩
 have hc1 : 1 ≤ cap := by simpa using h
 conv=>whnf
 apply vif_split <;> intro h
 ·have hn : 1048576 < cap := by simpa using h
  conv=>whnf
  have hO2 : O = none := by rw [hO]; unfold ofO; exact if_neg (fun h' => by have := h'.2.2.2.1; omega)
  rw [hO2]
  conv=>whnf
  exact aret [] ⟨⟨rfl, rfl, rfl, trivial⟩, rfl, trivial⟩
 have hc : 1 ≤ cap ∧ cap ≤ 1048576 := ⟨hc1, by simpa using h⟩
 conv=>whnf
 refine aloop ws54_1 2 [14] (fun i : Nat => [(14, iv i)]) (fun _ => [(1, .var 98 [iv 0, iv 0, iv 0]), (0, .var 83 [iv w.ver, iv w.c, iv w.t])]) (fun i => i ≤ (q ++ [x]).length ∧ okV cap ((q ++ [x]).take i)) (fun i => (q ++ [x]).length - i) [] [] 0 (by kernel_rfl) (fun _ => rfl) rfl ⟨Nat.zero_le _, fun _ h => by cases h⟩ (by trivial) (by trivial) ?_
 rintro i ⟨hi, hv⟩
 conv=>whnf
 apply vif_split <;> intro h
 ·have hlt : i < (q ++ [x]).length := by simp only [decide_eq_true_eq] at h; omega
  have his : i < s.length := by omega
  have hg : s[i]? = some (q ++ [x])[i] := by rw [hsq i hlt]; exact List.getElem?_eq_getElem hlt
  have hm := List.getElem_mem hlt
  have hsn : (q ++ [x]).take (i + 1) = (q ++ [x]).take i ++ [(q ++ [x])[i]] := List.take_succ_eq_append_getElem hlt
  generalize (q ++ [x])[i] = z at *
  conv=>whnf
  repeat' (first
   | (refine AIn.mk' i rfl (lmZ his) ?_; conv=>whnf)
   | (refine ARd.mapAt hg ?_; conv=>whnf))
  refine vif_split (fun h1 => ?_) (fun h1 => ?_)
  ·have hn : z.value < 0 := by simpa using h1
   conv=>whnf
   have hO2 : O = none := by rw [hO]; unfold ofO; exact if_neg (fun h' => by have := h'.2.2.2.2 z hm; omega)
   rw [hO2]
   conv=>whnf
   exact aret [] ⟨⟨rfl, rfl, rfl, trivial⟩, rfl, trivial⟩
  conv=>whnf
  repeat' (first
   | (refine AIn.mk' i rfl (lmZ his) ?_; conv=>whnf)
   | (refine ARd.mapAt hg ?_; conv=>whnf))
  refine vif_split (fun h2 => ?_) (fun h2 => ?_)
  ·have hn : cap < z.value := by simpa using h2
   conv=>whnf
   have hO2 : O = none := by rw [hO]; unfold ofO; exact if_neg (fun h' => by have := h'.2.2.2.2 z hm; omega)
   rw [hO2]
   conv=>whnf
   exact aret [] ⟨⟨rfl, rfl, rfl, trivial⟩, rfl, trivial⟩
  conv=>whnf
  refine AAr.i64 (by omega) ?_
  conv=>whnf
  exact aback (i + 1) [] [] rfl (by show (q ++ [x]).length - (i + 1) < (q ++ [x]).length - i; omega) ⟨hlt, fun y hy => by
   rw [hsn] at hy
   rcases List.mem_append.1 hy with hy | hy
   ·exact hv y hy
   ·rw [List.mem_singleton.1 hy]; exact ⟨by simpa using h1, by simpa using h2⟩⟩ (by trivial) (by trivial)
 have hie : i = (q ++ [x]).length := by simp only [decide_eq_false_iff_not] at h; omega
 subst hie
 rw [List.take_length] at hv
 have hq : okV 1048576 q := fun y hy => by have := hv y (List.mem_append_left _ hy); omega
 have hxv := hv x (by simp)
 have harm : x.x.arm = 1 ∨ x.x.arm = 2 := by omega
 have hO2 : O = some (ofS q x w cap adj) := by rw [hO]; exact if_pos ⟨harm, hwc, hwt, hc, hv⟩
 clear hO
 conv=>whnf
 refine vif_split (fun ha => ?_) (fun ha => ?_)
 ·have hp1 := preS_rng (b := x.before) (arm := 1) hq hc
  have hp2 := preS_rng (b := x.before) (arm := 2) hq hc
  have hpr1 := predict2A (G := G) s q x k 1 cap hk hqs hq hb hc hl
  have hpr2 := predict2A (G := G) s q x k 2 cap hk hqs hq hb hc hl
  subst ha
  have hz : ofS q x w cap true = ⟨if x.x.arm = 1 then w.c * w.t * (preS q x.before 2 cap - preS q x.before 1 cap) - (w.c + w.t) * w.t * (x.value - preS q x.before 1 cap) else w.c * w.t * (preS q x.before 2 cap - preS q x.before 1 cap) + (w.c + w.t) * w.c * (x.value - preS q x.before 2 cap), w.c * w.t * cap, cap * (2 * (w.c * w.t) + (w.c + w.t) * max w.c w.t)⟩ := rfl
  generalize ofS q x w cap true = z at *
  generalize preS q x.before 1 cap = p1 at *
  generalize preS q x.before 2 cap = p2 at *
  have hc0 : 0 ≤ w.c ∧ w.c ≤ 10000 := by unfold okW at hwc; omega
  have ht0 : 0 ≤ w.t ∧ w.t ≤ 10000 := by unfold okW at hwt; omega
  have hs0 : 0 ≤ w.c + w.t ∧ w.c + w.t ≤ 20000 := by omega
  have hx0 : 0 ≤ max w.c w.t ∧ max w.c w.t ≤ 10000 := by omega
  have hP := mulR hc0.1 hc0.2 ht0.1 ht0.2
  have hSt := mulR hs0.1 hs0.2 ht0.1 ht0.2
  have hSc := mulR hs0.1 hs0.2 hc0.1 hc0.2
  have hSm := mulR hs0.1 hs0.2 hx0.1 hx0.2
  have hC := mulR hP.1 hP.2 (show 0 ≤ cap by omega) hc.2
  have hR := mulR (show 0 ≤ cap by omega) hc.2 (show 0 ≤ 2 * (w.c * w.t) + (w.c + w.t) * max w.c w.t by omega) (show _ ≤ 400000000 by omega)
  have hD := mulS (b := p2 - p1) (B := 1048576) hP.1 hP.2 (by omega) (by omega)
  have hA1 := mulS (b := x.value - p1) (B := 1048576) hSt.1 hSt.2 (by omega) (by omega)
  have hA2 := mulS (b := x.value - p2) (B := 1048576) hSc.1 hSc.2 (by omega) (by omega)
  have hP2 : 0 ≤ 2 * w.c * w.t ∧ 2 * w.c * w.t ≤ 200000000 := by rw [Int.mul_assoc]; omega
  rw [← Int.mul_assoc 2 w.c w.t] at hR hz
  conv=>whnf
  (refine acall [] (by kernel_rfl) (hpr1) rfl ?_ ?_; (focus trivial))
  conv=>whnf
  (refine acall [] (by kernel_rfl) (hpr2) rfl ?_ ?_; (focus trivial))
  rcases harm with ha1 | ha1
  ·skip
   conv=>whnf
   repeat' (first
    | (refine AAr.i64 (by omega) ?_; conv=>whnf)
    | (refine AIn.mk' k rfl (lmZ hks) ?_; conv=>whnf)
    | (refine ARd.mapAt hk ?_; conv=>whnf)
    | (refine vif_split (fun h1 => ?_) (fun h1 => ?_) <;> (first | (exfalso; simp [ha1] at h1; done) | (conv=>whnf))))
   all_goals (rw [hO2])
   all_goals exact aret [] ⟨⟨ciZ (by rw [hz, ha1, if_pos rfl]), ciZ (by rw [hz]), ciZ (by rw [hz]), trivial⟩, rfl, trivial⟩
  ·skip
   conv=>whnf
   repeat' (first
    | (refine AAr.i64 (by omega) ?_; conv=>whnf)
    | (refine AIn.mk' k rfl (lmZ hks) ?_; conv=>whnf)
    | (refine ARd.mapAt hk ?_; conv=>whnf)
    | (refine vif_split (fun h1 => ?_) (fun h1 => ?_) <;> (first | (exfalso; simp [ha1] at h1; done) | (conv=>whnf))))
   all_goals (rw [hO2])
   all_goals exact aret [] ⟨⟨ciZ (by rw [hz, ha1, if_neg (by decide)]), ciZ (by rw [hz]), ciZ (by rw [hz]), trivial⟩, rfl, trivial⟩
 ·have hz : ofS q x w cap adj = ⟨if x.x.arm = 1 then w.c * w.t * (0 - 0) - (w.c + w.t) * w.t * (x.value - 0) else w.c * w.t * (0 - 0) + (w.c + w.t) * w.c * (x.value - 0), w.c * w.t * cap, cap * (2 * (w.c * w.t) + (w.c + w.t) * max w.c w.t)⟩ := by rw [ha]; rfl
  generalize ofS q x w cap adj = z at *
  have hc0 : 0 ≤ w.c ∧ w.c ≤ 10000 := by unfold okW at hwc; omega
  have ht0 : 0 ≤ w.t ∧ w.t ≤ 10000 := by unfold okW at hwt; omega
  have hs0 : 0 ≤ w.c + w.t ∧ w.c + w.t ≤ 20000 := by omega
  have hx0 : 0 ≤ max w.c w.t ∧ max w.c w.t ≤ 10000 := by omega
  have hP := mulR hc0.1 hc0.2 ht0.1 ht0.2
  have hSt := mulR hs0.1 hs0.2 ht0.1 ht0.2
  have hSc := mulR hs0.1 hs0.2 hc0.1 hc0.2
  have hSm := mulR hs0.1 hs0.2 hx0.1 hx0.2
  have hC := mulR hP.1 hP.2 (show 0 ≤ cap by omega) hc.2
  have hR := mulR (show 0 ≤ cap by omega) hc.2 (show 0 ≤ 2 * (w.c * w.t) + (w.c + w.t) * max w.c w.t by omega) (show _ ≤ 400000000 by omega)
  have hD := mulS (b := 0 - 0) (B := 1048576) hP.1 hP.2 (by omega) (by omega)
  have hA1 := mulS (b := x.value - 0) (B := 1048576) hSt.1 hSt.2 (by omega) (by omega)
  have hA2 := mulS (b := x.value - 0) (B := 1048576) hSc.1 hSc.2 (by omega) (by omega)
  have hP2 : 0 ≤ 2 * w.c * w.t ∧ 2 * w.c * w.t ≤ 200000000 := by rw [Int.mul_assoc]; omega
  rw [← Int.mul_assoc 2 w.c w.t] at hR hz
  rcases harm with ha1 | ha1
  ·skip
   conv=>whnf
   repeat' (first
    | (refine AAr.i64 (by omega) ?_; conv=>whnf)
    | (refine AIn.mk' k rfl (lmZ hks) ?_; conv=>whnf)
    | (refine ARd.mapAt hk ?_; conv=>whnf)
    | (refine vif_split (fun h1 => ?_) (fun h1 => ?_) <;> (first | (exfalso; simp [ha1] at h1; done) | (conv=>whnf))))
   all_goals (rw [hO2])
   all_goals exact aret [] ⟨⟨ciZ (by rw [hz, ha1, if_pos rfl]), ciZ (by rw [hz]), ciZ (by rw [hz]), trivial⟩, rfl, trivial⟩
  ·skip
   conv=>whnf
   repeat' (first
    | (refine AAr.i64 (by omega) ?_; conv=>whnf)
    | (refine AIn.mk' k rfl (lmZ hks) ?_; conv=>whnf)
    | (refine ARd.mapAt hk ?_; conv=>whnf)
    | (refine vif_split (fun h1 => ?_) (fun h1 => ?_) <;> (first | (exfalso; simp [ha1] at h1; done) | (conv=>whnf))))
   all_goals (rw [hO2])
   all_goals exact aret [] ⟨⟨ciZ (by rw [hz, ha1, if_neg (by decide)]), ciZ (by rw [hz]), ciZ (by rw [hz]), trivial⟩, rfl, trivial⟩
def wgO : Option Wg → AV
 | some v => .tup [.agg [iv v.ver, iv v.c, iv v.t], bv true]
 | none => .tup [.agg [iv 0, iv 0, iv 0], bv false]
theorem weights2A (w : List Wg) (n : Int) (hw : w.length ≤ 100000) : AFn Tryz.prog G 53 [wgL w, iv n] 0 [] (Is (wgO (fndW w n))) := by
 obtain ⟨O, hO⟩ : ∃ O, O = fndW w n := ⟨_, rfl⟩
 rw [← hO]
 refine afn_of Tryz.func53 rfl mixed (by kernel_rfl) ?_
 conv=>whnf
 refine aloop ws53_1 1 [6] (fun j : Nat => [(6, iv j)]) (fun _ => [(0, .var 83 [iv 0, iv 0, iv 0])]) (fun j => j ≤ w.length ∧ ∀ i v, i < j → w[i]? = some v → v.ver ≠ n) (fun j => w.length - j) [] [] 0 (by kernel_rfl) (fun _ => rfl) rfl ⟨Nat.zero_le _, fun i v hi => absurd hi (Nat.not_lt_zero i)⟩ (by trivial) (by trivial) ?_
 rintro j ⟨hj, hno⟩
 conv=>whnf
 refine vif_split (fun h2 => ?_) (fun h2 => ?_)
 rotate_left 1
 ·have hje : j = w.length := by simp at h2; omega
  subst hje
  rw [hO, fndW_none fun i v hi => hno i v hi]
  conv=>whnf
  exact aret [] ⟨⟨rfl, rfl, rfl, trivial⟩, rfl, trivial⟩
 have hjt : j < w.length := by simp at h2; omega
 have hgw := List.getElem?_eq_getElem hjt
 generalize w[j] = v at *
 conv=>whnf
 refine AIn.mk' j rfl (lmZ hjt) ?_
 conv=>whnf
 refine ARd.mapAt hgw ?_
 conv=>whnf
 refine vif_split (fun h3 => ?_) (fun h3 => ?_)
 ·have he : v.ver = n := by simpa using h3
  rw [hO, fndW_some hno hgw he]
  conv=>whnf
  refine AIn.mk' j rfl (lmZ hjt) ?_
  conv=>whnf
  refine ARd.mapAt hgw ?_
  conv=>whnf
  exact aret [] ⟨⟨rfl, rfl, rfl, trivial⟩, rfl, trivial⟩
 have hne : v.ver ≠ n := by simpa using h3
 conv=>whnf
 refine AAr.i64 (by omega) ?_
 conv=>whnf
 exact aback (j + 1) [] [] rfl (by show w.length - (j + 1) < w.length - j; omega) ⟨hjt, fun i u hi hu => by
  rcases Nat.lt_or_ge i j with h4 | h4
  ·exact hno i u h4 hu
  ·have : i = j := by omega
   subst this
   rw [hgw] at hu
   injection hu with hu
   subst hu
   exact hne⟩ (by trivial) (by trivial)
theorem all2A (s : List Sm) (w : List Wg) (cap : Int) (adj : Bool) (hb : ∀ y ∈ s, I64 y.before) (hl : s.length ≤ 100000) (hw : w.length ≤ 100000) :
  AFn Tryz.prog G 24 [smL s, wgL w, iv cap, bv adj] 0 [] (Is (scL (allS s w cap adj))) := by
 obtain ⟨A, hA⟩ : ∃ A, A = allS s w cap adj := ⟨_, rfl⟩
 rw [← hA]
 refine afn_of Tryz.func24 rfl mixed (by kernel_rfl) ?_
 conv=>whnf
 refine aloop ws24_1 1 [9, 10] (fun x : KA => [(9, .own 0), (10, iv x.k)]) (fun x => [(0, .rows 98 3 (x.out.map scF))]) (fun x => x.k ≤ s.length ∧ x.out.length ≤ x.k ∧ x.out ++ allR w cap adj (s.take x.k) (s.drop x.k) = A) (fun x => s.length - x.k) [(0, .nil)] [] ⟨0, []⟩ (by kernel_rfl) (fun _ => rfl) rfl ⟨Nat.zero_le _, Nat.zero_le _, by rw [hA]; rfl⟩ (by trivial) (by trivial) ?_
 rintro ⟨k, out⟩ ⟨hk, ho, hR⟩
 dsimp only at hk ho hR
 conv=>whnf
 apply vif_split <;> intro h
 rotate_left 1
 ·have hie : k = s.length := by simp at h; omega
  subst hie
  rw [List.drop_length] at hR
  simp only [allR, List.append_nil] at hR
  subst hR
  conv=>whnf
  exact aend (scL out) 0 [] [] [0] ⟨rfl, rfl, rfl⟩ rfl trivial ⟨rfl, rfl, rfl⟩
 have hlt : k < s.length := by simp at h; omega
 have hg := List.getElem?_eq_getElem hlt
 rw [allR_drop hlt] at hR
 have hof := fun v => of2A (G := G) s (s.take k) s[k] k v cap adj hg rfl (fun y hy => by
  rcases List.mem_append.1 hy with hy | hy
  ·exact hb y (List.mem_of_mem_take hy)
  ·rw [List.mem_singleton.1 hy]; exact hb _ (List.getElem_mem hlt)) hl
 have fin (hn : oneS w cap adj (s.take k) s[k] = []) : out ++ allR w cap adj (s.take (k + 1)) (s.drop (k + 1)) = A := by rw [hn] at hR; exact hR
 have finS (z : Sc) (hn : oneS w cap adj (s.take k) s[k] = [z]) : (out ++ [z]) ++ allR w cap adj (s.take (k + 1)) (s.drop (k + 1)) = A := by rw [hn] at hR; rw [List.append_assoc]; exact hR
 have hone : ∀ v, fndW w s[k].x.ver = some v → oneS w cap adj (s.take k) s[k] = (ofO (s.take k) s[k] v cap adj).toList := fun v hv => by unfold oneS; rw [hv]
 have hone0 : fndW w s[k].x.ver = none → oneS w cap adj (s.take k) s[k] = [] := fun hv => by unfold oneS; rw [hv]
 clear hR
 generalize s[k] = x at *
 generalize oneS w cap adj (s.take k) x = O1 at *
 have hcw := weights2A (G := G) w x.x.ver hw
 conv=>whnf
 refine AIn.mk' k rfl (lmZ hlt) ?_
 conv=>whnf
 refine ARd.mapAt hg ?_
 conv=>whnf
 cases hf : fndW w x.x.ver with
 | none =>
  rw [hf] at hcw
  (refine acall [] (by kernel_rfl) (hcw) rfl ?_ ?_; (focus trivial))
  conv=>whnf
  refine AAr.i64 (by show _ ≤ (k : Int) + 1 ∧ (k : Int) + 1 ≤ _; omega) ?_
  conv=>whnf
  exact aback ⟨k + 1, out⟩ [(0, .lab 0)] [] rfl (by show s.length - (k + 1) < s.length - k; omega) ⟨hlt, by show out.length ≤ k + 1; omega, fin (hone0 hf)⟩ (by trivial) (by trivial)
 | some v =>
  rw [hf] at hcw
  (refine acall [] (by kernel_rfl) (hcw) rfl ?_ ?_; (focus trivial))
  have h1 := hone v hf
  have hcall := hof v
  conv=>whnf
  cases hO : ofO (s.take k) x v cap adj with
  | none =>
   rw [hO] at hcall h1
   (refine acall [] (by kernel_rfl) (hcall) rfl ?_ ?_; (focus trivial))
   conv=>whnf
   refine AAr.i64 (by show _ ≤ (k : Int) + 1 ∧ (k : Int) + 1 ≤ _; omega) ?_
   conv=>whnf
   exact aback ⟨k + 1, out⟩ [(0, .lab 0)] [] rfl (by show s.length - (k + 1) < s.length - k; omega) ⟨hlt, by show out.length ≤ k + 1; omega, fin h1⟩ (by trivial) (by trivial)
  | some z =>
   rw [hO] at hcall h1
   (refine acall [] (by kernel_rfl) (hcall) rfl ?_ ?_; (focus trivial))
   conv=>whnf
   refine VReq.mk (app_sc (by simp only [List.length_map, List.length_cons, List.length_nil]; omega)) ?_
   conv=>whnf
   refine AAr.i64 (by show _ ≤ (k : Int) + 1 ∧ (k : Int) + 1 ≤ _; omega) ?_
   conv=>whnf
   refine aback ⟨k + 1, out ++ [z]⟩ [(0, .lab 4)] [] rfl (by show s.length - (k + 1) < s.length - k; omega) ⟨hlt, by show (out ++ [z]).length ≤ k + 1; rw [List.length_append]; simp; omega, finS z h1⟩ ⟨⟨rfl, rfl, ?_⟩, trivial⟩ (by trivial)
   rw [List.map_append]
   rfl
end
end
section
attribute [local irreducible] divQ divR
def idxR : List Wg → Int → Nat → Int
 | [], _, _ => -1
 | g :: r, v, i => if g.ver = v then (i : Int) else idxR r v (i + 1)
theorem idxR_drop {w : List Wg} {v : Int} {i : Nat} (h : i < w.length) : idxR (w.drop i) v i = if w[i].ver = v then (i : Int) else idxR (w.drop (i + 1)) v (i + 1) := by
 rw [List.drop_eq_getElem_cons h]; rfl
theorem idxR_fnd (w : List Wg) (v : Int) : ∀ i, (idxR w v i = -1 ∧ fndW w v = none) ∨ ∃ (j : Nat) (g : Wg), idxR w v i = ((i + j : Nat) : Int) ∧ w[j]? = some g ∧ fndW w v = some g := by
 induction w with
 | nil => intro i; exact .inl ⟨rfl, rfl⟩
 | cons a r ih =>
  intro i
  unfold idxR fndW
  rw [List.find?_cons]
  by_cases h : a.ver = v
  ·right
   exact ⟨0, a, by rw [if_pos h]; rfl, rfl, by simp [h]⟩
  ·rw [if_neg h]
   simp only [h, decide_false]
   rcases ih (i + 1) with ⟨h1, h2⟩ | ⟨j, g, h1, h2, h3⟩
   ·exact .inl ⟨h1, h2⟩
   ·exact .inr ⟨j + 1, g, by rw [h1]; congr 1; omega, by simpa using h2, h3⟩
structure K2 where
 j : Nat
 a : Int
 b : Int
def K2I (a b c t : Int) (x : K2) : Prop := x = ⟨0, 0, 0⟩ ∨ x = ⟨1, a, c⟩ ∨ x = ⟨2, a + b, c + t⟩
abbrev li2 (a b : Int) : AV := .lst 1 [[.v (.int .i64 a)], [.v (.int .i64 b)]]
section
variable {G : Glob}
def exB (x : Ex) : ABlk := .var 60 ((exF x).map FV.up)
theorem idxWA (w : List Wg) (x : Ex) (hw : w.length ≤ 100000) : AFn Tryz.prog G 66 [wgL w, .fn (.func 67) [] [.ptr 0 0]] 1 [(0, exB x)] (fun a n H => a = iv (idxR w x.ver 0) ∧ n = 1 ∧ H = [(0, exB x)]) := by
 obtain ⟨A, hA⟩ : ∃ A, A = idxR w x.ver 0 := ⟨_, rfl⟩
 rw [← hA]
 refine afn_of Tryz.func66 rfl mixed (by kernel_rfl) ?_
 conv=>whnf
 refine aloop ws66_1 1 [8] (fun i : Nat => [(8, iv i)]) (fun _ => [(0, exB x)]) (fun i => i ≤ w.length ∧ idxR (w.drop i) x.ver i = A) (fun i => w.length - i) [] [] 0 (by kernel_rfl) (fun _ => rfl) rfl ⟨Nat.zero_le _, by rw [hA]; rfl⟩ (by trivial) (by trivial) ?_
 rintro i ⟨hi, hR⟩
 conv=>whnf
 apply vif_split <;> intro h
 rotate_left 1
 ·have hie : i = w.length := by simp at h; omega
  subst hie
  rw [List.drop_length] at hR
  simp only [idxR] at hR
  conv=>whnf
  exact aend (iv A) 1 _ [] [] ⟨rfl, rfl, rfl⟩ rfl (by trivial) (ciZ hR)
 have hlt : i < w.length := by simp at h; omega
 have hg := List.getElem?_eq_getElem hlt
 rw [idxR_drop hlt] at hR
 generalize w[i] = v at *
 conv=>whnf
 refine AIn.mk' i rfl (lmZ hlt) ?_
 conv=>whnf
 refine ARd.mapAt hg ?_
 conv=>whnf
 (refine acallI (by kernel_rfl) (afn_of Tryz.func67 rfl mixed (by kernel_rfl) ?_); (conv=>whnf))
 (refine aendV ?_ rfl ?_; rotate_left 1; (focus trivial); (conv=>whnf))
 conv=>whnf
 refine vif_split (fun h1 => ?_) (fun h1 => ?_)
 ·rw [if_pos (by simpa using h1)] at hR
  conv=>whnf
  exact aend (iv A) 1 _ [] [] ⟨rfl, rfl, rfl⟩ rfl (by trivial) (ciZ hR)
 ·rw [if_neg (by simpa using h1)] at hR
  conv=>whnf
  refine AAr.i64 (by omega) ?_
  conv=>whnf
  exact aback (i + 1) [] [] rfl (by show w.length - (i + 1) < w.length - i; omega) ⟨hlt, hR⟩ (by trivial) (by trivial)
theorem clone2A (a b : Int) : AFn Tryz.prog G 92 [li2 a b] 0 [] (Own1 3 1 [[.v (.int .i64 a)], [.v (.int .i64 b)]]) := by
 refine afn_of Tryz.func92 rfl mixed (by kernel_rfl) ?_
 conv=>whnf
 refine ⟨fun b' hb => ?_⟩
 cases b' with
 | true => exact absurd (hb (by simp)) (by decide)
 | false =>
  conv=>whnf
  refine VReq.mk (app_int (n := 2) (by decide)) ?_
  conv=>whnf
  exact aend (.own 0) 1 _ [(0, .lab 1)] [] ⟨rfl, rfl, rfl⟩ rfl (by trivial) (by trivial)
theorem bvalidA (w a b c t arm : Int) : AFn Tryz.prog G 93 [iv w, li2 a b, li2 c t, iv arm] 0 [] (Is (bv (decide (okB w a b c t arm)))) := by
 obtain ⟨B, hB⟩ : ∃ B, B = decide (okB w a b c t arm) := ⟨_, rfl⟩
 have hno : ¬ okB w a b c t arm → B = false := fun h => by rw [hB]; exact decide_eq_false h
 have hyes : okB w a b c t arm → B = true := fun h => by rw [hB]; exact decide_eq_true h
 rw [← hB]
 clear hB
 unfold okB okW at hno hyes
 refine afn_of Tryz.func93 rfl mixed (by kernel_rfl) ?_
 conv=>whnf
 apply vif_split <;> intro h
 ·rw [hno (by simp only [decide_eq_true_eq] at h; omega)]
  conv=>whnf
  exact aret [] (by trivial)
 have c1 : ¬ w < 0 := by simpa using h
 conv=>whnf
 apply vif_split <;> intro h
 ·have c2 : 2305843009213693952 < w := by simpa using h
  rw [hno (by omega)]
  conv=>whnf
  exact aret [] (by trivial)
 have c2 : ¬ 2305843009213693952 < w := by simpa using h
 conv=>whnf
 apply vif_split <;> intro h
 ·have c3 : arm < 1 := by simpa using h
  rw [hno (by omega)]
  conv=>whnf
  exact aret [] (by trivial)
 have c3 : ¬ arm < 1 := by simpa using h
 conv=>whnf
 apply vif_split <;> intro h
 ·have c4 : 2 < arm := by simpa using h
  rw [hno (by omega)]
  conv=>whnf
  exact aret [] (by trivial)
 have c4 : ¬ 2 < arm := by simpa using h
 conv=>whnf
 refine aloop ws93_1 0 [46] (fun i : Nat => [(46, iv i)]) (fun _ => []) (fun i => i ≤ 2 ∧ (1 ≤ i → (0 ≤ a ∧ a ≤ 512) ∧ 1 ≤ c ∧ c ≤ 10000) ∧ (2 ≤ i → (0 ≤ b ∧ b ≤ 512) ∧ 1 ≤ t ∧ t ≤ 10000)) (fun i => 2 - i) [] [] 0 (by kernel_rfl) (fun _ => rfl) rfl ⟨by decide, fun h => by omega, fun h => by omega⟩ (by trivial) (by trivial) ?_
 rintro i ⟨hi, hi1, hi2⟩
 have h3 : i = 0 ∨ i = 1 ∨ i = 2 := by omega
 rcases h3 with rfl | rfl | rfl
 ·skip
  conv=>whnf
  repeat' (first
   | (refine AIn.mk' 0 rfl (show 0 < 2 by decide) ?_; conv=>whnf)
   | (refine ARd.at rfl ?_; conv=>whnf))
  apply vif_split <;> intro h
  ·have d : a < 0 := by simpa using h
   rw [hno (by omega)]
   conv=>whnf
   exact aret [] (by trivial)
  have d1 : ¬ a < 0 := by simpa using h
  conv=>whnf
  repeat' (first
   | (refine AIn.mk' 0 rfl (show 0 < 2 by decide) ?_; conv=>whnf)
   | (refine ARd.at rfl ?_; conv=>whnf))
  apply vif_split <;> intro h
  ·have d : 512 < a := by simpa using h
   rw [hno (by omega)]
   conv=>whnf
   exact aret [] (by trivial)
  have d2 : ¬ 512 < a := by simpa using h
  conv=>whnf
  repeat' (first
   | (refine AIn.mk' 0 rfl (show 0 < 2 by decide) ?_; conv=>whnf)
   | (refine ARd.at rfl ?_; conv=>whnf))
  apply vif_split <;> intro h
  ·have d : c < 1 := by simpa using h
   rw [hno (by omega)]
   conv=>whnf
   exact aret [] (by trivial)
  have d3 : ¬ c < 1 := by simpa using h
  conv=>whnf
  repeat' (first
   | (refine AIn.mk' 0 rfl (show 0 < 2 by decide) ?_; conv=>whnf)
   | (refine ARd.at rfl ?_; conv=>whnf))
  apply vif_split <;> intro h
  ·have d : 10000 < c := by simpa using h
   rw [hno (by omega)]
   conv=>whnf
   exact aret [] (by trivial)
  have d4 : ¬ 10000 < c := by simpa using h
  conv=>whnf
  refine AAr.i64 (by decide) ?_
  conv=>whnf
  exact aback 1 [] [] rfl (by decide) ⟨by decide, fun _ => by omega, fun h => by omega⟩ (by trivial) (by trivial)
 ·have hi1 := hi1 (Nat.le_refl _)
  conv=>whnf
  repeat' (first
   | (refine AIn.mk' 1 rfl (show 1 < 2 by decide) ?_; conv=>whnf)
   | (refine ARd.at rfl ?_; conv=>whnf))
  apply vif_split <;> intro h
  ·have d : b < 0 := by simpa using h
   rw [hno (by omega)]
   conv=>whnf
   exact aret [] (by trivial)
  have d1 : ¬ b < 0 := by simpa using h
  conv=>whnf
  repeat' (first
   | (refine AIn.mk' 1 rfl (show 1 < 2 by decide) ?_; conv=>whnf)
   | (refine ARd.at rfl ?_; conv=>whnf))
  apply vif_split <;> intro h
  ·have d : 512 < b := by simpa using h
   rw [hno (by omega)]
   conv=>whnf
   exact aret [] (by trivial)
  have d2 : ¬ 512 < b := by simpa using h
  conv=>whnf
  repeat' (first
   | (refine AIn.mk' 1 rfl (show 1 < 2 by decide) ?_; conv=>whnf)
   | (refine ARd.at rfl ?_; conv=>whnf))
  apply vif_split <;> intro h
  ·have d : t < 1 := by simpa using h
   rw [hno (by omega)]
   conv=>whnf
   exact aret [] (by trivial)
  have d3 : ¬ t < 1 := by simpa using h
  conv=>whnf
  repeat' (first
   | (refine AIn.mk' 1 rfl (show 1 < 2 by decide) ?_; conv=>whnf)
   | (refine ARd.at rfl ?_; conv=>whnf))
  apply vif_split <;> intro h
  ·have d : 10000 < t := by simpa using h
   rw [hno (by omega)]
   conv=>whnf
   exact aret [] (by trivial)
  have d4 : ¬ 10000 < t := by simpa using h
  conv=>whnf
  refine AAr.i64 (by decide) ?_
  conv=>whnf
  exact aback 2 [] [] rfl (by decide) ⟨by decide, fun _ => hi1, fun h => by omega⟩ (by trivial) (by trivial)
 ·have hi1 := hi1 (by decide)
  have hi2 := hi2 (by decide)
  rw [hyes (by omega)]
  conv=>whnf
  exact aret [] (by trivial)
theorem bvalid2A (w a b c t arm : Int) : AFn Tryz.prog G 111 [iv w, li2 a b, li2 c t, iv arm] 0 [] (Is (bv (decide (okB w a b c t arm)))) := by
 obtain ⟨B, hB⟩ : ∃ B, B = decide (okB w a b c t arm) := ⟨_, rfl⟩
 have hno : ¬ okB w a b c t arm → B = false := fun h => by rw [hB]; exact decide_eq_false h
 have hyes : okB w a b c t arm → B = true := fun h => by rw [hB]; exact decide_eq_true h
 rw [← hB]
 clear hB
 unfold okB okW at hno hyes
 refine afn_of Tryz.func111 rfl mixed (by kernel_rfl) ?_
 conv=>whnf
 apply vif_split <;> intro h
 ·rw [hno (by simp only [decide_eq_true_eq] at h; omega)]
  conv=>whnf
  exact aret [] (by trivial)
 have c1 : ¬ w < 0 := by simpa using h
 conv=>whnf
 apply vif_split <;> intro h
 ·have c2 : 2305843009213693952 < w := by simpa using h
  rw [hno (by omega)]
  conv=>whnf
  exact aret [] (by trivial)
 have c2 : ¬ 2305843009213693952 < w := by simpa using h
 conv=>whnf
 apply vif_split <;> intro h
 ·have c3 : arm < 1 := by simpa using h
  rw [hno (by omega)]
  conv=>whnf
  exact aret [] (by trivial)
 have c3 : ¬ arm < 1 := by simpa using h
 conv=>whnf
 apply vif_split <;> intro h
 ·have c4 : 2 < arm := by simpa using h
  rw [hno (by omega)]
  conv=>whnf
  exact aret [] (by trivial)
 have c4 : ¬ 2 < arm := by simpa using h
 conv=>whnf
 refine aloop ws111_1 0 [9] (fun i : Nat => [(9, iv i)]) (fun _ => []) (fun i => i ≤ 2 ∧ (1 ≤ i → (0 ≤ a ∧ a ≤ 512) ∧ 1 ≤ c ∧ c ≤ 10000) ∧ (2 ≤ i → (0 ≤ b ∧ b ≤ 512) ∧ 1 ≤ t ∧ t ≤ 10000)) (fun i => 2 - i) [] [] 0 (by kernel_rfl) (fun _ => rfl) rfl ⟨by decide, fun h => by omega, fun h => by omega⟩ (by trivial) (by trivial) ?_
 rintro i ⟨hi, hi1, hi2⟩
 have h3 : i = 0 ∨ i = 1 ∨ i = 2 := by omega
 rcases h3 with rfl | rfl | rfl
 ·skip
  conv=>whnf
  repeat' (first
   | (refine AIn.mk' 0 rfl (show 0 < 2 by decide) ?_; conv=>whnf)
   | (refine ARd.at rfl ?_; conv=>whnf))
  apply vif_split <;> intro h
  ·have d : a < 0 := by simpa using h
   rw [hno (by omega)]
   conv=>whnf
   exact aret [] (by trivial)
  have d1 : ¬ a < 0 := by simpa using h
  conv=>whnf
  repeat' (first
   | (refine AIn.mk' 0 rfl (show 0 < 2 by decide) ?_; conv=>whnf)
   | (refine ARd.at rfl ?_; conv=>whnf))
  apply vif_split <;> intro h
  ·have d : 512 < a := by simpa using h
   rw [hno (by omega)]
   conv=>whnf
   exact aret [] (by trivial)
  have d2 : ¬ 512 < a := by simpa using h
  conv=>whnf
  repeat' (first
   | (refine AIn.mk' 0 rfl (show 0 < 2 by decide) ?_; conv=>whnf)
   | (refine ARd.at rfl ?_; conv=>whnf))
  apply vif_split <;> intro h
  ·have d : c < 1 := by simpa using h
   rw [hno (by omega)]
   conv=>whnf
   exact aret [] (by trivial)
  have d3 : ¬ c < 1 := by simpa using h
  conv=>whnf
  repeat' (first
   | (refine AIn.mk' 0 rfl (show 0 < 2 by decide) ?_; conv=>whnf)
   | (refine ARd.at rfl ?_; conv=>whnf))
  apply vif_split <;> intro h
  ·have d : 10000 < c := by simpa using h
   rw [hno (by omega)]
   conv=>whnf
   exact aret [] (by trivial)
  have d4 : ¬ 10000 < c := by simpa using h
  conv=>whnf
  refine AAr.i64 (by decide) ?_
  conv=>whnf
  exact aback 1 [] [] rfl (by decide) ⟨by decide, fun _ => by omega, fun h => by omega⟩ (by trivial) (by trivial)
 ·have hi1 := hi1 (Nat.le_refl _)
  conv=>whnf
  repeat' (first
   | (refine AIn.mk' 1 rfl (show 1 < 2 by decide) ?_; conv=>whnf)
   | (refine ARd.at rfl ?_; conv=>whnf))
  apply vif_split <;> intro h
  ·have d : b < 0 := by simpa using h
   rw [hno (by omega)]
   conv=>whnf
   exact aret [] (by trivial)
  have d1 : ¬ b < 0 := by simpa using h
  conv=>whnf
  repeat' (first
   | (refine AIn.mk' 1 rfl (show 1 < 2 by decide) ?_; conv=>whnf)
   | (refine ARd.at rfl ?_; conv=>whnf))
  apply vif_split <;> intro h
  ·have d : 512 < b := by simpa using h
   rw [hno (by omega)]
   conv=>whnf
   exact aret [] (by trivial)
  have d2 : ¬ 512 < b := by simpa using h
  conv=>whnf
  repeat' (first
   | (refine AIn.mk' 1 rfl (show 1 < 2 by decide) ?_; conv=>whnf)
   | (refine ARd.at rfl ?_; conv=>whnf))
  apply vif_split <;> intro h
  ·have d : t < 1 := by simpa using h
   rw [hno (by omega)]
   conv=>whnf
   exact aret [] (by trivial)
  have d3 : ¬ t < 1 := by simpa using h
  conv=>whnf
  repeat' (first
   | (refine AIn.mk' 1 rfl (show 1 < 2 by decide) ?_; conv=>whnf)
   | (refine ARd.at rfl ?_; conv=>whnf))
  apply vif_split <;> intro h
  ·have d : 10000 < t := by simpa using h
   rw [hno (by omega)]
   conv=>whnf
   exact aret [] (by trivial)
  have d4 : ¬ 10000 < t := by simpa using h
  conv=>whnf
  refine AAr.i64 (by decide) ?_
  conv=>whnf
  exact aback 2 [] [] rfl (by decide) ⟨by decide, fun _ => hi1, fun h => by omega⟩ (by trivial) (by trivial)
 ·have hi1 := hi1 (by decide)
  have hi2 := hi2 (by decide)
  rw [hyes (by omega)]
  conv=>whnf
  exact aret [] (by trivial)
theorem stepA (w a b c t arm : Int) : AFn Tryz.prog G 68 [iv w, li2 a b, li2 c t, iv arm] 0 [] (Is (.tup [iv (stpW w a b c t arm), li2 (stpC w a b c t arm).1 (stpC w a b c t arm).2])) := by
 obtain ⟨W, hW⟩ : ∃ W, W = stpW w a b c t arm := ⟨_, rfl⟩
 obtain ⟨C, hC⟩ : ∃ C, C = stpC w a b c t arm := ⟨_, rfl⟩
 rw [← hW, ← hC]
 refine afn_of Tryz.func68 rfl mixed (by kernel_rfl) ?_
 conv=>whnf
 (refine acallF [] (by kernel_rfl) (clone2A a b) ?_ ?_; (focus trivial))
 rintro _ _ _ ⟨rfl, rfl, rfl⟩
 conv=>whnf
 (refine acall [] (by kernel_rfl) (bvalidA w a b c t arm) rfl ?_ ?_; (focus trivial))
 conv=>whnf
 apply vif_split <;> intro h
 ·have hn : ¬ okB w a b c t arm := by simpa using h
  unfold stpW at hW
  unfold stpC at hC
  rw [if_neg hn] at hW hC
  subst hW; subst hC
  conv=>whnf
  exact aend _ 0 [] [] [0] ⟨rfl, rfl, rfl⟩ rfl trivial (by trivial)
 have hok : okB w a b c t arm := by simpa using h
 have hok2 := hok
 obtain ⟨h1, h2, h3, h4, h5, h6⟩ := hok2
 unfold okW at h4 h5
 conv=>whnf
 refine aloop ws68_1 1 [11, 12, 32] (fun x : K2 => [(11, iv x.a), (12, iv x.b), (32, iv x.j)]) (fun _ => [(0, .rows 3 1 [[.v (.int .i64 a)], [.v (.int .i64 b)]])]) (K2I a b c t) (fun x => 2 - x.j) [] [] ⟨0, 0, 0⟩ (by kernel_rfl) (fun _ => rfl) rfl (.inl rfl) (by trivial) (by trivial) ?_
 rintro x (rfl | rfl | rfl)
 ·conv=>whnf
  refine AIn.mk' 0 rfl (show 0 < 2 by decide) ?_
  conv=>whnf
  refine ARd.at rfl ?_
  conv=>whnf
  (refine adraw pln68 [] (by kernel_rfl) ?_; conv=>whnf)
  repeat' (first
   | (refine And.intro ?_ ?_ <;> (conv=>whnf))
   | (refine AIn.mk' 0 rfl (show 0 < 2 by decide) ?_; conv=>whnf)
   | (refine ARd.at rfl ?_; conv=>whnf)
   | (refine AAr.i64 (by (try dsimp only); omega) ?_; conv=>whnf))
  exact aback ⟨1, a, c⟩ [] [] rfl (by show 2 - (0 + 1) < 2 - 0; decide) (by unfold K2I; simp) (by trivial) ⟨ciZ (Int.zero_add a), ciZ (Int.zero_add c), rfl, trivial⟩
 ·conv=>whnf
  refine AIn.mk' 1 rfl (show 1 < 2 by decide) ?_
  conv=>whnf
  refine ARd.at rfl ?_
  conv=>whnf
  (refine adraw pln68 [] (by kernel_rfl) ?_; conv=>whnf)
  repeat' (first
   | (refine And.intro ?_ ?_ <;> (conv=>whnf))
   | (refine AIn.mk' 1 rfl (show 1 < 2 by decide) ?_; conv=>whnf)
   | (refine ARd.at rfl ?_; conv=>whnf)
   | (refine AAr.i64 (by (try dsimp only); omega) ?_; conv=>whnf))
  exact aback ⟨2, a + b, c + t⟩ [] [] rfl (by show 2 - (1 + 1) < 2 - 1; decide) (by unfold K2I; simp) (by trivial) ⟨rfl, rfl, rfl, trivial⟩
 rcases h6 with rfl | rfl
 ·have hnum := mulR (a := a + 1) (b := c + t) (A := 513) (B := 20000) (by omega) (by omega) (by omega) (by omega)
  have hden := mulR (a := a + b + 2) (b := c) (A := 1026) (B := 10000) (by omega) (by omega) (by omega) (by omega)
  have hden1 : 1 ≤ (a + b + 2) * c := by
   have := Int.mul_le_mul_of_nonneg_left (show (1 : Int) ≤ c by omega) (show (0 : Int) ≤ a + b + 2 by omega)
   omega
  have hW2 : stpW w a b c t 1 = grw w ((a + 1) * (c + t)) ((a + b + 2) * c) := by unfold stpW; rw [if_pos hok]; rfl
  have hC2 : C = (a + 1, b) := by rw [hC]; unfold stpC; rw [if_pos hok]; rfl
  subst hC2
  rw [hW2] at hW
  unfold grw at hW
  rw [if_neg (by omega)] at hW
  obtain ⟨M, hM⟩ : ∃ M : Nat, (a + 1) * (c + t) = M := ⟨((a + 1) * (c + t)).toNat, by omega⟩
  obtain ⟨D, hD⟩ : ∃ D : Nat, (a + b + 2) * c = D := ⟨((a + b + 2) * c).toNat, by omega⟩
  rw [hM, hD] at hW
  rw [hM] at hnum
  rw [hD] at hden hden1
  clear hok hC h hW2
  obtain ⟨U, rfl⟩ : ∃ U : Nat, w = U := ⟨w.toNat, by omega⟩
  simp only [Int.toNat_natCast] at hW
  conv=>whnf
  refine AAr.to (y := a + b + 2) (show IntKind.i64.wrap (a + b + 2) = a + b + 2 from IntWalk.i64_in _ (by omega)) ?_
  conv=>whnf
  refine AAr.i64 (by decide) ?_
  conv=>whnf
  repeat' (first
   | (refine AIn.mk' 0 rfl (show 0 < 2 by decide) ?_; conv=>whnf)
   | (refine ARd.at rfl ?_; conv=>whnf))
  refine AAr.to (y := (D : Int)) (by rw [hD]; exact IntWalk.i64_in _ (by omega)) ?_
  conv=>whnf
  refine AAr.to (y := (D : Int)) (wr_u64 (n := D) (by omega)) ?_
  conv=>whnf
  refine AAr.to (y := (U : Int)) (wr_u64 (n := U) (by omega)) ?_
  conv=>whnf
  refine AAr.i64 (by decide) ?_
  conv=>whnf
  repeat' (first
   | (refine AIn.mk' 0 rfl (show 0 < 2 by decide) ?_; conv=>whnf)
   | (refine ARd.at rfl ?_; conv=>whnf))
  refine AAr.i64 (by omega) ?_
  conv=>whnf
  refine AAr.to (y := (M : Int)) (show IntKind.i64.wrap ((a + 1) * (c + t)) = M by rw [hM]; exact IntWalk.i64_in _ (by omega)) ?_
  conv=>whnf
  refine AAr.to (y := (M : Int)) (wr_u64 (n := M) (by omega)) ?_
  conv=>whnf
  (refine acall [] (by kernel_rfl) (mul64A U M (by omega) (by omega)) rfl ?_ ?_; (focus trivial))
  have hlo : U * M % 18446744073709551616 < 18446744073709551616 := Nat.mod_lt _ (by decide)
  generalize U * M / 18446744073709551616 = hi at *
  generalize U * M % 18446744073709551616 = lo at *
  conv=>whnf
  refine AAr.i64 (by decide) ?_
  conv=>whnf
  repeat' (first
   | (refine AIn.mk' 0 rfl (show 0 < 2 by decide) ?_; conv=>whnf)
   | (refine ARd.at rfl ?_; conv=>whnf))
  refine AAr.i64 (by omega) ?_
  conv=>whnf
  repeat' (first
   | (refine AIn.mk' 0 rfl (show 0 < 2 by decide) ?_; conv=>whnf)
   | (refine ARd.at rfl ?_; conv=>whnf))
  apply vif_split <;> intro h
  ·have hc : D ≤ hi := by simpa using h
   rw [if_pos hc] at hW
   conv=>whnf
   exact aend _ 0 [] [] [0] ⟨rfl, rfl, rfl⟩ rfl trivial ⟨ciZ hW.symm, ⟨rfl, rfl, rfl⟩, trivial⟩
  have hc : ¬ D ≤ hi := by simpa using h
  rw [if_neg hc] at hW
  conv=>whnf
  (refine acall [] (by kernel_rfl) (div64A hi lo D (by omega) hlo (by omega)) rfl ?_ ?_; (focus trivial))
  generalize divQ hi lo D = q at *
  conv=>whnf
  refine AAr.i64 (by omega) ?_
  conv=>whnf
  exact aend _ 0 [] [] [0] ⟨rfl, rfl, rfl⟩ rfl trivial ⟨ciZ (by rw [hW]; omega), ⟨rfl, rfl, rfl⟩, trivial⟩
 ·have hnum := mulR (a := b + 1) (b := c + t) (A := 513) (B := 20000) (by omega) (by omega) (by omega) (by omega)
  have hden := mulR (a := a + b + 2) (b := t) (A := 1026) (B := 10000) (by omega) (by omega) (by omega) (by omega)
  have hden1 : 1 ≤ (a + b + 2) * t := by
   have := Int.mul_le_mul_of_nonneg_left (show (1 : Int) ≤ t by omega) (show (0 : Int) ≤ a + b + 2 by omega)
   omega
  have hW2 : stpW w a b c t 2 = grw w ((b + 1) * (c + t)) ((a + b + 2) * t) := by unfold stpW; rw [if_pos hok]; rfl
  have hC2 : C = (a, b + 1) := by rw [hC]; unfold stpC; rw [if_pos hok]; rfl
  subst hC2
  rw [hW2] at hW
  unfold grw at hW
  rw [if_neg (by omega)] at hW
  obtain ⟨M, hM⟩ : ∃ M : Nat, (b + 1) * (c + t) = M := ⟨((b + 1) * (c + t)).toNat, by omega⟩
  obtain ⟨D, hD⟩ : ∃ D : Nat, (a + b + 2) * t = D := ⟨((a + b + 2) * t).toNat, by omega⟩
  rw [hM, hD] at hW
  rw [hM] at hnum
  rw [hD] at hden hden1
  clear hok hC h hW2
  obtain ⟨U, rfl⟩ : ∃ U : Nat, w = U := ⟨w.toNat, by omega⟩
  simp only [Int.toNat_natCast] at hW
  conv=>whnf
  refine AAr.to (y := a + b + 2) (show IntKind.i64.wrap (a + b + 2) = a + b + 2 from IntWalk.i64_in _ (by omega)) ?_
  conv=>whnf
  refine AAr.i64 (by decide) ?_
  conv=>whnf
  repeat' (first
   | (refine AIn.mk' 1 rfl (show 1 < 2 by decide) ?_; conv=>whnf)
   | (refine ARd.at rfl ?_; conv=>whnf))
  refine AAr.to (y := (D : Int)) (by rw [hD]; exact IntWalk.i64_in _ (by omega)) ?_
  conv=>whnf
  refine AAr.to (y := (D : Int)) (wr_u64 (n := D) (by omega)) ?_
  conv=>whnf
  refine AAr.to (y := (U : Int)) (wr_u64 (n := U) (by omega)) ?_
  conv=>whnf
  refine AAr.i64 (by decide) ?_
  conv=>whnf
  repeat' (first
   | (refine AIn.mk' 1 rfl (show 1 < 2 by decide) ?_; conv=>whnf)
   | (refine ARd.at rfl ?_; conv=>whnf))
  refine AAr.i64 (by omega) ?_
  conv=>whnf
  refine AAr.to (y := (M : Int)) (show IntKind.i64.wrap ((b + 1) * (c + t)) = M by rw [hM]; exact IntWalk.i64_in _ (by omega)) ?_
  conv=>whnf
  refine AAr.to (y := (M : Int)) (wr_u64 (n := M) (by omega)) ?_
  conv=>whnf
  (refine acall [] (by kernel_rfl) (mul64A U M (by omega) (by omega)) rfl ?_ ?_; (focus trivial))
  have hlo : U * M % 18446744073709551616 < 18446744073709551616 := Nat.mod_lt _ (by decide)
  generalize U * M / 18446744073709551616 = hi at *
  generalize U * M % 18446744073709551616 = lo at *
  conv=>whnf
  refine AAr.i64 (by decide) ?_
  conv=>whnf
  repeat' (first
   | (refine AIn.mk' 1 rfl (show 1 < 2 by decide) ?_; conv=>whnf)
   | (refine ARd.at rfl ?_; conv=>whnf))
  refine AAr.i64 (by omega) ?_
  conv=>whnf
  repeat' (first
   | (refine AIn.mk' 1 rfl (show 1 < 2 by decide) ?_; conv=>whnf)
   | (refine ARd.at rfl ?_; conv=>whnf))
  apply vif_split <;> intro h
  ·have hc : D ≤ hi := by simpa using h
   rw [if_pos hc] at hW
   conv=>whnf
   exact aend _ 0 [] [] [0] ⟨rfl, rfl, rfl⟩ rfl trivial ⟨ciZ hW.symm, ⟨rfl, rfl, rfl⟩, trivial⟩
  have hc : ¬ D ≤ hi := by simpa using h
  rw [if_neg hc] at hW
  conv=>whnf
  (refine acall [] (by kernel_rfl) (div64A hi lo D (by omega) hlo (by omega)) rfl ?_ ?_; (focus trivial))
  generalize divQ hi lo D = q at *
  conv=>whnf
  refine AAr.i64 (by omega) ?_
  conv=>whnf
  exact aend _ 0 [] [] [0] ⟨rfl, rfl, rfl⟩ rfl trivial ⟨ciZ (by rw [hW]; omega), ⟨rfl, rfl, rfl⟩, trivial⟩
theorem step2A (w a b c t arm : Int) : AFn Tryz.prog G 81 [iv w, li2 a b, li2 c t, iv arm] 0 [] (Is (.tup [iv (stpW w a b c t arm), li2 (stpC w a b c t arm).1 (stpC w a b c t arm).2])) := by
 obtain ⟨W, hW⟩ : ∃ W, W = stpW w a b c t arm := ⟨_, rfl⟩
 obtain ⟨C, hC⟩ : ∃ C, C = stpC w a b c t arm := ⟨_, rfl⟩
 rw [← hW, ← hC]
 refine afn_of Tryz.func81 rfl mixed (by kernel_rfl) ?_
 conv=>whnf
 refine VReq.mk (app_int (n := 2) (by decide)) ?_
 conv=>whnf
 (refine acall [] (by kernel_rfl) (bvalid2A w a b c t arm) rfl ?_ ?_; (focus trivial))
 conv=>whnf
 apply vif_split <;> intro h
 ·have hn : ¬ okB w a b c t arm := by simpa using h
  unfold stpW at hW
  unfold stpC at hC
  rw [if_neg hn] at hW hC
  subst hW; subst hC
  conv=>whnf
  exact aend _ 0 [] [] [1] ⟨rfl, rfl, rfl⟩ rfl trivial (by trivial)
 have hok : okB w a b c t arm := by simpa using h
 have hok2 := hok
 obtain ⟨h1, h2, h3, h4, h5, h6⟩ := hok2
 unfold okW at h4 h5
 conv=>whnf
 refine aloop ws81_1 2 [11, 12, 13] (fun x : K2 => [(11, iv x.a), (12, iv x.b), (13, iv x.j)]) (fun _ => [(1, .rows 3 1 [[.v (.int .i64 a)], [.v (.int .i64 b)]])]) (K2I a b c t) (fun x => 2 - x.j) [] [] ⟨0, 0, 0⟩ (by kernel_rfl) (fun _ => rfl) rfl (.inl rfl) (by trivial) (by trivial) ?_
 rintro x (rfl | rfl | rfl)
 ·conv=>whnf
  (refine adraw pln81 [] (by kernel_rfl) ?_; conv=>whnf)
  repeat' (first
   | (refine And.intro ?_ ?_ <;> (conv=>whnf))
   | (refine AIn.mk' 0 rfl (show 0 < 2 by decide) ?_; conv=>whnf)
   | (refine ARd.at rfl ?_; conv=>whnf)
   | (refine AAr.i64 (by (try dsimp only); omega) ?_; conv=>whnf))
  exact aback ⟨1, a, c⟩ [] [] rfl (by show 2 - (0 + 1) < 2 - 0; decide) (by unfold K2I; simp) (by trivial) ⟨ciZ (Int.zero_add a), ciZ (Int.zero_add c), rfl, trivial⟩
 ·conv=>whnf
  (refine adraw pln81 [] (by kernel_rfl) ?_; conv=>whnf)
  repeat' (first
   | (refine And.intro ?_ ?_ <;> (conv=>whnf))
   | (refine AIn.mk' 1 rfl (show 1 < 2 by decide) ?_; conv=>whnf)
   | (refine ARd.at rfl ?_; conv=>whnf)
   | (refine AAr.i64 (by (try dsimp only); omega) ?_; conv=>whnf))
  exact aback ⟨2, a + b, c + t⟩ [] [] rfl (by show 2 - (1 + 1) < 2 - 1; decide) (by unfold K2I; simp) (by trivial) ⟨rfl, rfl, rfl, trivial⟩
 rcases h6 with rfl | rfl
 ·have hnum := mulR (a := a + 1) (b := c + t) (A := 513) (B := 20000) (by omega) (by omega) (by omega) (by omega)
  have hden := mulR (a := a + b + 2) (b := c) (A := 1026) (B := 10000) (by omega) (by omega) (by omega) (by omega)
  have hW2 : stpW w a b c t 1 = grw w ((a + 1) * (c + t)) ((a + b + 2) * c) := by unfold stpW; rw [if_pos hok]; rfl
  have hC2 : C = (a + 1, b) := by rw [hC]; unfold stpC; rw [if_pos hok]; rfl
  subst hC2
  rw [hW2] at hW
  obtain ⟨M, hM⟩ : ∃ M : Int, M = (a + 1) * (c + t) := ⟨_, rfl⟩
  obtain ⟨D, hD⟩ : ∃ D : Int, D = (a + b + 2) * c := ⟨_, rfl⟩
  rw [← hM, ← hD] at hW
  rw [← hM] at hnum
  rw [← hD] at hden
  clear hok hC h hW2
  conv=>whnf
  refine AAr.i64 (by decide) ?_
  conv=>whnf
  repeat' (first
   | (refine AIn.mk' 0 rfl (show 0 < 2 by decide) ?_; conv=>whnf)
   | (refine ARd.at rfl ?_; conv=>whnf))
  refine AAr.i64 (by omega) ?_
  conv=>whnf
  repeat' (first
   | (refine AIn.mk' 0 rfl (show 0 < 2 by decide) ?_; conv=>whnf)
   | (refine ARd.at rfl ?_; conv=>whnf))
  (refine adraw pln81 [] (by kernel_rfl) ?_; conv=>whnf)
  repeat' (first
   | (refine And.intro ?_ ?_ <;> (conv=>whnf))
   | (refine AIn.mk' 0 rfl (show 0 < 2 by decide) ?_; conv=>whnf)
   | (refine ARd.at rfl ?_; conv=>whnf)
   | (refine AAr.to (y := a + b + 2) (show IntKind.i64.wrap (a + b + 2) = a + b + 2 from IntWalk.i64_in _ (by omega)) ?_; conv=>whnf)
   | (refine AAr.to (y := M) (show IntKind.i64.wrap ((a + 1) * (c + t)) = M by rw [← hM]; exact IntWalk.i64_in _ (by omega)) ?_; conv=>whnf)
   | (refine AAr.to (y := D) (show IntKind.i64.wrap ((a + b + 2) * c) = D by rw [← hD]; exact IntWalk.i64_in _ (by omega)) ?_; conv=>whnf)
   | (refine AAr.to (y := a + 1) (show IntKind.i64.wrap (a + 1) = a + 1 from IntWalk.i64_in _ (by omega)) ?_; conv=>whnf)
   | (refine AAr.i64 (by decide) ?_; conv=>whnf))
  (refine acall [] (by kernel_rfl) (grow2A w M D ⟨by omega, by omega⟩) rfl ?_ ?_; (focus trivial))
  rw [← hW]
  conv=>whnf
  exact aend _ 0 [] [] [1] ⟨rfl, rfl, rfl⟩ rfl trivial (by trivial)
 ·have hnum := mulR (a := b + 1) (b := c + t) (A := 513) (B := 20000) (by omega) (by omega) (by omega) (by omega)
  have hden := mulR (a := a + b + 2) (b := t) (A := 1026) (B := 10000) (by omega) (by omega) (by omega) (by omega)
  have hW2 : stpW w a b c t 2 = grw w ((b + 1) * (c + t)) ((a + b + 2) * t) := by unfold stpW; rw [if_pos hok]; rfl
  have hC2 : C = (a, b + 1) := by rw [hC]; unfold stpC; rw [if_pos hok]; rfl
  subst hC2
  rw [hW2] at hW
  obtain ⟨M, hM⟩ : ∃ M : Int, M = (b + 1) * (c + t) := ⟨_, rfl⟩
  obtain ⟨D, hD⟩ : ∃ D : Int, D = (a + b + 2) * t := ⟨_, rfl⟩
  rw [← hM, ← hD] at hW
  rw [← hM] at hnum
  rw [← hD] at hden
  clear hok hC h hW2
  conv=>whnf
  refine AAr.i64 (by decide) ?_
  conv=>whnf
  repeat' (first
   | (refine AIn.mk' 1 rfl (show 1 < 2 by decide) ?_; conv=>whnf)
   | (refine ARd.at rfl ?_; conv=>whnf))
  refine AAr.i64 (by omega) ?_
  conv=>whnf
  repeat' (first
   | (refine AIn.mk' 1 rfl (show 1 < 2 by decide) ?_; conv=>whnf)
   | (refine ARd.at rfl ?_; conv=>whnf))
  (refine adraw pln81 [] (by kernel_rfl) ?_; conv=>whnf)
  repeat' (first
   | (refine And.intro ?_ ?_ <;> (conv=>whnf))
   | (refine AIn.mk' 1 rfl (show 1 < 2 by decide) ?_; conv=>whnf)
   | (refine ARd.at rfl ?_; conv=>whnf)
   | (refine AAr.to (y := a + b + 2) (show IntKind.i64.wrap (a + b + 2) = a + b + 2 from IntWalk.i64_in _ (by omega)) ?_; conv=>whnf)
   | (refine AAr.to (y := M) (show IntKind.i64.wrap ((b + 1) * (c + t)) = M by rw [← hM]; exact IntWalk.i64_in _ (by omega)) ?_; conv=>whnf)
   | (refine AAr.to (y := D) (show IntKind.i64.wrap ((a + b + 2) * t) = D by rw [← hD]; exact IntWalk.i64_in _ (by omega)) ?_; conv=>whnf)
   | (refine AAr.to (y := b + 1) (show IntKind.i64.wrap (b + 1) = b + 1 from IntWalk.i64_in _ (by omega)) ?_; conv=>whnf)
   | (refine AAr.i64 (by decide) ?_; conv=>whnf))
  (refine acall [] (by kernel_rfl) (grow2A w M D ⟨by omega, by omega⟩) rfl ?_ ?_; (focus trivial))
  rw [← hW]
  conv=>whnf
  exact aend _ 0 [] [] [1] ⟨rfl, rfl, rfl⟩ rfl trivial (by trivial)
end
end
end Go.Proofs.YtgfgndaoocfpdaaGreatDoor.Cl
