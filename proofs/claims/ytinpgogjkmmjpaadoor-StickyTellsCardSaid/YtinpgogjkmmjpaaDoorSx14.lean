/- The walks of the laws' helpers: awake, reach, applies. Condition: as Sx1's. -/
import Derived.Test.YtinpgogjkmmjpaaDoorPl5
set_option linter.unusedVariables false
set_option linter.unusedSimpArgs false
namespace Go.Proofs.YtinpgogjkmmjpaaDoor.Sx
open Go Go.RowKit Go.Proofs.YtinpgogjkmmjpaaDoor.Vc Go.Proofs.YtinpgogjkmmjpaaDoor.Ax Go.Proofs.YtinpgogjkmmjpaaDoor.Ky Go.Proofs.YtinpgogjkmmjpaaDoor.Id Go.Proofs.YtinpgogjkmmjpaaDoor.Sp

def exA : ByteArray := ⟨#[97]⟩
def exHome : ByteArray := ⟨#[104, 111, 109, 101]⟩
def exBlue : ByteArray := ⟨#[98, 108, 117, 101]⟩
def exGreen : ByteArray := ⟨#[103, 114, 101, 101, 110]⟩
def exS : Sl := ⟨exA, exHome, exBlue, 1, 1, 0, 0⟩
def exR : Rg := ⟨1, [], [exS]⟩
theorem aw1 : asgR (readyE (validB rg0) rg0 1) (keyB exA && keyB exHome) (false || !keyB exBlue || decide ((1 : Int) < 1 ∨ (8 : Int) < 1)) rg0 exA exHome exBlue 1 0 1 = (exR, exS, 0) := by kernel_rfl
theorem aw2 : asgR (readyE (validB exR) exR 2) (keyB exA && keyB exHome) (false || !keyB exGreen || decide ((2 : Int) < 1 ∨ (8 : Int) < 2)) exR exA exHome exGreen 2 0 2 = (⟨2, [], [exS]⟩, exS, 0) := by kernel_rfl
theorem aw3 : validB exR = true := by kernel_rfl
theorem awS : Fit exR := ((valid_iff exR).1 aw3).fit
set_option maxHeartbeats 4000000 in
set_option maxRecDepth 100000 in
theorem awakeA : AFn Tryd.prog GS 13 [] 0 [] (Is (bv true)) := by
  have h1 := assign1A rg0 exA exHome exBlue 0 1 0 1 false (by decide) (by decide) (by decide) good_nil.fit.s good_nil.fit.len
  have h2 := assign1A exR exA exHome exGreen 0 2 0 2 false (by decide) (by decide) (by decide) awS.s awS.len
  have h3 := valid1A exR awS.s
  unfold asgE at h1 h2
  rw [aw1] at h1
  rw [aw2] at h2
  rw [aw3] at h3
  refine afn_of Tryd.func13 rfl mixed (by kernel_rfl) ?_
  conv => whnf
  (refine acallF [] (by kernel_rfl) (h1) ?_ ?_; (focus ((repeat' (first | rfl | trivial | apply And.intro)); done)); rintro _ _ _ ⟨rfl, rfl, rfl⟩; (conv => whnf))
  (refine acallF [] (by kernel_rfl) (h2) ?_ ?_; (focus ((repeat' (first | rfl | trivial | apply And.intro)); done)); rintro _ _ _ ⟨rfl, rfl, rfl⟩; (conv => whnf))
  (repeat' (first | (refine And.intro ?_ ?_ <;> (conv => whnf)) | (refine vif_split (fun h => ?_) (fun h => ?_) <;> (try simp only [sEqD, cond_true, cond_false, Bool.not_eq_true', Bool.not_eq_false', decide_eq_true_eq, decide_eq_false_iff_not, beq_iff_eq, bne_iff_ne, beq_eq_false_iff_ne, bne_eq_false_iff_eq, ne_eq, Bool.not_eq_eq_eq_not, Bool.not_true, Bool.not_false, Bool.false_eq_true, Bool.true_eq_false, Decidable.not_not, gt_iff_lt, ge_iff_le, Int.not_lt, Int.not_le] at h) <;> (conv => whnf)) | (refine AAr.i64 (by first | omega | ((try simp only [List.length_map] at *); omega)) ?_; conv => whnf) | (refine AIn.mk' _ rfl (by first | omega | (simp only [List.length_map, List.length_append, List.length_cons, List.length_nil, List.length_take, List.length_drop, List.length_set, List.length_replicate]; omega) | (simp only [List.length_map, List.length_append, List.length_cons, List.length_nil, List.length_take, List.length_drop, List.length_set, List.length_replicate] at *; omega)) ?_; conv => whnf) | (refine ARd.mapAt (by assumption) ?_; conv => whnf) | (refine ARd.set (by (try simp only [List.length_map, List.length_append, List.length_cons, List.length_nil, List.length_take, List.length_drop, List.length_set, List.length_replicate] at *); omega) ?_; conv => whnf) | (refine ARd.map (by first | omega | (simp only [List.length_map] at *; omega)) ?_; conv => whnf) | (refine VReq.mk (by first | decide | omega) ?_; conv => whnf) | (refine AEq.mk (by kernel_rfl) rfl rfl ?_; conv => whnf) | (refine VReq.mk (app_ok (by (try simp only [List.length_map, List.length_append, List.length_cons, List.length_nil, List.length_take, List.length_drop, List.length_set, List.length_replicate] at *); omega) (by kernel_rfl)) ?_; conv => whnf)))
  rotate_left 1
  · exfalso; simp at h
  (refine acall [] (by kernel_rfl) (h3) rfl ?_ ?_; (focus (repeat' (first | rfl | trivial | apply And.intro))))
  conv => whnf
  exact aret [] (by repeat' (first | rfl | trivial | apply And.intro))

theorem take_lt {α : Type} {l : List α} {k : Nat} (h : k < l.length) : l.take (k + 1) = l.take k ++ [l[k]] := List.take_succ_eq_append_getElem h
abbrev rgB (r : Rg) : ABlk := .var 27 [iv r.now, lksA r.links, slsA r.slots]
set_option maxHeartbeats 4000000 in
set_option maxRecDepth 100000 in
theorem reachA (l : List Chg) (hl : l.length ≤ 1000) (hok : ∀ x ∈ l, x.ok) : AFn Tryd.prog GS 18 [chsA l] 0 [] (Is (rgA (reachR l))) := by
  refine afn_of Tryd.func18 rfl mixed (by kernel_rfl) ?_
  conv => whnf
  refine aloopS ws18_1 [4] (fun k : Nat => [(4, iv k)]) 1 (fun k => rgB (reachR (l.take k))) (fun k => k ≤ l.length) (fun k => l.length - k) 0 (by kernel_rfl) (fun _ => rfl) (by kernel_rfl) (Nat.zero_le _) (by repeat' (first | rfl | trivial | apply And.intro)) (by repeat' (first | rfl | trivial | apply And.intro)) ?_
  rintro k hk
  have hR := reach_rch (l.take k)
  conv => whnf
  refine vif_split (fun hlt => ?_) (fun hge => ?_)
  · have hlt : k < l.length := by simpa using hlt
    have hnx : reachR (l.take (k + 1)) = next l[k] (reachR (l.take k)) := by rw [take_lt hlt, reachR_snoc]
    obtain ⟨r, hr⟩ : ∃ r, r = reachR (l.take k) := ⟨_, rfl⟩
    have hp := play1A l[k] r (hok _ (List.getElem_mem hlt)) (by rw [hr]; exact hR.good.fit)
    rw [← hr] at hR hnx ⊢
    unfold next at hnx
    obtain ⟨t, ht⟩ : ∃ t, t = playR l[k] r := ⟨_, rfl⟩
    rw [← ht] at hp hnx
    obtain ⟨⟨n1, l1, s1⟩, ss, m, e⟩ := t
    conv => whnf
    (refine adraw pln18 [] (by kernel_rfl) ?_; conv => whnf)
    repeat' (first
      | (refine And.intro ?_ ?_ <;> (conv => whnf))
      | (refine AIn.mk' k rfl (by rw [List.length_map]; exact hlt) ?_; conv => whnf)
      | (refine ARd.map hlt ?_; conv => whnf)
      | (refine acallF [] (by kernel_rfl) (hp) ?_ ?_; (focus ((repeat' (first | rfl | trivial | apply And.intro)); done)); rintro _ _ _ ⟨rfl, rfl, rfl⟩; (conv => whnf)))
    all_goals (refine vif_split (fun he => ?_) (fun he => ?_) <;> (conv => whnf))
    all_goals (refine AAr.i64 (by omega) ?_; conv => whnf)
    all_goals (refine aback (k + 1) [] [] rfl (by show l.length - (k + 1) < l.length - k; omega) hlt ?_ (by repeat' (first | rfl | trivial | apply And.intro)))
    all_goals (rw [hnx]; first | rw [if_pos (by simpa using he)] | rw [if_neg (by simpa using he)])
    all_goals exact (by repeat' (first | rfl | trivial | apply And.intro))
  · have : k = l.length := by simp at hge; omega
    subst this
    rw [List.take_length]
    conv => whnf
    exact aret [] (by repeat' (first | rfl | trivial | apply And.intro))

set_option maxHeartbeats 4000000 in
set_option maxRecDepth 100000 in
theorem playsA (l : List Chg) (hok : ∀ x ∈ l, x.ok) : AFn Tryd.prog GS 3 [chsA l] 0 [] (Is (bv true)) := by
  refine afn_of Tryd.func3 rfl mixed (by kernel_rfl) ?_
  conv => whnf
  (refine acall [] (by kernel_rfl) (awakeA) rfl ?_ ?_; (focus ((repeat' (first | rfl | trivial | apply And.intro)); done)); (conv => whnf))
  (refine vif_split (fun h => ?_) (fun h => ?_) <;> (try simp only [sEqD, cond_true, cond_false, Bool.not_eq_true', Bool.not_eq_false', decide_eq_true_eq, decide_eq_false_iff_not, beq_iff_eq, bne_iff_ne, beq_eq_false_iff_ne, bne_eq_false_iff_eq, ne_eq, Bool.not_eq_eq_eq_not, Bool.not_true, Bool.not_false, Bool.false_eq_true, Bool.true_eq_false, Decidable.not_not, gt_iff_lt, ge_iff_le, Int.not_lt, Int.not_le] at h) <;> (conv => whnf))
  · exact aret [] (by repeat' (first | rfl | trivial | apply And.intro))
  have hl : l.length ≤ 60 := by simp only [List.length_map] at h; omega
  refine aloopS ws3_1 [4] (fun k : Nat => [(4, iv k)]) 0 (fun k => rgB (reachR (l.take k))) (fun k => k ≤ l.length) (fun k => l.length - k) 0 (by kernel_rfl) (fun _ => rfl) (by kernel_rfl) (Nat.zero_le _) (by repeat' (first | rfl | trivial | apply And.intro)) (by repeat' (first | rfl | trivial | apply And.intro)) ?_
  rintro k hk
  have hR := reach_rch (l.take k)
  conv => whnf
  refine vif_split (fun hlt => ?_) (fun hge => ?_)
  · have hlt : k < l.length := by simpa using hlt
    have hnx : reachR (l.take (k + 1)) = next l[k] (reachR (l.take k)) := by rw [take_lt hlt, reachR_snoc]
    obtain ⟨r, hr⟩ : ∃ r, r = reachR (l.take k) := ⟨_, rfl⟩
    have hp := play1A l[k] r (hok _ (List.getElem_mem hlt)) (by rw [hr]; exact hR.good.fit)
    have hq := play2A l[k] r (hok _ (List.getElem_mem hlt)) (by rw [hr]; exact hR.good.fit)
    rw [← hr] at hR hnx ⊢
    have hsm := play_small l[k] hR.good
    unfold next at hnx
    obtain ⟨t, ht⟩ : ∃ t, t = playR l[k] r := ⟨_, rfl⟩
    rw [← ht] at hp hq hnx hsm
    obtain ⟨⟨n1, l1, s1⟩, ss, m, e⟩ := t
    simp only at hsm
    have hsr := sameRA ⟨n1, l1, s1⟩ ⟨n1, l1, s1⟩ (by simp only; omega) (by simp only; omega)
    have hss := sameSA ss ss (by omega) (by omega)
    rw [decide_eq_true rfl] at hsr hss
    conv => whnf
    repeat' (first
      | (refine adraw pln3 [] (by kernel_rfl) ?_; conv => whnf)
      | (refine And.intro ?_ ?_ <;> (conv => whnf))
      | (refine AIn.mk' k rfl (by rw [List.length_map]; exact hlt) ?_; conv => whnf)
      | (refine ARd.map hlt ?_; conv => whnf)
      | (refine acallF [] (by kernel_rfl) (hp) ?_ ?_; (focus ((repeat' (first | rfl | trivial | apply And.intro)); done)); rintro _ _ _ ⟨rfl, rfl, rfl⟩; (conv => whnf))
      | (refine acallF [] (by kernel_rfl) (hq) ?_ ?_; (focus ((repeat' (first | rfl | trivial | apply And.intro)); done)); rintro _ _ _ ⟨rfl, rfl, rfl⟩; (conv => whnf))
      | (refine acall [] (by kernel_rfl) (hsr) rfl ?_ ?_; (focus ((repeat' (first | rfl | trivial | apply And.intro)); done)); (conv => whnf))
      | (refine acall [] (by kernel_rfl) (hss) rfl ?_ ?_; (focus ((repeat' (first | rfl | trivial | apply And.intro)); done)); (conv => whnf))
      | (refine vif_split (fun h => ?_) (fun h => ?_); (focus (exfalso; simp at h; done)); (conv => whnf))
      | (refine vif_split (fun he => ?_) (fun he => ?_) <;> (conv => whnf))
      | (refine AAr.i64 (by omega) ?_; conv => whnf))
    all_goals (refine aback (k + 1) [] [] rfl (by show l.length - (k + 1) < l.length - k; omega) hlt ?_ (by repeat' (first | rfl | trivial | apply And.intro)))
    all_goals (rw [hnx]; first | rw [if_pos (by simpa using he)] | rw [if_neg (by simpa using he)])
    all_goals exact (by repeat' (first | rfl | trivial | apply And.intro))
  · have : k = l.length := by simp at hge; omega
    subst this
    conv => whnf
    exact aret [] (by repeat' (first | rfl | trivial | apply And.intro))
end Go.Proofs.YtinpgogjkmmjpaaDoor.Sx
