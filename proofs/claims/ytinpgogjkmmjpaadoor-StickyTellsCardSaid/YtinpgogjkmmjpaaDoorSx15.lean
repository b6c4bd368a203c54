/- The walks of the sticky laws Once, Past, Changes, Stays. Condition: as Sx1's. -/
import Derived.Test.YtinpgogjkmmjpaaDoorSx14
set_option linter.unusedVariables false
set_option linter.unusedSimpArgs false
namespace Go.Proofs.YtinpgogjkmmjpaaDoor.Sx
open Go Go.RowKit Go.Proofs.YtinpgogjkmmjpaaDoor.Vc Go.Proofs.YtinpgogjkmmjpaaDoor.Ax Go.Proofs.YtinpgogjkmmjpaaDoor.Ky Go.Proofs.YtinpgogjkmmjpaaDoor.Id Go.Proofs.YtinpgogjkmmjpaaDoor.Sp

abbrev u8A (n : Nat) : AV := .v (.int .u8 (n : Int))
theorem tmod2 (n : Nat) : Int.tmod (n : Int) 2 = ((n % 2 : Nat) : Int) := rfl
def applB (s : Sl) (y : ByteArray) (t : Int) : Bool := decide (s.layer = y) && decide (s.from_ ≤ t) && (decide (s.fin = 0) || decide (t < s.to_))
theorem applB_iff {s : Sl} {y : ByteArray} {t : Int} : applB s y t = true ↔ s.layer = y ∧ appl s t := by
  unfold applB appl
  simp only [Bool.and_eq_true, Bool.or_eq_true, decide_eq_true_eq, and_assoc]
set_option maxHeartbeats 4000000 in
set_option maxRecDepth 100000 in
theorem appliesA (s : Sl) (y : ByteArray) (t : Int) : AFn Tryd.prog GS 24 [slA s, sv y, iv t] 0 [] (Is (bv (applB s y t))) := by
  have hB : applB s y t = (decide (s.layer = y) && decide (s.from_ ≤ t) && (decide (s.fin = 0) || decide (t < s.to_))) := rfl
  refine afn_of Tryd.func24 rfl mixed (by kernel_rfl) ?_
  conv => whnf
  (repeat' (first | (refine And.intro ?_ ?_ <;> (conv => whnf)) | (refine vif_split (fun h => ?_) (fun h => ?_) <;> (try simp only [sEqD, cond_true, cond_false, Bool.not_eq_true', Bool.not_eq_false', decide_eq_true_eq, decide_eq_false_iff_not, beq_iff_eq, bne_iff_ne, beq_eq_false_iff_ne, bne_eq_false_iff_eq, ne_eq, Bool.not_eq_eq_eq_not, Bool.not_true, Bool.not_false, Bool.false_eq_true, Bool.true_eq_false, Decidable.not_not, gt_iff_lt, ge_iff_le, Int.not_lt, Int.not_le] at h) <;> (conv => whnf)) | (refine AAr.i64 (by first | omega | ((try simp only [List.length_map] at *); omega)) ?_; conv => whnf) | (refine AIn.mk' _ rfl (by first | omega | (simp only [List.length_map, List.length_append, List.length_cons, List.length_nil, List.length_take, List.length_drop, List.length_set, List.length_replicate]; omega) | (simp only [List.length_map, List.length_append, List.length_cons, List.length_nil, List.length_take, List.length_drop, List.length_set, List.length_replicate] at *; omega)) ?_; conv => whnf) | (refine ARd.mapAt (by assumption) ?_; conv => whnf) | (refine ARd.set (by (try simp only [List.length_map, List.length_append, List.length_cons, List.length_nil, List.length_take, List.length_drop, List.length_set, List.length_replicate] at *); omega) ?_; conv => whnf) | (refine ARd.map (by first | omega | (simp only [List.length_map] at *; omega)) ?_; conv => whnf) | (refine VReq.mk (by first | decide | omega) ?_; conv => whnf) | (refine AEq.mk (by kernel_rfl) rfl rfl ?_; conv => whnf) | (refine VReq.mk (app_ok (by (try simp only [List.length_map, List.length_append, List.length_cons, List.length_nil, List.length_take, List.length_drop, List.length_set, List.length_replicate] at *); omega) (by kernel_rfl)) ?_; conv => whnf)))
  all_goals (refine aret [] ?_; refine congrArg Value.bool ?_)
  all_goals rw [hB]
  all_goals first | (simp [*]; done) | (simp [*]; omega) | trace_state

set_option maxHeartbeats 4000000 in
set_option maxRecDepth 100000 in
theorem onceA (l : List Chg) (ly : Nat) (hok : ∀ x ∈ l, x.ok) (hy : ly < 256) : AFn Tryd.prog GS 5 [chsA l, u8A ly] 0 [] (Is (bv true)) := by
  refine afn_of Tryd.func5 rfl mixed (by kernel_rfl) ?_
  conv => whnf
  (refine acall [] (by kernel_rfl) (awakeA) rfl ?_ ?_; (focus ((repeat' (first | rfl | trivial | apply And.intro)); done)); (conv => whnf))
  (refine vif_split (fun h => ?_) (fun h => ?_) <;> (try simp only [sEqD, cond_true, cond_false, Bool.not_eq_true', Bool.not_eq_false', decide_eq_true_eq, decide_eq_false_iff_not, beq_iff_eq, bne_iff_ne, beq_eq_false_iff_ne, bne_eq_false_iff_eq, ne_eq, Bool.not_eq_eq_eq_not, Bool.not_true, Bool.not_false, Bool.false_eq_true, Bool.true_eq_false, Decidable.not_not, gt_iff_lt, ge_iff_le, Int.not_lt, Int.not_le] at h) <;> (conv => whnf))
  · exact aret [] (by repeat' (first | rfl | trivial | apply And.intro))
  have hl : l.length ≤ 1000 := by simp only [List.length_map] at h; omega
  clear h
  have hR := reach_rch l
  have hA := reachA l hl hok
  obtain ⟨r, hr⟩ : ∃ r, r = reachR l := ⟨_, rfl⟩
  rw [← hr] at hA hR
  clear hr
  have hn := hR.good.now
  have hln := hR.good.len
  have hft := hR.good.fit
  (refine acallF [] (by kernel_rfl) (hA) ?_ ?_; (focus ((repeat' (first | rfl | trivial | apply And.intro)); done)); rintro _ _ _ ⟨rfl, rfl, rfl⟩; (conv => whnf))
  (refine acallF [] (by kernel_rfl) (layersA) ?_ ?_; (focus ((repeat' (first | rfl | trivial | apply And.intro)); done)); rintro _ _ _ ⟨rfl, rfl, rfl⟩; (conv => whnf))
  refine AAr.i64 (by omega) ?_
  conv => whnf
  rw [tmod2]
  refine VReq.mk (by decide) ?_
  conv => whnf
  refine AIn.mk' (ly % 2) rfl (by rw [List.length_map, layL_len]; omega) ?_
  conv => whnf
  refine strRd (by rw [layL_len]; omega) ?_
  generalize layL.getD (ly % 2) ⟨#[]⟩ = y
  conv => whnf
  have hnn : ((r.now.toNat : Nat) : Int) = r.now := Int.toNat_of_nonneg hn.1
  refine aloopH ws5_1 [7] (fun k : Nat => [(7, iv k)]) (fun _ => True) (fun k => r.now.toNat + 1 - k) 0 (by kernel_rfl) (fun _ => rfl) (by kernel_rfl) trivial (by repeat' (first | rfl | trivial | apply And.intro)) (by repeat' (first | rfl | trivial | apply And.intro)) ?_
  rintro t _
  conv => whnf
  refine vif_split (fun htm => ?_) (fun htm => ?_)
  · have htm : (t : Int) ≤ r.now := by simpa using htm
    conv => whnf
    (refine acallF [] (by kernel_rfl) (until2A r.links t hft.len.2) ?_ ?_; (focus ((repeat' (first | rfl | trivial | apply And.intro)); done)); rintro _ _ _ ⟨rfl, rfl, rfl⟩; (conv => whnf))
    have hul := unt_len t r.links
    refine aloopH ws5_2 [9] (fun k : Nat => [(9, iv k)]) (fun _ => True) (fun k => r.slots.length - k) 0 (by kernel_rfl) (fun _ => rfl) (by kernel_rfl) trivial (by repeat' (first | rfl | trivial | apply And.intro)) (by repeat' (first | rfl | trivial | apply And.intro)) ?_
    rintro i _
    conv => whnf
    refine vif_split (fun hi => ?_) (fun hi => ?_)
    · have hi : i < r.slots.length := by simpa using hi
      conv => whnf
      refine aloopH ws5_3 [10] (fun k : Nat => [(10, iv k)]) (fun _ => True) (fun k => i - k) 0 (by kernel_rfl) (fun _ => rfl) (by kernel_rfl) trivial (by repeat' (first | rfl | trivial | apply And.intro)) (by repeat' (first | rfl | trivial | apply And.intro)) ?_
      rintro k _
      conv => whnf
      refine vif_split (fun hk => ?_) (fun hk => ?_)
      · have hk : k < i := by simpa using hk
        have hon := hR.once t i k hi hk
        conv => whnf
        have hkl : k < r.slots.length := by omega
        (refine adraw pln5 [2] (by kernel_rfl) ?_; conv => whnf)
        repeat' (first
          | (refine AIn.mk' i rfl (by rw [List.length_map]; exact hi) ?_; conv => whnf)
          | (refine AIn.mk' k rfl (by rw [List.length_map]; exact hkl) ?_; conv => whnf)
          | (refine ARd.map hi ?_; conv => whnf)
          | (refine ARd.map hkl ?_; conv => whnf)
          | (refine acall [] (by kernel_rfl) (appliesA r.slots[i] y t) rfl ?_ ?_; (focus ((repeat' (first | rfl | trivial | apply And.intro)); done)); (conv => whnf))
          | (refine acall [] (by kernel_rfl) (appliesA r.slots[k] y t) rfl ?_ ?_; (focus ((repeat' (first | rfl | trivial | apply And.intro)); done)); (conv => whnf))
          | (refine acall [2] (by kernel_rfl) (same2A (unt t r.links) r.slots[i].id r.slots[k].id (by omega)) rfl ?_ ?_; (focus ((repeat' (first | rfl | trivial | apply And.intro)); done)); (conv => whnf))
          | (refine AAr.i64 (by omega) ?_; conv => whnf)
          | (refine vif_split (fun h => ?_) (fun h => ?_) <;> (conv => whnf)))
        all_goals first
          | (refine aback (k + 1) [] [] ?_ ?_ trivial ?_ ?_; (focus rfl); (focus (show i - (k + 1) < i - k; omega)); (focus ((repeat' (first | rfl | trivial | apply And.intro)); done)); (focus ((repeat' (first | rfl | trivial | apply And.intro)); done)); done)
          | (exfalso
             rename_i h1 h2
             obtain ⟨a1, a2⟩ := applB_iff.1 h1
             obtain ⟨b1, b2⟩ := applB_iff.1 (show applB _ _ _ = true from h2)
             exact hon a2 b2 (a1.trans b1.symm) (of_decide_eq_true h))
          | trace_state
      · conv => whnf
        refine AAr.i64 (by omega) ?_
        conv => whnf
        refine aback (i + 1) [] [] rfl (by show r.slots.length - (i + 1) < r.slots.length - i; omega) trivial (by repeat' (first | rfl | trivial | apply And.intro)) (by repeat' (first | rfl | trivial | apply And.intro))
    · conv => whnf
      refine AAr.i64 (by omega) ?_
      conv => whnf
      refine aback (t + 1) [] [] rfl (by show r.now.toNat + 1 - (t + 1) < r.now.toNat + 1 - t; omega) trivial (by repeat' (first | rfl | trivial | apply And.intro)) (by repeat' (first | rfl | trivial | apply And.intro))
  · conv => whnf
    have hv := valid1A r hft.s
    rw [(valid_iff r).2 hR.good] at hv
    (refine acall [] (by kernel_rfl) (hv) rfl ?_ ?_; (focus ((repeat' (first | rfl | trivial | apply And.intro)); done)); (conv => whnf))
    exact aret [] (by repeat' (first | rfl | trivial | apply And.intro))

/-- At of a register that is valid -/
theorem at1G {r : Rg} (g : Good r) (id layer : ByteArray) (t : Int) : AFn Tryd.prog GS 30 [rgA r, sv id, sv layer, iv t] 0 [] (Is (optA (atO r id layer t))) := by
  have := at1A r id layer t g.fit.s g.fit.len
  rw [(valid_iff r).2 g] at this
  exact this
theorem sl_same {x y : Sl} (h : x = { y with to_ := x.to_, fin := x.fin }) : x.id = y.id ∧ x.layer = y.layer ∧ x.exp = y.exp ∧ x.arm = y.arm ∧ x.from_ = y.from_ := by
  cases x; cases y
  simp at h
  exact h
set_option maxHeartbeats 4000000 in
set_option maxRecDepth 100000 in
theorem pastA (l : List Chg) (x : Chg) (id ly : Nat) (hok : ∀ x ∈ l, x.ok) (hx : x.ok) (hi : id < 256) (hy : ly < 256) : AFn Tryd.prog GS 8 [chsA l, chA x, u8A id, u8A ly] 0 [] (Is (bv true)) := by
  refine afn_of Tryd.func8 rfl mixed (by kernel_rfl) ?_
  conv => whnf
  (refine acall [] (by kernel_rfl) (awakeA) rfl ?_ ?_; (focus ((repeat' (first | rfl | trivial | apply And.intro)); done)); (conv => whnf))
  (refine vif_split (fun h => ?_) (fun h => ?_) <;> (try simp only [sEqD, cond_true, cond_false, Bool.not_eq_true', Bool.not_eq_false', decide_eq_true_eq, decide_eq_false_iff_not, beq_iff_eq, bne_iff_ne, beq_eq_false_iff_ne, bne_eq_false_iff_eq, ne_eq, Bool.not_eq_eq_eq_not, Bool.not_true, Bool.not_false, Bool.false_eq_true, Bool.true_eq_false, Decidable.not_not, gt_iff_lt, ge_iff_le, Int.not_lt, Int.not_le] at h) <;> (conv => whnf))
  · exact aret [] (by repeat' (first | rfl | trivial | apply And.intro))
  have hl : l.length ≤ 1000 := by simp only [List.length_map] at h; omega
  clear h
  have hR := reach_rch l
  have hA := reachA l hl hok
  obtain ⟨r, hr⟩ : ∃ r, r = reachR l := ⟨_, rfl⟩
  rw [← hr] at hA hR
  clear hr
  have hn := hR.good.now
  have hln := hR.good.len
  have hft := hR.good.fit
  (refine acallF [] (by kernel_rfl) (hA) ?_ ?_; (focus ((repeat' (first | rfl | trivial | apply And.intro)); done)); rintro _ _ _ ⟨rfl, rfl, rfl⟩; (conv => whnf))
  have hp := play1A x r hx hft
  have haf : (playR x r).2.2.2 = 0 → After x r (playR x r).1 := play_after x
  obtain ⟨t, ht⟩ : ∃ t, t = playR x r := ⟨_, rfl⟩
  rw [← ht] at hp haf
  clear ht
  obtain ⟨q, ss, m, e⟩ := t
  (refine acallF [] (by kernel_rfl) (hp) ?_ ?_; (focus ((repeat' (first | rfl | trivial | apply And.intro)); done)); rintro _ _ _ ⟨rfl, rfl, rfl⟩; (conv => whnf))
  refine vif_split (fun he => ?_) (fun he => ?_)
  · conv => whnf
    exact aret [] (by repeat' (first | rfl | trivial | apply And.intro))
  have he : e = 0 := by simpa using he
  subst he
  have haf := haf rfl
  simp only at haf
  have hqg := haf.good.now
  have hnn : ((q.now.toNat : Nat) : Int) = q.now := Int.toNat_of_nonneg hqg.1
  conv => whnf
  (refine adraw pln8 [] (by kernel_rfl) ?_; conv => whnf)
  repeat' (first
    | (refine And.intro ?_ ?_ <;> (conv => whnf))
    | (refine AAr.i64 (by omega) ?_; conv => whnf)
    | (rw [tmod2]; refine VReq.mk (by decide) ?_; conv => whnf)
    | (refine VReq.mk (by decide) ?_; conv => whnf)
    | (refine acall [] (by kernel_rfl) (idA id hi) rfl ?_ ?_; (focus ((repeat' (first | rfl | trivial | apply And.intro)); done)); (conv => whnf))
    | (refine acallF [] (by kernel_rfl) (layersA) ?_ ?_; (focus ((repeat' (first | rfl | trivial | apply And.intro)); done)); rintro _ _ _ ⟨rfl, rfl, rfl⟩; (conv => whnf))
    | (refine AIn.mk' (ly % 2) rfl (by rw [List.length_map, layL_len]; omega) ?_; conv => whnf)
    | (refine strRd (by rw [layL_len]; omega) ?_; generalize layL.getD (ly % 2) ⟨#[]⟩ = y; conv => whnf))
  all_goals
    refine aloopH ws8_1 [16] (fun k : Nat => [(16, iv k)]) (fun _ => True) (fun k => q.now.toNat - k) 0 (by kernel_rfl) (fun _ => rfl) (by kernel_rfl) trivial (by repeat' (first | rfl | trivial | apply And.intro)) (by repeat' (first | rfl | trivial | apply And.intro)) ?_
    rintro t _
    conv => whnf
    refine vif_split (fun htm => ?_) (fun htm => ?_)
    · have htm : (t : Int) < q.now := by simpa using htm
      conv => whnf
      refine vif_split (fun htr => ?_) (fun htr => ?_)
      · conv => whnf
        exact aret [] (by repeat' (first | rfl | trivial | apply And.intro))
      have h1 := at1G hR.good (idOf id) y t
      have h2 := at1G haf.good (idOf id) y t
      conv => whnf
      rcases haf.step.past (idOf id) y htm with ⟨e1, e2⟩ | ⟨a, b, e1, e2, e3⟩
      · rw [e1] at h1
        rw [e2] at h2
        (refine acall [] (by kernel_rfl) (h1) rfl ?_ ?_; (focus ((repeat' (first | rfl | trivial | apply And.intro)); done)); (conv => whnf))
        (refine acall [] (by kernel_rfl) (h2) rfl ?_ ?_; (focus ((repeat' (first | rfl | trivial | apply And.intro)); done)); (conv => whnf))
        (refine adraw pln8 [5] (by kernel_rfl) ?_; conv => whnf)
        (repeat' (first | (refine And.intro ?_ ?_ <;> (conv => whnf)) | (refine vif_split (fun h => ?_) (fun h => ?_) <;> (try simp only [sEqD, cond_true, cond_false, Bool.not_eq_true', Bool.not_eq_false', decide_eq_true_eq, decide_eq_false_iff_not, beq_iff_eq, bne_iff_ne, beq_eq_false_iff_ne, bne_eq_false_iff_eq, ne_eq, Bool.not_eq_eq_eq_not, Bool.not_true, Bool.not_false, Bool.false_eq_true, Bool.true_eq_false, Decidable.not_not, gt_iff_lt, ge_iff_le, Int.not_lt, Int.not_le] at h) <;> (conv => whnf)) | (refine AAr.i64 (by first | omega | ((try simp only [List.length_map] at *); omega)) ?_; conv => whnf) | (refine AIn.mk' _ rfl (by first | omega | (simp only [List.length_map, List.length_append, List.length_cons, List.length_nil, List.length_take, List.length_drop, List.length_set, List.length_replicate]; omega) | (simp only [List.length_map, List.length_append, List.length_cons, List.length_nil, List.length_take, List.length_drop, List.length_set, List.length_replicate] at *; omega)) ?_; conv => whnf) | (refine ARd.mapAt (by assumption) ?_; conv => whnf) | (refine ARd.set (by (try simp only [List.length_map, List.length_append, List.length_cons, List.length_nil, List.length_take, List.length_drop, List.length_set, List.length_replicate] at *); omega) ?_; conv => whnf) | (refine ARd.map (by first | omega | (simp only [List.length_map] at *; omega)) ?_; conv => whnf) | (refine VReq.mk (by first | decide | omega) ?_; conv => whnf) | (refine AEq.mk (by kernel_rfl) rfl rfl ?_; conv => whnf) | (refine VReq.mk (app_ok (by (try simp only [List.length_map, List.length_append, List.length_cons, List.length_nil, List.length_take, List.length_drop, List.length_set, List.length_replicate] at *); omega) (by kernel_rfl)) ?_; conv => whnf)))
        all_goals first
          | (refine aback (t + 1) [] [] ?_ ?_ trivial ?_ ?_; (focus rfl); (focus (show q.now.toNat - (t + 1) < q.now.toNat - t; omega)); (focus ((repeat' (first | rfl | trivial | apply And.intro)); done)); (focus ((repeat' (first | rfl | trivial | apply And.intro)); done)); done)
          | (exfalso; revert h; simp [sl0]; done)
          | trace_state
      · rw [e1] at h1
        rw [e2] at h2
        obtain ⟨f1, f2, f3, f4, f5⟩ := sl_same e3
        clear e3
        (refine acall [] (by kernel_rfl) (h1) rfl ?_ ?_; (focus ((repeat' (first | rfl | trivial | apply And.intro)); done)); (conv => whnf))
        (refine acall [] (by kernel_rfl) (h2) rfl ?_ ?_; (focus ((repeat' (first | rfl | trivial | apply And.intro)); done)); (conv => whnf))
        (refine adraw pln8 [5] (by kernel_rfl) ?_; conv => whnf)
        (repeat' (first | (refine And.intro ?_ ?_ <;> (conv => whnf)) | (refine vif_split (fun h => ?_) (fun h => ?_) <;> (try simp only [sEqD, cond_true, cond_false, Bool.not_eq_true', Bool.not_eq_false', decide_eq_true_eq, decide_eq_false_iff_not, beq_iff_eq, bne_iff_ne, beq_eq_false_iff_ne, bne_eq_false_iff_eq, ne_eq, Bool.not_eq_eq_eq_not, Bool.not_true, Bool.not_false, Bool.false_eq_true, Bool.true_eq_false, Decidable.not_not, gt_iff_lt, ge_iff_le, Int.not_lt, Int.not_le] at h) <;> (conv => whnf)) | (refine AAr.i64 (by first | omega | ((try simp only [List.length_map] at *); omega)) ?_; conv => whnf) | (refine AIn.mk' _ rfl (by first | omega | (simp only [List.length_map, List.length_append, List.length_cons, List.length_nil, List.length_take, List.length_drop, List.length_set, List.length_replicate]; omega) | (simp only [List.length_map, List.length_append, List.length_cons, List.length_nil, List.length_take, List.length_drop, List.length_set, List.length_replicate] at *; omega)) ?_; conv => whnf) | (refine ARd.mapAt (by assumption) ?_; conv => whnf) | (refine ARd.set (by (try simp only [List.length_map, List.length_append, List.length_cons, List.length_nil, List.length_take, List.length_drop, List.length_set, List.length_replicate] at *); omega) ?_; conv => whnf) | (refine ARd.map (by first | omega | (simp only [List.length_map] at *; omega)) ?_; conv => whnf) | (refine VReq.mk (by first | decide | omega) ?_; conv => whnf) | (refine AEq.mk (by kernel_rfl) rfl rfl ?_; conv => whnf) | (refine VReq.mk (app_ok (by (try simp only [List.length_map, List.length_append, List.length_cons, List.length_nil, List.length_take, List.length_drop, List.length_set, List.length_replicate] at *); omega) (by kernel_rfl)) ?_; conv => whnf)))
        all_goals first
          | (refine aback (t + 1) [] [] ?_ ?_ trivial ?_ ?_; (focus rfl); (focus (show q.now.toNat - (t + 1) < q.now.toNat - t; omega)); (focus ((repeat' (first | rfl | trivial | apply And.intro)); done)); (focus ((repeat' (first | rfl | trivial | apply And.intro)); done)); done)
          | (exfalso; revert h; simp [f1, f2, f3, f4, f5]; done)
          | trace_state
    · conv => whnf
      exact aret [] (by repeat' (first | rfl | trivial | apply And.intro))
end Go.Proofs.YtinpgogjkmmjpaaDoor.Sx
