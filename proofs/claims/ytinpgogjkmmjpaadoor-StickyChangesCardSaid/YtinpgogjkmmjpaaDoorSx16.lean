/- The walks of the sticky laws Changes and Stays. Condition: as Sx1's. -/
import Derived.Test.YtinpgogjkmmjpaaDoorSx15
set_option linter.unusedVariables false
set_option linter.unusedSimpArgs false
namespace Go.Proofs.YtinpgogjkmmjpaaDoor.Sx
open Go Go.RowKit Go.Proofs.YtinpgogjkmmjpaaDoor.Vc Go.Proofs.YtinpgogjkmmjpaaDoor.Ax Go.Proofs.YtinpgogjkmmjpaaDoor.Ky Go.Proofs.YtinpgogjkmmjpaaDoor.Id Go.Proofs.YtinpgogjkmmjpaaDoor.Sp

set_option maxHeartbeats 4000000 in
set_option maxRecDepth 100000 in
theorem changesA (l : List Chg) (id ly f t : Nat) (hok : ∀ x ∈ l, x.ok) (hi : id < 256) (hy : ly < 256) (hf : f < 256) (ht : t < 256) : AFn Tryd.prog GS 9 [chsA l, u8A id, u8A ly, u8A f, u8A t] 0 [] (Is (bv true)) := by
  refine afn_of Tryd.func9 rfl mixed (by kernel_rfl) ?_
  conv => whnf
  (refine acall [] (by kernel_rfl) (awakeA) rfl ?_ ?_; (focus ((repeat' (first | rfl | trivial | apply And.intro)); done)); (conv => whnf))
  (refine vif_split (fun h => ?_) (fun h => ?_) <;> (try simp only [sEqD, cond_true, cond_false, Bool.not_eq_true', Bool.not_eq_false', decide_eq_true_eq, decide_eq_false_iff_not, beq_iff_eq, bne_iff_ne, beq_eq_false_iff_ne, bne_eq_false_iff_eq, ne_eq, Bool.not_eq_eq_eq_not, Bool.not_true, Bool.not_false, Bool.false_eq_true, Bool.true_eq_false, Decidable.not_not, gt_iff_lt, ge_iff_le, Int.not_lt, Int.not_le] at h) <;> (conv => whnf))
  · exact aret [] (by repeat' (first | rfl | trivial | apply And.intro))
  have hl : l.length ≤ 1000 := by simp only [List.length_map] at h; omega
  clear h
  have hR := reach_rch l
  have hA := reachA l hl hok
  obtain ⟨r, hr⟩ : ∃ r, r = reachR l := ⟨_, rfl⟩
  rw [← hr] at hA hR
  clear hr
  have hn := hR.good.now
  have hln := hR.good.len
  have hft := hR.good.fit
  (refine acallF [] (by kernel_rfl) (hA) ?_ ?_; (focus ((repeat' (first | rfl | trivial | apply And.intro)); done)); rintro _ _ _ ⟨rfl, rfl, rfl⟩; (conv => whnf))
  (refine adraw pln9 [] (by kernel_rfl) ?_; conv => whnf)
  repeat' (first
    | (refine And.intro ?_ ?_ <;> (conv => whnf))
    | (refine AAr.i64 (by omega) ?_; conv => whnf)
    | (rw [tmod2]; refine VReq.mk (by decide) ?_; conv => whnf)
    | (refine VReq.mk (by decide) ?_; conv => whnf)
    | (refine acall [] (by kernel_rfl) (idA id hi) rfl ?_ ?_; (focus ((repeat' (first | rfl | trivial | apply And.intro)); done)); (conv => whnf))
    | (refine acallF [] (by kernel_rfl) (layersA) ?_ ?_; (focus ((repeat' (first | rfl | trivial | apply And.intro)); done)); rintro _ _ _ ⟨rfl, rfl, rfl⟩; (conv => whnf))
    | (refine AIn.mk' (ly % 2) rfl (by rw [List.length_map, layL_len]; omega) ?_; conv => whnf)
    | (refine strRd (by rw [layL_len]; omega) ?_; generalize layL.getD (ly % 2) ⟨#[]⟩ = y; conv => whnf))
  all_goals
    (refine adraw pln9 [] (by kernel_rfl) ?_; conv => whnf)
    repeat' (first
      | (refine And.intro ?_ ?_ <;> (conv => whnf))
      | (refine AAr.i64 (by omega) ?_; conv => whnf)
      | (refine VReq.mk (by omega) ?_; conv => whnf))
    generalize Int.tmod (f : Int) (r.now + 1) = u
    generalize Int.tmod (t : Int) (r.now + 1) = v
    (refine vif_split (fun h => ?_) (fun h => ?_) <;> (try simp only [sEqD, cond_true, cond_false, Bool.not_eq_true', Bool.not_eq_false', decide_eq_true_eq, decide_eq_false_iff_not, beq_iff_eq, bne_iff_ne, beq_eq_false_iff_ne, bne_eq_false_iff_eq, ne_eq, Bool.not_eq_eq_eq_not, Bool.not_true, Bool.not_false, Bool.false_eq_true, Bool.true_eq_false, Decidable.not_not, gt_iff_lt, ge_iff_le, Int.not_lt, Int.not_le] at h) <;> (conv => whnf))
    ·
      have h1 := at1G hR.good (idOf id) y v
      have h2 := at1G hR.good (idOf id) y u
      have hch := fun {a b : Sl} => hR.once.changes hR.good (id := idOf id) (layer := y) (x := a) (y := b) (show v ≤ u by omega)
      generalize atO r (idOf id) y v = o1 at h1 hch
      generalize atO r (idOf id) y u = o2 at h2 hch
      cases o1 with
      | none =>
        (refine acall [] (by kernel_rfl) (h1) rfl ?_ ?_; (focus ((repeat' (first | rfl | trivial | apply And.intro)); done)); (conv => whnf))
        cases o2 with
        | none =>
          (refine acall [] (by kernel_rfl) (h2) rfl ?_ ?_; (focus ((repeat' (first | rfl | trivial | apply And.intro)); done)); (conv => whnf))
          exact aret [] (by repeat' (first | rfl | trivial | apply And.intro))
        | some b =>
          (refine acall [] (by kernel_rfl) (h2) rfl ?_ ?_; (focus ((repeat' (first | rfl | trivial | apply And.intro)); done)); (conv => whnf))
          exact aret [] (by repeat' (first | rfl | trivial | apply And.intro))
      | some a =>
        (refine acall [] (by kernel_rfl) (h1) rfl ?_ ?_; (focus ((repeat' (first | rfl | trivial | apply And.intro)); done)); (conv => whnf))
        cases o2 with
        | none =>
          (refine acall [] (by kernel_rfl) (h2) rfl ?_ ?_; (focus ((repeat' (first | rfl | trivial | apply And.intro)); done)); (conv => whnf))
          exact aret [] (by repeat' (first | rfl | trivial | apply And.intro))
        | some b =>
          have hch := fun h => hch rfl rfl (a := a) (b := b) h
          (refine acall [] (by kernel_rfl) (h2) rfl ?_ ?_; (focus ((repeat' (first | rfl | trivial | apply And.intro)); done)); (conv => whnf))
          refine AEq.mk (by kernel_rfl) rfl rfl ?_
          conv => whnf
          refine vif_split (fun h => ?_) (fun h => ?_)
          · conv => whnf
            exact aret [] (by repeat' (first | rfl | trivial | apply And.intro))
          · have hne : a ≠ b := fun e => by subst e; simp [sEqD] at h
            obtain ⟨c1, c2, c3⟩ := hch hne
            clear h hch h1 h2
            conv => whnf
            (repeat' (first | (refine And.intro ?_ ?_ <;> (conv => whnf)) | (refine vif_split (fun h => ?_) (fun h => ?_) <;> (try simp only [sEqD, cond_true, cond_false, Bool.not_eq_true', Bool.not_eq_false', decide_eq_true_eq, decide_eq_false_iff_not, beq_iff_eq, bne_iff_ne, beq_eq_false_iff_ne, bne_eq_false_iff_eq, ne_eq, Bool.not_eq_eq_eq_not, Bool.not_true, Bool.not_false, Bool.false_eq_true, Bool.true_eq_false, Decidable.not_not, gt_iff_lt, ge_iff_le, Int.not_lt, Int.not_le] at h) <;> (conv => whnf)) | (refine AAr.i64 (by omega) ?_; conv => whnf) | (refine AIn.mk' _ rfl (by simp only [List.length_map, List.length_append, List.length_cons, List.length_nil, List.length_take, List.length_drop, List.length_set]; omega) ?_; conv => whnf) | (refine ARd.mapAt (by assumption) ?_; conv => whnf) | (refine ARd.set (by (try simp only [List.length_map, List.length_append, List.length_cons, List.length_nil, List.length_take, List.length_drop, List.length_set] at *); omega) ?_; conv => whnf) | (refine ARd.map (by omega) ?_; conv => whnf) | (refine VReq.mk (by first | decide | omega) ?_; conv => whnf) | (refine AEq.mk (by kernel_rfl) rfl rfl ?_; conv => whnf) | (refine VReq.mk (app_ok (by (try simp only [List.length_map, List.length_append, List.length_cons, List.length_nil, List.length_take, List.length_drop, List.length_set] at *); omega) (by kernel_rfl)) ?_; conv => whnf)))
            all_goals first
              | (exfalso; omega)
              | ((refine aret [] ?_; refine congrArg Value.bool ?_); simp [*]; done)
              | trace_state
    ·
      have h1 := at1G hR.good (idOf id) y u
      have h2 := at1G hR.good (idOf id) y v
      have hch := fun {a b : Sl} => hR.once.changes hR.good (id := idOf id) (layer := y) (x := a) (y := b) (show u ≤ v by omega)
      generalize atO r (idOf id) y u = o1 at h1 hch
      generalize atO r (idOf id) y v = o2 at h2 hch
      cases o1 with
      | none =>
        (refine acall [] (by kernel_rfl) (h1) rfl ?_ ?_; (focus ((repeat' (first | rfl | trivial | apply And.intro)); done)); (conv => whnf))
        cases o2 with
        | none =>
          (refine acall [] (by kernel_rfl) (h2) rfl ?_ ?_; (focus ((repeat' (first | rfl | trivial | apply And.intro)); done)); (conv => whnf))
          exact aret [] (by repeat' (first | rfl | trivial | apply And.intro))
        | some b =>
          (refine acall [] (by kernel_rfl) (h2) rfl ?_ ?_; (focus ((repeat' (first | rfl | trivial | apply And.intro)); done)); (conv => whnf))
          exact aret [] (by repeat' (first | rfl | trivial | apply And.intro))
      | some a =>
        (refine acall [] (by kernel_rfl) (h1) rfl ?_ ?_; (focus ((repeat' (first | rfl | trivial | apply And.intro)); done)); (conv => whnf))
        cases o2 with
        | none =>
          (refine acall [] (by kernel_rfl) (h2) rfl ?_ ?_; (focus ((repeat' (first | rfl | trivial | apply And.intro)); done)); (conv => whnf))
          exact aret [] (by repeat' (first | rfl | trivial | apply And.intro))
        | some b =>
          have hch := fun h => hch rfl rfl (a := a) (b := b) h
          (refine acall [] (by kernel_rfl) (h2) rfl ?_ ?_; (focus ((repeat' (first | rfl | trivial | apply And.intro)); done)); (conv => whnf))
          refine AEq.mk (by kernel_rfl) rfl rfl ?_
          conv => whnf
          refine vif_split (fun h => ?_) (fun h => ?_)
          · conv => whnf
            exact aret [] (by repeat' (first | rfl | trivial | apply And.intro))
          · have hne : a ≠ b := fun e => by subst e; simp [sEqD] at h
            obtain ⟨c1, c2, c3⟩ := hch hne
            clear h hch h1 h2
            conv => whnf
            (repeat' (first | (refine And.intro ?_ ?_ <;> (conv => whnf)) | (refine vif_split (fun h => ?_) (fun h => ?_) <;> (try simp only [sEqD, cond_true, cond_false, Bool.not_eq_true', Bool.not_eq_false', decide_eq_true_eq, decide_eq_false_iff_not, beq_iff_eq, bne_iff_ne, beq_eq_false_iff_ne, bne_eq_false_iff_eq, ne_eq, Bool.not_eq_eq_eq_not, Bool.not_true, Bool.not_false, Bool.false_eq_true, Bool.true_eq_false, Decidable.not_not, gt_iff_lt, ge_iff_le, Int.not_lt, Int.not_le] at h) <;> (conv => whnf)) | (refine AAr.i64 (by omega) ?_; conv => whnf) | (refine AIn.mk' _ rfl (by simp only [List.length_map, List.length_append, List.length_cons, List.length_nil, List.length_take, List.length_drop, List.length_set]; omega) ?_; conv => whnf) | (refine ARd.mapAt (by assumption) ?_; conv => whnf) | (refine ARd.set (by (try simp only [List.length_map, List.length_append, List.length_cons, List.length_nil, List.length_take, List.length_drop, List.length_set] at *); omega) ?_; conv => whnf) | (refine ARd.map (by omega) ?_; conv => whnf) | (refine VReq.mk (by first | decide | omega) ?_; conv => whnf) | (refine AEq.mk (by kernel_rfl) rfl rfl ?_; conv => whnf) | (refine VReq.mk (app_ok (by (try simp only [List.length_map, List.length_append, List.length_cons, List.length_nil, List.length_take, List.length_drop, List.length_set] at *); omega) (by kernel_rfl)) ?_; conv => whnf)))
            all_goals first
              | (exfalso; omega)
              | ((refine aret [] ?_; refine congrArg Value.bool ?_); simp [*]; done)
              | trace_state

set_option maxHeartbeats 4000000 in
set_option maxRecDepth 100000 in
theorem staysA (l : List Chg) (hok : ∀ x ∈ l, x.ok) : AFn Tryd.prog GS 6 [chsA l] 0 [] (Is (bv true)) := by
  refine afn_of Tryd.func6 rfl mixed (by kernel_rfl) ?_
  conv => whnf
  (refine acall [] (by kernel_rfl) (awakeA) rfl ?_ ?_; (focus ((repeat' (first | rfl | trivial | apply And.intro)); done)); (conv => whnf))
  (refine vif_split (fun h => ?_) (fun h => ?_) <;> (try simp only [sEqD, cond_true, cond_false, Bool.not_eq_true', Bool.not_eq_false', decide_eq_true_eq, decide_eq_false_iff_not, beq_iff_eq, bne_iff_ne, beq_eq_false_iff_ne, bne_eq_false_iff_eq, ne_eq, Bool.not_eq_eq_eq_not, Bool.not_true, Bool.not_false, Bool.false_eq_true, Bool.true_eq_false, Decidable.not_not, gt_iff_lt, ge_iff_le, Int.not_lt, Int.not_le] at h) <;> (conv => whnf))
  · exact aret [] (by repeat' (first | rfl | trivial | apply And.intro))
  have hl : l.length ≤ 60 := by simp only [List.length_map] at h; omega
  refine aloopS ws6_1 [4] (fun k : Nat => [(4, iv k)]) 0 (fun k => rgB (reachR (l.take k))) (fun k => k ≤ l.length) (fun k => l.length - k) 0 (by kernel_rfl) (fun _ => rfl) (by kernel_rfl) (Nat.zero_le _) (by repeat' (first | rfl | trivial | apply And.intro)) (by repeat' (first | rfl | trivial | apply And.intro)) ?_
  rintro k hk
  have hR := reach_rch (l.take k)
  conv => whnf
  refine vif_split (fun hlt => ?_) (fun hge => ?_)
  · have hlt : k < l.length := by simpa using hlt
    have hnx : reachR (l.take (k + 1)) = next l[k] (reachR (l.take k)) := by rw [take_lt hlt, reachR_snoc]
    obtain ⟨r, hr⟩ : ∃ r, r = reachR (l.take k) := ⟨_, rfl⟩
    have hxo := hok _ (List.getElem_mem hlt)
    have hp := play1A l[k] r hxo (by rw [hr]; exact hR.good.fit)
    have hnw := nowA l[k] r hxo (by rw [hr]; exact hR.good.now)
    rw [← hr] at hR hnx ⊢
    have haf : (playR l[k] r).2.2.2 = 0 → After l[k] r (playR l[k] r).1 := play_after l[k]
    unfold next at hnx
    obtain ⟨t, ht⟩ : ∃ t, t = playR l[k] r := ⟨_, rfl⟩
    rw [← ht] at hp hnx haf
    obtain ⟨q, ss, m, e⟩ := t
    have hp : AFn Tryd.prog GS 14 [chA l[k], rgA r] 0 [] (Is (.tup [rgA q, slsA ss, iv m, iv e])) := hp
    have hln := hR.good.len
    conv => whnf
    repeat' (first
      | (refine adraw pln6 [] (by kernel_rfl) ?_; conv => whnf)
      | (refine And.intro ?_ ?_ <;> (conv => whnf))
      | (refine AIn.mk' k rfl (by rw [List.length_map]; exact hlt) ?_; conv => whnf)
      | (refine ARd.map hlt ?_; conv => whnf)
      | (refine acallF [] (by kernel_rfl) (hp) ?_ ?_; (focus ((repeat' (first | rfl | trivial | apply And.intro)); done)); rintro _ _ _ ⟨rfl, rfl, rfl⟩; (conv => whnf)))
    all_goals
      refine vif_split (fun he => ?_) (fun he => ?_)
      · conv => whnf
        refine AAr.i64 (by omega) ?_
        conv => whnf
        refine aback (k + 1) [] [] rfl (by show l.length - (k + 1) < l.length - k; omega) hlt ?_ (by repeat' (first | rfl | trivial | apply And.intro))
        rw [hnx, if_neg (by simpa using he)]
        exact (by repeat' (first | rfl | trivial | apply And.intro))
      have he : e = 0 := by simpa using he
      subst he
      have haf := haf rfl
      simp only at haf
      rw [if_pos rfl] at hnx
      have hqn := haf.now
      rw [← hqn] at hnw
      have hle := haf.step.le
      have hle1 := haf.step.le1
      have hql := haf.good.len
      have htk : q.links.take r.links.length = r.links ∧ r.links.length ≤ q.links.length := by
        rcases haf.step.links with e | ⟨a, b, e⟩
        · rw [e]; exact ⟨List.take_length, Nat.le_refl _⟩
        · rw [e]; exact ⟨by simp, by simp⟩
      have hsl := sameLA r.links r.links (by omega) (by omega)
      rw [decide_eq_true rfl] at hsl
      have hmt : (q.links.map lkF).take r.links.length = r.links.map lkF := by rw [← List.map_take, htk.1]
      conv => whnf
      repeat' (first
        | (refine adraw pln6 [] (by kernel_rfl) ?_; conv => whnf)
        | (refine AIn.mk' k rfl (by rw [List.length_map]; exact hlt) ?_; conv => whnf)
        | (refine ARd.map hlt ?_; conv => whnf)
        | (refine AAr.i64 (by simp only [List.length_map]; omega) ?_; conv => whnf)
        | (refine ABd.mk' 0 r.links.length rfl (by rw [List.length_map]) (Nat.zero_le _) (by rw [List.length_map]; exact htk.2) ?_; conv => whnf)
        | (refine acall [] (by kernel_rfl) (hsl) rfl ?_ ?_; (focus ((repeat' (first | rfl | trivial | apply And.intro)); done)); (conv => whnf))
        | (refine acall [] (by kernel_rfl) (hnw) rfl ?_ ?_; (focus ((repeat' (first | rfl | trivial | apply And.intro)); done)); (conv => whnf))
        | (refine vif_split (fun h => ?_) (fun h => ?_); (focus (exfalso; simp at h; first | done | omega)); (conv => whnf)))
      refine aloopH ws6_2 [9] (fun k : Nat => [(9, iv k)]) (fun _ => True) (fun k => r.slots.length - k) 0 (by kernel_rfl) (fun _ => rfl) (by kernel_rfl) trivial (by repeat' (first | rfl | trivial | apply And.intro)) (by repeat' (first | rfl | trivial | apply And.intro)) ?_
      rintro j _
      conv => whnf
      refine vif_split (fun hj => ?_) (fun hj => ?_)
      · have hj : j < r.slots.length := by simpa using hj
        have hjq : j < q.slots.length := by omega
        have hold := haf.step.old j hj
        conv => whnf
        (refine adraw pln6 [] (by kernel_rfl) ?_; conv => whnf)
        refine AIn.mk' j rfl (by rw [List.length_map]; exact hj) ?_
        conv => whnf
        refine ARd.map hj ?_
        conv => whnf
        refine AIn.mk' j rfl (by rw [List.length_map]; exact hjq) ?_
        conv => whnf
        refine ARd.map hjq ?_
        generalize r.slots[j] = a at hold ⊢
        generalize q.slots[j] = b at hold ⊢
        rcases hold with rfl | ⟨h0, e, he, rfl⟩
        all_goals conv => whnf
        all_goals repeat' (refine And.intro ?_ ?_ <;> (conv => whnf))
        all_goals (repeat' (first | (refine And.intro ?_ ?_ <;> (conv => whnf)) | (refine vif_split (fun h => ?_) (fun h => ?_) <;> (try simp only [sEqD, cond_true, cond_false, Bool.not_eq_true', Bool.not_eq_false', decide_eq_true_eq, decide_eq_false_iff_not, beq_iff_eq, bne_iff_ne, beq_eq_false_iff_ne, bne_eq_false_iff_eq, ne_eq, Bool.not_eq_eq_eq_not, Bool.not_true, Bool.not_false, Bool.false_eq_true, Bool.true_eq_false, Decidable.not_not, gt_iff_lt, ge_iff_le, Int.not_lt, Int.not_le] at h) <;> (conv => whnf)) | (refine AAr.i64 (by omega) ?_; conv => whnf) | (refine AIn.mk' _ rfl (by simp only [List.length_map, List.length_append, List.length_cons, List.length_nil, List.length_take, List.length_drop, List.length_set]; omega) ?_; conv => whnf) | (refine ARd.mapAt (by assumption) ?_; conv => whnf) | (refine ARd.set (by (try simp only [List.length_map, List.length_append, List.length_cons, List.length_nil, List.length_take, List.length_drop, List.length_set] at *); omega) ?_; conv => whnf) | (refine ARd.map (by omega) ?_; conv => whnf) | (refine VReq.mk (by first | decide | omega) ?_; conv => whnf) | (refine AEq.mk (by kernel_rfl) rfl rfl ?_; conv => whnf) | (refine VReq.mk (app_ok (by (try simp only [List.length_map, List.length_append, List.length_cons, List.length_nil, List.length_take, List.length_drop, List.length_set] at *); omega) (by kernel_rfl)) ?_; conv => whnf)))
        all_goals try contradiction
        all_goals try (exfalso; revert h; simp; done)
        all_goals first
          | ((refine adraw pln6 [2] (by kernel_rfl) ?_; conv => whnf); (repeat' (first | (refine And.intro ?_ ?_ <;> (conv => whnf)) | (refine vif_split (fun h => ?_) (fun h => ?_) <;> (try simp only [sEqD, cond_true, cond_false, Bool.not_eq_true', Bool.not_eq_false', decide_eq_true_eq, decide_eq_false_iff_not, beq_iff_eq, bne_iff_ne, beq_eq_false_iff_ne, bne_eq_false_iff_eq, ne_eq, Bool.not_eq_eq_eq_not, Bool.not_true, Bool.not_false, Bool.false_eq_true, Bool.true_eq_false, Decidable.not_not, gt_iff_lt, ge_iff_le, Int.not_lt, Int.not_le] at h) <;> (conv => whnf)) | (refine AAr.i64 (by omega) ?_; conv => whnf) | (refine AIn.mk' _ rfl (by simp only [List.length_map, List.length_append, List.length_cons, List.length_nil, List.length_take, List.length_drop, List.length_set]; omega) ?_; conv => whnf) | (refine ARd.mapAt (by assumption) ?_; conv => whnf) | (refine ARd.set (by (try simp only [List.length_map, List.length_append, List.length_cons, List.length_nil, List.length_take, List.length_drop, List.length_set] at *); omega) ?_; conv => whnf) | (refine ARd.map (by omega) ?_; conv => whnf) | (refine VReq.mk (by first | decide | omega) ?_; conv => whnf) | (refine AEq.mk (by kernel_rfl) rfl rfl ?_; conv => whnf) | (refine VReq.mk (app_ok (by (try simp only [List.length_map, List.length_append, List.length_cons, List.length_nil, List.length_take, List.length_drop, List.length_set] at *); omega) (by kernel_rfl)) ?_; conv => whnf))); (all_goals try (exfalso; revert h; simp; done)); refine aback (j + 1) [] [] rfl (by show r.slots.length - (j + 1) < r.slots.length - j; omega) trivial (by repeat' (first | rfl | trivial | apply And.intro)) (by repeat' (first | rfl | trivial | apply And.intro)); done)
          | ((refine adraw pln6 [3] (by kernel_rfl) ?_; conv => whnf); (repeat' (first | (refine And.intro ?_ ?_ <;> (conv => whnf)) | (refine vif_split (fun h => ?_) (fun h => ?_) <;> (try simp only [sEqD, cond_true, cond_false, Bool.not_eq_true', Bool.not_eq_false', decide_eq_true_eq, decide_eq_false_iff_not, beq_iff_eq, bne_iff_ne, beq_eq_false_iff_ne, bne_eq_false_iff_eq, ne_eq, Bool.not_eq_eq_eq_not, Bool.not_true, Bool.not_false, Bool.false_eq_true, Bool.true_eq_false, Decidable.not_not, gt_iff_lt, ge_iff_le, Int.not_lt, Int.not_le] at h) <;> (conv => whnf)) | (refine AAr.i64 (by omega) ?_; conv => whnf) | (refine AIn.mk' _ rfl (by simp only [List.length_map, List.length_append, List.length_cons, List.length_nil, List.length_take, List.length_drop, List.length_set]; omega) ?_; conv => whnf) | (refine ARd.mapAt (by assumption) ?_; conv => whnf) | (refine ARd.set (by (try simp only [List.length_map, List.length_append, List.length_cons, List.length_nil, List.length_take, List.length_drop, List.length_set] at *); omega) ?_; conv => whnf) | (refine ARd.map (by omega) ?_; conv => whnf) | (refine VReq.mk (by first | decide | omega) ?_; conv => whnf) | (refine AEq.mk (by kernel_rfl) rfl rfl ?_; conv => whnf) | (refine VReq.mk (app_ok (by (try simp only [List.length_map, List.length_append, List.length_cons, List.length_nil, List.length_take, List.length_drop, List.length_set] at *); omega) (by kernel_rfl)) ?_; conv => whnf))); (all_goals try (exfalso; revert h; simp; done)); refine aback (j + 1) [] [] rfl (by show r.slots.length - (j + 1) < r.slots.length - j; omega) trivial (by repeat' (first | rfl | trivial | apply And.intro)) (by repeat' (first | rfl | trivial | apply And.intro)); done)
          | trace_state
      · conv => whnf
        refine AAr.i64 (by omega) ?_
        conv => whnf
        refine aback (k + 1) [] [] rfl (by show l.length - (k + 1) < l.length - k; omega) hlt ?_ (by repeat' (first | rfl | trivial | apply And.intro))
        rw [hnx]
        exact (by repeat' (first | rfl | trivial | apply And.intro))
  · have : k = l.length := by simp at hge; omega
    subst this
    conv => whnf
    exact aret [] (by repeat' (first | rfl | trivial | apply And.intro))
end Go.Proofs.YtinpgogjkmmjpaaDoor.Sx
