/- The walk of the sticky law Merges. Condition: as Sx1's. -/
import Derived.Test.YtinpgogjkmmjpaaDoorPl6
import Derived.Test.YtinpgogjkmmjpaaDoorSx17
set_option linter.unusedVariables false
set_option linter.unusedSimpArgs false
namespace Go.Proofs.YtinpgogjkmmjpaaDoor.Sx
open Go Go.RowKit Go.Proofs.YtinpgogjkmmjpaaDoor.Vc Go.Proofs.YtinpgogjkmmjpaaDoor.Ax Go.Proofs.YtinpgogjkmmjpaaDoor.Ky Go.Proofs.YtinpgogjkmmjpaaDoor.Id Go.Proofs.YtinpgogjkmmjpaaDoor.Sp

/-- what the law asks of a layer: o1, o2 before, u behind; c tells whether both had one -/
def Lay (o1 o2 u v : Option Sl) (c : Nat) : Prop := v = u ∧
  match o1, o2 with
  | none, none => u = none ∧ c = 0
  | some s, none => u = some s ∧ c = 0
  | none, some t => u = some t ∧ c = 0
  | some s, some t => (s = t ∧ u = some s ∧ c = 0) ∨ (s ≠ t ∧ c = 1 ∧ ∃ x, u = some x ∧ (x = s ∨ x = t) ∧ x.from_ = min s.from_ t.from_)
theorem lay_same {r : Rg} (g : Good r) {a b : ByteArray} (h : rt r.links a = rt r.links b) (y : ByteArray) : Lay (curO r a y) (curO r b y) (curO r a y) (curO r b y) 0 := by
  rw [← cur_congr g h]
  unfold Lay
  cases curO r a y with
  | none => exact ⟨rfl, rfl, rfl⟩
  | some s => exact ⟨rfl, .inl ⟨rfl, rfl, rfl⟩⟩
theorem lay_merge {r : Rg} (g : Good r) {a b : ByteArray} (hne : rt r.links a ≠ rt r.links b) (hq : Good (rgQ r a b)) (y : ByteArray) : Lay (curO r a y) (curO r b y) (curO (rgQ r a b) a y) (curO (rgQ r a b) b y) (cntY r a b y) := by
  obtain ⟨h1, h2⟩ := merge_layer g hne hq y
  refine ⟨h1, ?_⟩
  unfold cntY
  generalize curO r a y = o1 at h2 ⊢
  generalize curO r b y = o2 at h2 ⊢
  cases o1 <;> cases o2
  · exact ⟨h2, rfl⟩
  · exact ⟨h2, rfl⟩
  · exact ⟨h2, rfl⟩
  · exact .inr ⟨h2.1, rfl, h2.2⟩
theorem sl_of {a b : Sl} (h : (!(sEq a.id b.id && (sEq a.layer b.layer && (sEq a.exp b.exp && (a.arm == b.arm && (a.from_ == b.from_ && (a.to_ == b.to_ && (a.fin == b.fin && true)))))))) = false) : a = b := by
  cases a; cases b
  simp [sEqD] at h
  simp [h]
theorem optN : ∃ z : Sl, optA none = .tup [slA z, bv false] := ⟨sl0, rfl⟩
def cs (c : Nat → Nat) (i : Nat) : Nat := if i = 0 then 0 else if i = 1 then c 0 else c 0 + c 1
set_option maxHeartbeats 4000000 in
set_option maxRecDepth 100000 in
theorem mergesA (l : List Chg) (a b : Nat) (hok : ∀ x ∈ l, x.ok) (ha : a < 256) (hb : b < 256) : AFn Tryd.prog GS 7 [chsA l, u8A a, u8A b] 0 [] (Is (bv true)) := by
  refine afn_of Tryd.func7 rfl mixed (by kernel_rfl) ?_
  conv => whnf
  (refine acall [] (by kernel_rfl) (awakeA) rfl ?_ ?_; (focus ((repeat' (first | rfl | trivial | apply And.intro)); done)); (conv => whnf))
  (refine vif_split (fun h => ?_) (fun h => ?_) <;> (try simp only [sEqD, cond_true, cond_false, Bool.not_eq_true', Bool.not_eq_false', decide_eq_true_eq, decide_eq_false_iff_not, beq_iff_eq, bne_iff_ne, beq_eq_false_iff_ne, bne_eq_false_iff_eq, ne_eq, Bool.not_eq_eq_eq_not, Bool.not_true, Bool.not_false, Bool.false_eq_true, Bool.true_eq_false, Decidable.not_not, gt_iff_lt, ge_iff_le, Int.not_lt, Int.not_le] at h) <;> (conv => whnf))
  · exact aret [] (by repeat' (first | rfl | trivial | apply And.intro))
  have hl : l.length ≤ 1000 := by simp only [List.length_map] at h; omega
  clear h
  have hR := reach_rch l
  have hA := reachA l hl hok
  obtain ⟨r, hr⟩ : ∃ r, r = reachR l := ⟨_, rfl⟩
  rw [← hr] at hA hR
  clear hr
  have hn := hR.good.now
  have hln := hR.good.len
  have hft := hR.good.fit
  (refine acallF [] (by kernel_rfl) (hA) ?_ ?_; (focus ((repeat' (first | rfl | trivial | apply And.intro)); done)); rintro _ _ _ ⟨rfl, rfl, rfl⟩; (conv => whnf))
  have hM := merge1A r (idOf a) (idOf b) r.now (idOf_size _) (idOf_size _) hft.s hft.len
  have he : readyE (validB r) r r.now = 0 := by
    rw [(valid_iff r).2 hR.good]
    show (if r.now < r.now ∨ 1099511627776 < r.now then (26 : Int) else 0) = 0
    rw [if_neg (by omega)]
  rw [he, keyI, keyI] at hM
  unfold mrgR at hM
  rw [if_neg (by simp)] at hM
  have hM : AFn Tryd.prog GS 28 [rgA r, sv (idOf a), sv (idOf b), iv r.now] 0 [] (Is (mrgV (if idOf a = idOf b then (rg0, [], 15) else if rt r.links (idOf a) = rt r.links (idOf b) then (⟨r.now, r.links, r.slots⟩, [], 0) else if 64 ≤ r.links.length then (rg0, [], 19) else (rgQ r (idOf a) (idOf b), mrgE (d1 (lsQ r (idOf a) (idOf b)) (idOf a) r.slots) r.now r.slots r.slots.length, 0)))) := hM
  have hI := idA a ha
  have hI2 := idA b hb
  refine AAr.i64 (by omega) ?_
  conv => whnf
  (refine acall [] (by kernel_rfl) (hI) rfl ?_ ?_; (focus ((repeat' (first | rfl | trivial | apply And.intro)); done)); (conv => whnf))
  refine AAr.i64 (by omega) ?_
  conv => whnf
  (refine acall [] (by kernel_rfl) (hI2) rfl ?_ ?_; (focus ((repeat' (first | rfl | trivial | apply And.intro)); done)); (conv => whnf))
  by_cases h1 : idOf a = idOf b
  · rw [if_pos h1] at hM
    (refine acallF [] (by kernel_rfl) (hM) ?_ ?_; (focus ((repeat' (first | rfl | trivial | apply And.intro)); done)); rintro _ _ _ ⟨rfl, rfl, rfl⟩; (conv => whnf))
    rw [h1]
    (repeat' (first | (refine And.intro ?_ ?_ <;> (conv => whnf)) | (refine vif_split (fun h => ?_) (fun h => ?_) <;> (try simp only [sEqD, cond_true, cond_false, Bool.not_eq_true', Bool.not_eq_false', decide_eq_true_eq, decide_eq_false_iff_not, beq_iff_eq, bne_iff_ne, beq_eq_false_iff_ne, bne_eq_false_iff_eq, ne_eq, Bool.not_eq_eq_eq_not, Bool.not_true, Bool.not_false, Bool.false_eq_true, Bool.true_eq_false, Decidable.not_not, gt_iff_lt, ge_iff_le, Int.not_lt, Int.not_le] at h) <;> (conv => whnf)) | (refine AAr.i64 (by omega) ?_; conv => whnf) | (refine AIn.mk' _ rfl (by simp only [List.length_map, List.length_append, List.length_cons, List.length_nil, List.length_take, List.length_drop, List.length_set]; omega) ?_; conv => whnf) | (refine ARd.mapAt (by assumption) ?_; conv => whnf) | (refine ARd.set (by (try simp only [List.length_map, List.length_append, List.length_cons, List.length_nil, List.length_take, List.length_drop, List.length_set] at *); omega) ?_; conv => whnf) | (refine ARd.map (by omega) ?_; conv => whnf) | (refine VReq.mk (by first | decide | omega) ?_; conv => whnf) | (refine AEq.mk (by kernel_rfl) rfl rfl ?_; conv => whnf) | (refine VReq.mk (app_ok (by (try simp only [List.length_map, List.length_append, List.length_cons, List.length_nil, List.length_take, List.length_drop, List.length_set] at *); omega) (by kernel_rfl)) ?_; conv => whnf)))
    · exact aret [] (by repeat' (first | rfl | trivial | apply And.intro))
    · exact absurd trivial h
  rw [if_neg h1] at hM
  by_cases h2 : rt r.links (idOf a) = rt r.links (idOf b)
  · rw [if_pos h2] at hM
    have h2x := h2
    have hL : ∀ i, i < 2 → Lay (curO r (idOf a) (layOf i)) (curO r (idOf b) (layOf i)) (curO r (idOf a) (layOf i)) (curO r (idOf b) (layOf i)) ((fun _ => 0) i) := fun i _ => lay_same hR.good h2 _
    have hM : AFn Tryd.prog GS 28 [rgA r, sv (idOf a), sv (idOf b), iv r.now] 0 [] (Is (.tup [rgA r, slsA [], iv 0])) := hM
    have hcl : cs (fun _ => 0) 2 = ([] : List Sl).length := rfl
    have hcb : ∀ i, i < 2 → (fun _ : Nat => 0) i ≤ 1 := fun _ _ => by simp
    generalize hc : (fun _ : Nat => 0) = c at hL hcl hcb
    have hQ := hR.good
    (refine acallF [] (by kernel_rfl) (hM) ?_ ?_; (focus ((repeat' (first | rfl | trivial | apply And.intro)); done)); rintro _ _ _ ⟨rfl, rfl, rfl⟩; (conv => whnf))
    refine aloopH ws7_1 [14, 13] (fun i : Nat => [(14, iv i), (13, iv (cs c i))]) (fun i => i ≤ 2) (fun i => 2 - i) 0 (by kernel_rfl) (fun _ => rfl) (by kernel_rfl) (by decide) (by repeat' (first | rfl | trivial | apply And.intro)) (by repeat' (first | rfl | trivial | apply And.intro)) ?_
    rintro i hi2
    conv => whnf
    refine vif_split (fun hi => ?_) (fun hi => ?_)
    · have hi : i < 2 := by simp at hi; omega
      have hly := hL i hi
      have hst : cs c (i + 1) = cs c i + c i := by
        unfold cs
        rcases (by omega : i = 0 ∨ i = 1) with e | e <;> subst e <;> simp
      have h1 := cur1G hR.good (idOf a) (layOf i)
      have h2 := cur1G hR.good (idOf b) (layOf i)
      have h3 := cur1G hQ (idOf a) (layOf i)
      have h4 := cur1G hQ (idOf b) (layOf i)
      have hcs : cs c i ≤ 2 := by
        have b0 := hcb 0 (by omega)
        have b1 := hcb 1 (by omega)
        unfold cs
        split
        · omega
        · split <;> omega
      generalize hyy : layOf i = y at h1 h2 h3 h4 hly
      conv => whnf
      (refine acallF [] (by kernel_rfl) (layersA) ?_ ?_; (focus ((repeat' (first | rfl | trivial | apply And.intro)); done)); rintro _ _ _ ⟨rfl, rfl, rfl⟩; (conv => whnf))
      refine AIn.mk' i rfl (by rw [List.length_map, layL_len]; omega) ?_
      conv => whnf
      refine strRd (by rw [layL_len]; omega) ?_
      have e0 : layL.getD i ⟨#[]⟩ = y := hyy
      rw [e0]
      conv => whnf
      have ho : curO r (idOf b) y = curO r (idOf a) y := (cur_congr hR.good h2x).symm
      rw [ho] at h2 h4
      clear hly ho
      generalize curO r (idOf a) y = o at h1 h2 h3 h4
      have ec : c i = 0 := by rw [← hc]
      rw [ec] at hst
      clear hL hcl hyy e0 hc
      cases o with
      | none =>
        obtain ⟨z, hz⟩ := optN
        try rw [hz] at h1
        try rw [hz] at h2
        try rw [hz] at h3
        try rw [hz] at h4
        clear hz
        (refine acall [] (by kernel_rfl) (h1) rfl ?_ ?_; (focus ((repeat' (first | rfl | trivial | apply And.intro)); done)); (conv => whnf))
        (refine acall [] (by kernel_rfl) (h2) rfl ?_ ?_; (focus ((repeat' (first | rfl | trivial | apply And.intro)); done)); (conv => whnf))
        (refine acall [] (by kernel_rfl) (h3) rfl ?_ ?_; (focus ((repeat' (first | rfl | trivial | apply And.intro)); done)); (conv => whnf))
        (refine acall [] (by kernel_rfl) (h4) rfl ?_ ?_; (focus ((repeat' (first | rfl | trivial | apply And.intro)); done)); (conv => whnf))
        repeat' (first
          | (refine AEq.mk (by kernel_rfl) rfl rfl ?_; conv => whnf)
          | (refine vif_split (fun h => ?_) (fun h => ?_); (focus (exfalso; revert h; simp [sEqD]; done)); (conv => whnf))
          | (refine vif_split (fun h => ?_) (fun h => ?_); rotate_left 1; (focus (exfalso; revert h; simp [sEqD]; done)); (conv => whnf))
          | (refine AAr.i64 (by omega) ?_; conv => whnf))
        all_goals first
          | (refine aback (i + 1) [] [] rfl (by show 2 - (i + 1) < 2 - i; omega) (by show i + 1 ≤ 2; omega) (by repeat' (first | rfl | trivial | apply And.intro)) ?_; rw [hst]; repeat' (first | rfl | trivial | apply And.intro); done)
          | trace_state
      | some s =>
        obtain ⟨z, hz⟩ := optN
        try rw [hz] at h1
        try rw [hz] at h2
        try rw [hz] at h3
        try rw [hz] at h4
        clear hz
        (refine acall [] (by kernel_rfl) (h1) rfl ?_ ?_; (focus ((repeat' (first | rfl | trivial | apply And.intro)); done)); (conv => whnf))
        (refine acall [] (by kernel_rfl) (h2) rfl ?_ ?_; (focus ((repeat' (first | rfl | trivial | apply And.intro)); done)); (conv => whnf))
        (refine acall [] (by kernel_rfl) (h3) rfl ?_ ?_; (focus ((repeat' (first | rfl | trivial | apply And.intro)); done)); (conv => whnf))
        (refine acall [] (by kernel_rfl) (h4) rfl ?_ ?_; (focus ((repeat' (first | rfl | trivial | apply And.intro)); done)); (conv => whnf))
        repeat' (first
          | (refine AEq.mk (by kernel_rfl) rfl rfl ?_; conv => whnf)
          | (refine vif_split (fun h => ?_) (fun h => ?_); (focus (exfalso; revert h; simp [sEqD]; done)); (conv => whnf))
          | (refine vif_split (fun h => ?_) (fun h => ?_); rotate_left 1; (focus (exfalso; revert h; simp [sEqD]; done)); (conv => whnf))
          | (refine AAr.i64 (by omega) ?_; conv => whnf))
        all_goals first
          | (refine aback (i + 1) [] [] rfl (by show 2 - (i + 1) < 2 - i; omega) (by show i + 1 ≤ 2; omega) (by repeat' (first | rfl | trivial | apply And.intro)) ?_; rw [hst]; repeat' (first | rfl | trivial | apply And.intro); done)
          | trace_state
    · have : i = 2 := by simp at hi; omega
      subst this
      conv => whnf
      (refine aret [] ?_; refine congrArg Value.bool ?_)
      rw [hcl, List.length_map]
      simp
  rw [if_neg h2] at hM
  by_cases h3 : 64 ≤ r.links.length
  · rw [if_pos h3] at hM
    (refine acallF [] (by kernel_rfl) (hM) ?_ ?_; (focus ((repeat' (first | rfl | trivial | apply And.intro)); done)); rintro _ _ _ ⟨rfl, rfl, rfl⟩; (conv => whnf))
    (repeat' (first | (refine And.intro ?_ ?_ <;> (conv => whnf)) | (refine vif_split (fun h => ?_) (fun h => ?_) <;> (try simp only [sEqD, cond_true, cond_false, Bool.not_eq_true', Bool.not_eq_false', decide_eq_true_eq, decide_eq_false_iff_not, beq_iff_eq, bne_iff_ne, beq_eq_false_iff_ne, bne_eq_false_iff_eq, ne_eq, Bool.not_eq_eq_eq_not, Bool.not_true, Bool.not_false, Bool.false_eq_true, Bool.true_eq_false, Decidable.not_not, gt_iff_lt, ge_iff_le, Int.not_lt, Int.not_le] at h) <;> (conv => whnf)) | (refine AAr.i64 (by omega) ?_; conv => whnf) | (refine AIn.mk' _ rfl (by simp only [List.length_map, List.length_append, List.length_cons, List.length_nil, List.length_take, List.length_drop, List.length_set]; omega) ?_; conv => whnf) | (refine ARd.mapAt (by assumption) ?_; conv => whnf) | (refine ARd.set (by (try simp only [List.length_map, List.length_append, List.length_cons, List.length_nil, List.length_take, List.length_drop, List.length_set] at *); omega) ?_; conv => whnf) | (refine ARd.map (by omega) ?_; conv => whnf) | (refine VReq.mk (by first | decide | omega) ?_; conv => whnf) | (refine AEq.mk (by kernel_rfl) rfl rfl ?_; conv => whnf) | (refine VReq.mk (app_ok (by (try simp only [List.length_map, List.length_append, List.length_cons, List.length_nil, List.length_take, List.length_drop, List.length_set] at *); omega) (by kernel_rfl)) ?_; conv => whnf)))
    · exact absurd (by assumption) h1
    · (refine aret [] ?_; refine congrArg Value.bool ?_)
      show ((((r.links.map lkF).length : Nat) : Int) == 64) = true
      rw [List.length_map, beq_iff_eq]
      omega
  rw [if_neg h3] at hM
  have hQ : Good (rgQ r (idOf a) (idOf b)) := hR.good.merge (Int.le_refl _) hn.2 (keyI _) (keyI _) h1 h2 h3
  have hL : ∀ i, i < 2 → Lay (curO r (idOf a) (layOf i)) (curO r (idOf b) (layOf i)) (curO (rgQ r (idOf a) (idOf b)) (idOf a) (layOf i)) (curO (rgQ r (idOf a) (idOf b)) (idOf b) (layOf i)) ((fun i => cntY r (idOf a) (idOf b) (layOf i)) i) := fun i _ => lay_merge hR.good h2 hQ _
  have hcl : cs (fun i => cntY r (idOf a) (idOf b) (layOf i)) 2 = (mrgE (d1 (lsQ r (idOf a) (idOf b)) (idOf a) r.slots) r.now r.slots r.slots.length).length := (ended_count hR.good h2 hR.lays).symm
  have hcb : ∀ i, i < 2 → (fun i => cntY r (idOf a) (idOf b) (layOf i)) i ≤ 1 := fun i _ => by simp only [cntY]; split <;> omega
  generalize (fun i => cntY r (idOf a) (idOf b) (layOf i)) = c at hL hcl hcb
  generalize mrgE (d1 (lsQ r (idOf a) (idOf b)) (idOf a) r.slots) r.now r.slots r.slots.length = ed at hM hcl
  generalize rgQ r (idOf a) (idOf b) = q at hM hL hQ
  have hM : AFn Tryd.prog GS 28 [rgA r, sv (idOf a), sv (idOf b), iv r.now] 0 [] (Is (.tup [rgA q, slsA ed, iv 0])) := hM
  (refine acallF [] (by kernel_rfl) (hM) ?_ ?_; (focus ((repeat' (first | rfl | trivial | apply And.intro)); done)); rintro _ _ _ ⟨rfl, rfl, rfl⟩; (conv => whnf))
  refine aloopH ws7_1 [14, 13] (fun i : Nat => [(14, iv i), (13, iv (cs c i))]) (fun i => i ≤ 2) (fun i => 2 - i) 0 (by kernel_rfl) (fun _ => rfl) (by kernel_rfl) (by decide) (by repeat' (first | rfl | trivial | apply And.intro)) (by repeat' (first | rfl | trivial | apply And.intro)) ?_
  rintro i hi2
  conv => whnf
  refine vif_split (fun hi => ?_) (fun hi => ?_)
  · have hi : i < 2 := by simp at hi; omega
    have hly := hL i hi
    have hst : cs c (i + 1) = cs c i + c i := by
      unfold cs
      rcases (by omega : i = 0 ∨ i = 1) with e | e <;> subst e <;> simp
    have h1 := cur1G hR.good (idOf a) (layOf i)
    have h2 := cur1G hR.good (idOf b) (layOf i)
    have h3 := cur1G hQ (idOf a) (layOf i)
    have h4 := cur1G hQ (idOf b) (layOf i)
    have hcs : cs c i ≤ 2 := by
      have b0 := hcb 0 (by omega)
      have b1 := hcb 1 (by omega)
      unfold cs
      split
      · omega
      · split <;> omega
    generalize hyy : layOf i = y at h1 h2 h3 h4 hly
    conv => whnf
    (refine acallF [] (by kernel_rfl) (layersA) ?_ ?_; (focus ((repeat' (first | rfl | trivial | apply And.intro)); done)); rintro _ _ _ ⟨rfl, rfl, rfl⟩; (conv => whnf))
    refine AIn.mk' i rfl (by rw [List.length_map, layL_len]; omega) ?_
    conv => whnf
    refine strRd (by rw [layL_len]; omega) ?_
    have e0 : layL.getD i ⟨#[]⟩ = y := hyy
    rw [e0]
    conv => whnf
    generalize curO r (idOf a) y = o1 at h1 hly
    generalize curO r (idOf b) y = o2 at h2 hly
    generalize curO q (idOf a) y = o3 at h3 hly
    generalize curO q (idOf b) y = o4 at h4 hly
    obtain ⟨e43, hly⟩ := hly
    subst e43
    clear hL hcl hyy e0
    cases o1 with
    | none =>
      cases o2 with
      | none =>
        obtain ⟨eu, ec⟩ := hly
        subst eu
        rw [ec] at hst
        obtain ⟨z, hz⟩ := optN
        try rw [hz] at h1
        try rw [hz] at h2
        try rw [hz] at h3
        try rw [hz] at h4
        clear hz
        (refine acall [] (by kernel_rfl) (h1) rfl ?_ ?_; (focus ((repeat' (first | rfl | trivial | apply And.intro)); done)); (conv => whnf))
        (refine acall [] (by kernel_rfl) (h2) rfl ?_ ?_; (focus ((repeat' (first | rfl | trivial | apply And.intro)); done)); (conv => whnf))
        (refine acall [] (by kernel_rfl) (h3) rfl ?_ ?_; (focus ((repeat' (first | rfl | trivial | apply And.intro)); done)); (conv => whnf))
        (refine acall [] (by kernel_rfl) (h4) rfl ?_ ?_; (focus ((repeat' (first | rfl | trivial | apply And.intro)); done)); (conv => whnf))
        repeat' (first
          | (refine AEq.mk (by kernel_rfl) rfl rfl ?_; conv => whnf)
          | (refine vif_split (fun h => ?_) (fun h => ?_); (focus (exfalso; revert h; simp [sEqD]; done)); (conv => whnf))
          | (refine vif_split (fun h => ?_) (fun h => ?_); rotate_left 1; (focus (exfalso; revert h; simp [sEqD]; done)); (conv => whnf))
          | (refine AAr.i64 (by omega) ?_; conv => whnf))
        all_goals first
          | (refine aback (i + 1) [] [] rfl (by show 2 - (i + 1) < 2 - i; omega) (by show i + 1 ≤ 2; omega) (by repeat' (first | rfl | trivial | apply And.intro)) ?_; rw [hst]; repeat' (first | rfl | trivial | apply And.intro); done)
          | trace_state
      | some t =>
        obtain ⟨eu, ec⟩ := hly
        subst eu
        rw [ec] at hst
        obtain ⟨z, hz⟩ := optN
        try rw [hz] at h1
        try rw [hz] at h2
        try rw [hz] at h3
        try rw [hz] at h4
        clear hz
        (refine acall [] (by kernel_rfl) (h1) rfl ?_ ?_; (focus ((repeat' (first | rfl | trivial | apply And.intro)); done)); (conv => whnf))
        (refine acall [] (by kernel_rfl) (h2) rfl ?_ ?_; (focus ((repeat' (first | rfl | trivial | apply And.intro)); done)); (conv => whnf))
        (refine acall [] (by kernel_rfl) (h3) rfl ?_ ?_; (focus ((repeat' (first | rfl | trivial | apply And.intro)); done)); (conv => whnf))
        (refine acall [] (by kernel_rfl) (h4) rfl ?_ ?_; (focus ((repeat' (first | rfl | trivial | apply And.intro)); done)); (conv => whnf))
        repeat' (first
          | (refine AEq.mk (by kernel_rfl) rfl rfl ?_; conv => whnf)
          | (refine vif_split (fun h => ?_) (fun h => ?_); (focus (exfalso; revert h; simp [sEqD]; done)); (conv => whnf))
          | (refine vif_split (fun h => ?_) (fun h => ?_); rotate_left 1; (focus (exfalso; revert h; simp [sEqD]; done)); (conv => whnf))
          | (refine AAr.i64 (by omega) ?_; conv => whnf))
        all_goals first
          | (refine aback (i + 1) [] [] rfl (by show 2 - (i + 1) < 2 - i; omega) (by show i + 1 ≤ 2; omega) (by repeat' (first | rfl | trivial | apply And.intro)) ?_; rw [hst]; repeat' (first | rfl | trivial | apply And.intro); done)
          | trace_state
    | some s =>
      cases o2 with
      | none =>
        obtain ⟨eu, ec⟩ := hly
        subst eu
        rw [ec] at hst
        obtain ⟨z, hz⟩ := optN
        try rw [hz] at h1
        try rw [hz] at h2
        try rw [hz] at h3
        try rw [hz] at h4
        clear hz
        (refine acall [] (by kernel_rfl) (h1) rfl ?_ ?_; (focus ((repeat' (first | rfl | trivial | apply And.intro)); done)); (conv => whnf))
        (refine acall [] (by kernel_rfl) (h2) rfl ?_ ?_; (focus ((repeat' (first | rfl | trivial | apply And.intro)); done)); (conv => whnf))
        (refine acall [] (by kernel_rfl) (h3) rfl ?_ ?_; (focus ((repeat' (first | rfl | trivial | apply And.intro)); done)); (conv => whnf))
        (refine acall [] (by kernel_rfl) (h4) rfl ?_ ?_; (focus ((repeat' (first | rfl | trivial | apply And.intro)); done)); (conv => whnf))
        repeat' (first
          | (refine AEq.mk (by kernel_rfl) rfl rfl ?_; conv => whnf)
          | (refine vif_split (fun h => ?_) (fun h => ?_); (focus (exfalso; revert h; simp [sEqD]; done)); (conv => whnf))
          | (refine vif_split (fun h => ?_) (fun h => ?_); rotate_left 1; (focus (exfalso; revert h; simp [sEqD]; done)); (conv => whnf))
          | (refine AAr.i64 (by omega) ?_; conv => whnf))
        all_goals first
          | (refine aback (i + 1) [] [] rfl (by show 2 - (i + 1) < 2 - i; omega) (by show i + 1 ≤ 2; omega) (by repeat' (first | rfl | trivial | apply And.intro)) ?_; rw [hst]; repeat' (first | rfl | trivial | apply And.intro); done)
          | trace_state
      | some t =>
        rcases hly with ⟨e1, eu, ec⟩ | ⟨e1, ec, x, eu, ex, ef⟩
        · subst e1; subst eu
          rw [ec] at hst
          obtain ⟨z, hz⟩ := optN
          try rw [hz] at h1
          try rw [hz] at h2
          try rw [hz] at h3
          try rw [hz] at h4
          clear hz
          (refine acall [] (by kernel_rfl) (h1) rfl ?_ ?_; (focus ((repeat' (first | rfl | trivial | apply And.intro)); done)); (conv => whnf))
          (refine acall [] (by kernel_rfl) (h2) rfl ?_ ?_; (focus ((repeat' (first | rfl | trivial | apply And.intro)); done)); (conv => whnf))
          (refine acall [] (by kernel_rfl) (h3) rfl ?_ ?_; (focus ((repeat' (first | rfl | trivial | apply And.intro)); done)); (conv => whnf))
          (refine acall [] (by kernel_rfl) (h4) rfl ?_ ?_; (focus ((repeat' (first | rfl | trivial | apply And.intro)); done)); (conv => whnf))
          repeat' (first
            | (refine AEq.mk (by kernel_rfl) rfl rfl ?_; conv => whnf)
            | (refine vif_split (fun h => ?_) (fun h => ?_); (focus (exfalso; revert h; simp [sEqD]; done)); (conv => whnf))
            | (refine vif_split (fun h => ?_) (fun h => ?_); rotate_left 1; (focus (exfalso; revert h; simp [sEqD]; done)); (conv => whnf))
            | (refine AAr.i64 (by omega) ?_; conv => whnf))
          all_goals first
            | (refine aback (i + 1) [] [] rfl (by show 2 - (i + 1) < 2 - i; omega) (by show i + 1 ≤ 2; omega) (by repeat' (first | rfl | trivial | apply And.intro)) ?_; rw [hst]; repeat' (first | rfl | trivial | apply And.intro); done)
            | trace_state
        · subst eu
          rw [ec] at hst
          rcases ex with ex | ex
          · subst ex
            (refine acall [] (by kernel_rfl) (h1) rfl ?_ ?_; (focus ((repeat' (first | rfl | trivial | apply And.intro)); done)); (conv => whnf))
            (refine acall [] (by kernel_rfl) (h2) rfl ?_ ?_; (focus ((repeat' (first | rfl | trivial | apply And.intro)); done)); (conv => whnf))
            (refine acall [] (by kernel_rfl) (h3) rfl ?_ ?_; (focus ((repeat' (first | rfl | trivial | apply And.intro)); done)); (conv => whnf))
            (refine acall [] (by kernel_rfl) (h4) rfl ?_ ?_; (focus ((repeat' (first | rfl | trivial | apply And.intro)); done)); (conv => whnf))
            repeat' (first
              | (refine AEq.mk (by kernel_rfl) rfl rfl ?_; conv => whnf)
              | (refine vif_split (fun h => ?_) (fun h => ?_); (focus (exfalso; revert h; simp [sEqD]; done)); (conv => whnf))
              | (refine vif_split (fun h => ?_) (fun h => ?_); rotate_left 1; (focus (exfalso; revert h; simp [sEqD]; done)); (conv => whnf))
              | (refine vif_split (fun h => ?_) (fun h => ?_) <;> (conv => whnf))
              | (refine AAr.i64 (by omega) ?_; conv => whnf))
            all_goals first
              | exact absurd (sl_of h) e1
              | (exfalso; revert h; rw [← ef]; simp; done)
              | (refine aback (i + 1) [] [] rfl (by show 2 - (i + 1) < 2 - i; omega) (by show i + 1 ≤ 2; omega) (by repeat' (first | rfl | trivial | apply And.intro)) ?_; rw [hst]; repeat' (first | rfl | trivial | apply And.intro); done)
              | trace_state
          · subst ex
            (refine acall [] (by kernel_rfl) (h1) rfl ?_ ?_; (focus ((repeat' (first | rfl | trivial | apply And.intro)); done)); (conv => whnf))
            (refine acall [] (by kernel_rfl) (h2) rfl ?_ ?_; (focus ((repeat' (first | rfl | trivial | apply And.intro)); done)); (conv => whnf))
            (refine acall [] (by kernel_rfl) (h3) rfl ?_ ?_; (focus ((repeat' (first | rfl | trivial | apply And.intro)); done)); (conv => whnf))
            (refine acall [] (by kernel_rfl) (h4) rfl ?_ ?_; (focus ((repeat' (first | rfl | trivial | apply And.intro)); done)); (conv => whnf))
            repeat' (first
              | (refine AEq.mk (by kernel_rfl) rfl rfl ?_; conv => whnf)
              | (refine vif_split (fun h => ?_) (fun h => ?_); (focus (exfalso; revert h; simp [sEqD]; done)); (conv => whnf))
              | (refine vif_split (fun h => ?_) (fun h => ?_); rotate_left 1; (focus (exfalso; revert h; simp [sEqD]; done)); (conv => whnf))
              | (refine vif_split (fun h => ?_) (fun h => ?_) <;> (conv => whnf))
              | (refine AAr.i64 (by omega) ?_; conv => whnf))
            all_goals first
              | exact absurd (sl_of h) e1
              | (exfalso; revert h; rw [← ef]; simp; done)
              | (refine aback (i + 1) [] [] rfl (by show 2 - (i + 1) < 2 - i; omega) (by show i + 1 ≤ 2; omega) (by repeat' (first | rfl | trivial | apply And.intro)) ?_; rw [hst]; repeat' (first | rfl | trivial | apply And.intro); done)
              | trace_state
  · have : i = 2 := by simp at hi; omega
    subst this
    conv => whnf
    (refine aret [] ?_; refine congrArg Value.bool ?_)
    rw [hcl, List.length_map]
    simp
end Go.Proofs.YtinpgogjkmmjpaaDoor.Sx
