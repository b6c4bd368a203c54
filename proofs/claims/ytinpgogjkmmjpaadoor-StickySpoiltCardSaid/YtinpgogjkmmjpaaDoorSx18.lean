/- The walk of the sticky law Spoilt. Condition: as Sx1's. -/
import Derived.Test.YtinpgogjkmmjpaaDoorSx15
set_option linter.unusedVariables false
set_option linter.unusedSimpArgs false
namespace Go.Proofs.YtinpgogjkmmjpaaDoor.Sx
open Go Go.RowKit Go.Proofs.YtinpgogjkmmjpaaDoor.Vc Go.Proofs.YtinpgogjkmmjpaaDoor.Ax Go.Proofs.YtinpgogjkmmjpaaDoor.Ky Go.Proofs.YtinpgogjkmmjpaaDoor.Id Go.Proofs.YtinpgogjkmmjpaaDoor.Sp

abbrev i8A (n : Int) : AV := .v (.int .i8 n)
theorem tmod13 (n : Nat) : Int.tmod (n : Int) 13 = ((n % 13 : Nat) : Int) := rfl
theorem tmodN (n m : Nat) : Int.tmod (n : Int) (m : Int) = ((n % m : Nat) : Int) := rfl
theorem wrap_u8 (n : Int) : ∃ m : Nat, IntKind.u8.wrap n = (m : Int) ∧ m < 256 := by
  have e : IntKind.u8.wrap n = n % 256 := by
    unfold IntKind.wrap
    simp [IntKind.bits, IntKind.signed]
  exact ⟨(n % 256).toNat, by rw [e]; omega, by omega⟩
theorem regS_link {r : Rg} (h : RegS r) (n : Int) (i : Nat) (k : Lk) (h1 : k.a.size ≤ 140737488355328) (h2 : k.b.size ≤ 140737488355328) : RegS ⟨n, r.links.set i k, r.slots⟩ :=
  ⟨fun x hx => (List.mem_or_eq_of_mem_set hx).elim (fun h' => h.l x h') (fun e => by rw [e]; exact ⟨h1, h2⟩), h.s⟩
theorem regS_slot {r : Rg} (h : RegS r) (n : Int) (i : Nat) (k : Sl) (h1 : k.id.size ≤ 140737488355328) (h2 : k.layer.size ≤ 140737488355328) (h3 : k.exp.size ≤ 140737488355328) : RegS ⟨n, r.links, r.slots.set i k⟩ :=
  ⟨h.l, fun x hx => (List.mem_or_eq_of_mem_set hx).elim (fun h' => h.s x h') (fun e => by rw [e]; exact ⟨h1, h2, h3⟩)⟩
theorem i8_of {n : Int} (h : (Lit.int .i8 n).wf = true) : -128 ≤ n ∧ n ≤ 127 := by
  simpa [Lit.wf, IntKind.min, IntKind.max, IntKind.signed, IntKind.bits] using h
theorem rg_setL (n : Int) (ls : List Lk) (ss : List Sl) (i : Nat) (k : Lk) : rgA ⟨n, ls.set i k, ss⟩ = .agg [iv n, .lst 3 ((ls.map lkF).set i (lkF k)), slsA ss] := by
  show AV.agg [iv n, .lst 3 ((ls.set i k).map lkF), slsA ss] = _
  rw [List.map_set]
theorem rg_setS (n : Int) (ls : List Lk) (ss : List Sl) (i : Nat) (k : Sl) : rgA ⟨n, ls, ss.set i k⟩ = .agg [iv n, lksA ls, .lst 7 ((ss.map slF).set i (slF k))] := by
  show AV.agg [iv n, lksA ls, .lst 7 ((ss.set i k).map slF)] = _
  rw [List.map_set]
theorem rg_setS2 (n : Int) (ls : List Lk) (ss : List Sl) (i : Nat) (k0 : List FV) (k : Sl) : rgA ⟨n, ls, ss.set i k⟩ = .agg [iv n, lksA ls, .lst 7 (((ss.map slF).set i k0).set i (slF k))] := by
  rw [rg_setS, List.set_set]
set_option maxHeartbeats 16000000 in
set_option maxRecDepth 100000 in
theorem spoiltA (l : List Chg) (at_ fl : Nat) (n : Int) (s : ByteArray) (hok : ∀ x ∈ l, x.ok) (hat : at_ < 256) (hfl : fl < 256) (hn8 : -128 ≤ n ∧ n ≤ 127) : AFn Tryd.prog GS 4 [chsA l, u8A at_, u8A fl, i8A n, sv s] 0 [] (Is (bv true)) := by
  refine afn_of Tryd.func4 rfl mixed (by kernel_rfl) ?_
  conv => whnf
  (refine acall [] (by kernel_rfl) (awakeA) rfl ?_ ?_; (focus ((repeat' (first | rfl | trivial | apply And.intro)); done)); (conv => whnf))
  (repeat' (first | (refine And.intro ?_ ?_ <;> (conv => whnf)) | (refine vif_split (fun h => ?_) (fun h => ?_) <;> (try simp only [sEqD, cond_true, cond_false, Bool.not_eq_true', Bool.not_eq_false', decide_eq_true_eq, decide_eq_false_iff_not, beq_iff_eq, bne_iff_ne, beq_eq_false_iff_ne, bne_eq_false_iff_eq, ne_eq, Bool.not_eq_eq_eq_not, Bool.not_true, Bool.not_false, Bool.false_eq_true, Bool.true_eq_false, Decidable.not_not, gt_iff_lt, ge_iff_le, Int.not_lt, Int.not_le] at h) <;> (conv => whnf)) | (refine AAr.i64 (by omega) ?_; conv => whnf) | (refine AIn.mk' _ rfl (by simp only [List.length_map, List.length_append, List.length_cons, List.length_nil, List.length_take, List.length_drop, List.length_set]; omega) ?_; conv => whnf) | (refine ARd.mapAt (by assumption) ?_; conv => whnf) | (refine ARd.set (by (try simp only [List.length_map, List.length_append, List.length_cons, List.length_nil, List.length_take, List.length_drop, List.length_set] at *); omega) ?_; conv => whnf) | (refine ARd.map (by omega) ?_; conv => whnf) | (refine VReq.mk (by first | decide | omega) ?_; conv => whnf) | (refine AEq.mk (by kernel_rfl) rfl rfl ?_; conv => whnf) | (refine VReq.mk (app_ok (by (try simp only [List.length_map, List.length_append, List.length_cons, List.length_nil, List.length_take, List.length_drop, List.length_set] at *); omega) (by kernel_rfl)) ?_; conv => whnf)))
  all_goals try exact aret [] (by repeat' (first | rfl | trivial | apply And.intro))
  rename_i hl0
  have hl : l.length ≤ 1000 := by simp only [List.length_map] at hl0; omega
  have hs : s.size ≤ 100 := by omega
  clear hl0
  have hR := reach_rch l
  have hA := reachA l hl hok
  obtain ⟨r, hr⟩ : ∃ r, r = reachR l := ⟨_, rfl⟩
  rw [← hr] at hA hR
  clear hr
  have hn := hR.good.now
  have hln := hR.good.len
  have hft := hR.good.fit
  (refine acallF [] (by kernel_rfl) (hA) ?_ ?_; (focus ((repeat' (first | rfl | trivial | apply And.intro)); done)); rintro _ _ _ ⟨rfl, rfl, rfl⟩; (conv => whnf))
  refine adrawC pln4 [1, 2, 3, 4, 5] [(12, 12), (27, 37)] 4 [(12, .ptr 3 0)] [(0, rgB r), (1, .rows 40 3 (r.links.map lkF)), (2, .rows 43 7 (r.slots.map slF)), (3, .var 27 [iv r.now, .own 1, .own 2])] (by kernel_rfl) (by kernel_rfl) ?_ ?_
  · conv => whnf
    repeat' (first
      | (refine And.intro ?_ ?_ <;> (conv => whnf))
      | (refine VReq.mk (app_ok (by simp only [List.length_map, List.length_nil]; omega) (by kernel_rfl)) ?_; conv => whnf))
    all_goals first
      | (refine arbD [(1, .lab 2), (2, .lab 4), (3, .lab 5)] [] ?_ ?_ ?_; (focus rfl); (focus (repeat' (first | rfl | trivial | apply And.intro))); (focus (repeat' (first | rfl | trivial | apply And.intro))); done)
      | (refine arbD [(1, .lab 2), (2, .lab 5), (3, .lab 3)] [] ?_ ?_ ?_; (focus rfl); (focus (repeat' (first | rfl | trivial | apply And.intro))); (focus (repeat' (first | rfl | trivial | apply And.intro))); done)
      | (refine arbD [(1, .lab 2), (2, .lab 5), (3, .lab 4)] [] ?_ ?_ ?_; (focus rfl); (focus (repeat' (first | rfl | trivial | apply And.intro))); (focus (repeat' (first | rfl | trivial | apply And.intro))); done)
      | (refine arbD [(1, .lab 3), (2, .lab 4), (3, .lab 5)] [] ?_ ?_ ?_; (focus rfl); (focus (repeat' (first | rfl | trivial | apply And.intro))); (focus (repeat' (first | rfl | trivial | apply And.intro))); done)
      | (refine arbD [(1, .lab 3), (2, .lab 5), (3, .lab 1)] [] ?_ ?_ ?_; (focus rfl); (focus (repeat' (first | rfl | trivial | apply And.intro))); (focus (repeat' (first | rfl | trivial | apply And.intro))); done)
      | (refine arbD [(1, .lab 3), (2, .lab 5), (3, .lab 2)] [] ?_ ?_ ?_; (focus rfl); (focus (repeat' (first | rfl | trivial | apply And.intro))); (focus (repeat' (first | rfl | trivial | apply And.intro))); done)
      | (refine arbD [(1, .lab 3), (2, .lab 5), (3, .lab 4)] [] ?_ ?_ ?_; (focus rfl); (focus (repeat' (first | rfl | trivial | apply And.intro))); (focus (repeat' (first | rfl | trivial | apply And.intro))); done)
      | (refine arbD [(1, .lab 4), (2, .lab 2), (3, .lab 5)] [] ?_ ?_ ?_; (focus rfl); (focus (repeat' (first | rfl | trivial | apply And.intro))); (focus (repeat' (first | rfl | trivial | apply And.intro))); done)
      | (refine arbD [(1, .lab 4), (2, .lab 3), (3, .lab 5)] [] ?_ ?_ ?_; (focus rfl); (focus (repeat' (first | rfl | trivial | apply And.intro))); (focus (repeat' (first | rfl | trivial | apply And.intro))); done)
      | (refine arbD [(1, .lab 4), (2, .lab 5), (3, .lab 1)] [] ?_ ?_ ?_; (focus rfl); (focus (repeat' (first | rfl | trivial | apply And.intro))); (focus (repeat' (first | rfl | trivial | apply And.intro))); done)
      | (refine arbD [(1, .lab 4), (2, .lab 5), (3, .lab 2)] [] ?_ ?_ ?_; (focus rfl); (focus (repeat' (first | rfl | trivial | apply And.intro))); (focus (repeat' (first | rfl | trivial | apply And.intro))); done)
      | (refine arbD [(1, .lab 4), (2, .lab 5), (3, .lab 3)] [] ?_ ?_ ?_; (focus rfl); (focus (repeat' (first | rfl | trivial | apply And.intro))); (focus (repeat' (first | rfl | trivial | apply And.intro))); done)
      | (refine arbD [(1, .lab 5), (2, .lab 2), (3, .lab 3)] [] ?_ ?_ ?_; (focus rfl); (focus (repeat' (first | rfl | trivial | apply And.intro))); (focus (repeat' (first | rfl | trivial | apply And.intro))); done)
      | (refine arbD [(1, .lab 5), (2, .lab 2), (3, .lab 4)] [] ?_ ?_ ?_; (focus rfl); (focus (repeat' (first | rfl | trivial | apply And.intro))); (focus (repeat' (first | rfl | trivial | apply And.intro))); done)
      | (refine arbD [(1, .lab 5), (2, .lab 3), (3, .lab 1)] [] ?_ ?_ ?_; (focus rfl); (focus (repeat' (first | rfl | trivial | apply And.intro))); (focus (repeat' (first | rfl | trivial | apply And.intro))); done)
      | (refine arbD [(1, .lab 5), (2, .lab 3), (3, .lab 2)] [] ?_ ?_ ?_; (focus rfl); (focus (repeat' (first | rfl | trivial | apply And.intro))); (focus (repeat' (first | rfl | trivial | apply And.intro))); done)
      | (refine arbD [(1, .lab 5), (2, .lab 3), (3, .lab 4)] [] ?_ ?_ ?_; (focus rfl); (focus (repeat' (first | rfl | trivial | apply And.intro))); (focus (repeat' (first | rfl | trivial | apply And.intro))); done)
      | (refine arbD [(1, .lab 5), (2, .lab 4), (3, .lab 1)] [] ?_ ?_ ?_; (focus rfl); (focus (repeat' (first | rfl | trivial | apply And.intro))); (focus (repeat' (first | rfl | trivial | apply And.intro))); done)
      | (refine arbD [(1, .lab 5), (2, .lab 4), (3, .lab 2)] [] ?_ ?_ ?_; (focus rfl); (focus (repeat' (first | rfl | trivial | apply And.intro))); (focus (repeat' (first | rfl | trivial | apply And.intro))); done)
      | (refine arbD [(1, .lab 5), (2, .lab 4), (3, .lab 3)] [] ?_ ?_ ?_; (focus rfl); (focus (repeat' (first | rfl | trivial | apply And.intro))); (focus (repeat' (first | rfl | trivial | apply And.intro))); done)
  have hlM := hft.len
  have hs47 : s.size ≤ 140737488355328 := by omega
  obtain ⟨m, hm8, hm256⟩ := wrap_u8 n
  obtain ⟨k, hk, hk13⟩ : ∃ k, fl % 13 = k ∧ k < 13 := ⟨_, rfl, Nat.mod_lt _ (by decide)⟩
  obtain rfl | rfl | rfl | rfl | rfl | rfl | rfl | rfl | rfl | rfl | rfl | rfl | rfl : k = 0 ∨ k = 1 ∨ k = 2 ∨ k = 3 ∨ k = 4 ∨ k = 5 ∨ k = 6 ∨ k = 7 ∨ k = 8 ∨ k = 9 ∨ k = 10 ∨ k = 11 ∨ k = 12 := by omega
  all_goals conv => whnf
  ·
    repeat' (first
      | (rw [tmod13, hk]; refine VReq.mk (by decide) ?_; conv => whnf)
      | (refine VReq.mk (by decide) ?_; conv => whnf)
      | (refine VReq.mk (by simp only [List.length_map] at *; omega) ?_; conv => whnf)
      | (refine AAr.i64 (by omega) ?_; conv => whnf)
      | (refine AIn.mk' (at_ % r.links.length) (by simp only [List.length_map]; rfl) (by simp only [List.length_map] at *; exact Nat.mod_lt _ (by omega)) ?_; conv => whnf)
      | (refine AIn.mk' (at_ % r.slots.length) (by simp only [List.length_map]; rfl) (by simp only [List.length_map] at *; exact Nat.mod_lt _ (by omega)) ?_; conv => whnf)
      | (refine ARd.map (by simp only [List.length_map] at *; exact Nat.mod_lt _ (by omega)) ?_; conv => whnf)
      | (refine ARd.set (by simp only [List.length_map] at *; exact Nat.mod_lt _ (by omega)) ?_; conv => whnf)
      | (refine adraw (id := 10) pln4 [] (by kernel_rfl) ?_; conv => whnf)
      | (refine adraw (id := 19) pln4 [] (by kernel_rfl) ?_; conv => whnf)
      | (refine (AAr.mk ?_ : AAr .u8 n _); rw [hm8]; conv => whnf)
      | (refine acall [] (by kernel_rfl) (idA m hm256) rfl ?_ ?_; (focus ((repeat' (first | rfl | trivial | apply And.intro)); done)); (conv => whnf))
      | (refine vif_split (fun h => ?_) (fun h => ?_) <;> (try simp only [sEqD, cond_true, cond_false, Bool.not_eq_true', Bool.not_eq_false', decide_eq_true_eq, decide_eq_false_iff_not, beq_iff_eq, bne_iff_ne, beq_eq_false_iff_ne, bne_eq_false_iff_eq, ne_eq, Bool.not_eq_eq_eq_not, Bool.not_true, Bool.not_false, Bool.false_eq_true, Bool.true_eq_false, Decidable.not_not, gt_iff_lt, ge_iff_le, Int.not_lt, Int.not_le] at h) <;> (conv => whnf)))
    all_goals
           (generalize hv : validB ⟨n, r.links, r.slots⟩ = vb
            have hv1 := valid1A ⟨n, r.links, r.slots⟩ ⟨hft.s.l, hft.s.s⟩
            have hv2 := valid2A ⟨n, r.links, r.slots⟩ ⟨hft.s.l, hft.s.s⟩ (by first | exact hlM | (simp only [List.length_set]; exact hlM))
            rw [valid_same] at hv2
            rw [hv] at hv1 hv2
            skip
            (refine adraw pln4 [1, 2] (by kernel_rfl) ?_; conv => whnf)
            repeat' (first
             | (refine And.intro ?_ ?_ <;> (conv => whnf))
             | (refine acall [1, 2] (by kernel_rfl) hv1 rfl ?_ ?_; (focus ((repeat' (first | rfl | trivial | apply And.intro)); done)); (conv => whnf))
             | (refine acall [1, 2] (by kernel_rfl) hv2 rfl ?_ ?_; (focus ((repeat' (first | rfl | trivial | apply And.intro)); done)); (conv => whnf)))
            all_goals (cases vb <;> (refine aret [] ?_; (repeat' (first | rfl | trivial | apply And.intro)); done)))
  ·
    repeat' (first
      | (rw [tmod13, hk]; refine VReq.mk (by decide) ?_; conv => whnf)
      | (refine VReq.mk (by decide) ?_; conv => whnf)
      | (refine VReq.mk (by simp only [List.length_map] at *; omega) ?_; conv => whnf)
      | (refine AAr.i64 (by omega) ?_; conv => whnf)
      | (refine AIn.mk' (at_ % r.links.length) (by simp only [List.length_map]; rfl) (by simp only [List.length_map] at *; exact Nat.mod_lt _ (by omega)) ?_; conv => whnf)
      | (refine AIn.mk' (at_ % r.slots.length) (by simp only [List.length_map]; rfl) (by simp only [List.length_map] at *; exact Nat.mod_lt _ (by omega)) ?_; conv => whnf)
      | (refine ARd.map (by simp only [List.length_map] at *; exact Nat.mod_lt _ (by omega)) ?_; conv => whnf)
      | (refine ARd.set (by simp only [List.length_map] at *; exact Nat.mod_lt _ (by omega)) ?_; conv => whnf)
      | (refine adraw (id := 10) pln4 [] (by kernel_rfl) ?_; conv => whnf)
      | (refine adraw (id := 19) pln4 [] (by kernel_rfl) ?_; conv => whnf)
      | (refine (AAr.mk ?_ : AAr .u8 n _); rw [hm8]; conv => whnf)
      | (refine acall [] (by kernel_rfl) (idA m hm256) rfl ?_ ?_; (focus ((repeat' (first | rfl | trivial | apply And.intro)); done)); (conv => whnf))
      | (refine vif_split (fun h => ?_) (fun h => ?_) <;> (try simp only [sEqD, cond_true, cond_false, Bool.not_eq_true', Bool.not_eq_false', decide_eq_true_eq, decide_eq_false_iff_not, beq_iff_eq, bne_iff_ne, beq_eq_false_iff_ne, bne_eq_false_iff_eq, ne_eq, Bool.not_eq_eq_eq_not, Bool.not_true, Bool.not_false, Bool.false_eq_true, Bool.true_eq_false, Decidable.not_not, gt_iff_lt, ge_iff_le, Int.not_lt, Int.not_le] at h) <;> (conv => whnf)))
    all_goals first
     | (refine (fun hx : at_ % r.links.length < r.links.length => ?_) ?_; rotate_left 1; (focus (simp only [List.length_map] at *; apply Nat.mod_lt; omega));
           (generalize hv : validB ⟨r.now, r.links.set (at_ % r.links.length) ⟨s, r.links[at_ % r.links.length].b, r.links[at_ % r.links.length].t⟩, r.slots⟩ = vb
            have hv1 := valid1A ⟨r.now, r.links.set (at_ % r.links.length) ⟨s, r.links[at_ % r.links.length].b, r.links[at_ % r.links.length].t⟩, r.slots⟩ (regS_link hft.s r.now (at_ % r.links.length) _ hs47 (hft.s.l _ (List.getElem_mem hx)).2)
            have hv2 := valid2A ⟨r.now, r.links.set (at_ % r.links.length) ⟨s, r.links[at_ % r.links.length].b, r.links[at_ % r.links.length].t⟩, r.slots⟩ (regS_link hft.s r.now (at_ % r.links.length) _ hs47 (hft.s.l _ (List.getElem_mem hx)).2) (by first | exact hlM | (simp only [List.length_set]; exact hlM))
            rw [valid_same] at hv2
            rw [hv] at hv1 hv2
            rw [rg_setL] at hv1 hv2
            (refine adraw pln4 [1, 2] (by kernel_rfl) ?_; conv => whnf)
            repeat' (first
             | (refine And.intro ?_ ?_ <;> (conv => whnf))
             | (refine acall [1, 2] (by kernel_rfl) hv1 rfl ?_ ?_; (focus ((repeat' (first | rfl | trivial | apply And.intro)); done)); (conv => whnf))
             | (refine acall [1, 2] (by kernel_rfl) hv2 rfl ?_ ?_; (focus ((repeat' (first | rfl | trivial | apply And.intro)); done)); (conv => whnf)))
            all_goals (cases vb <;> (refine aret [] ?_; (repeat' (first | rfl | trivial | apply And.intro)); done)))
       )
     |
           (generalize hv : validB r = vb
            have hv1 := valid1A r hft.s
            have hv2 := valid2A r hft.s (by first | exact hlM | (simp only [List.length_set]; exact hlM))
            rw [valid_same] at hv2
            rw [hv] at hv1 hv2
            skip
            (refine adraw pln4 [1, 2] (by kernel_rfl) ?_; conv => whnf)
            repeat' (first
             | (refine And.intro ?_ ?_ <;> (conv => whnf))
             | (refine acall [1, 2] (by kernel_rfl) hv1 rfl ?_ ?_; (focus ((repeat' (first | rfl | trivial | apply And.intro)); done)); (conv => whnf))
             | (refine acall [1, 2] (by kernel_rfl) hv2 rfl ?_ ?_; (focus ((repeat' (first | rfl | trivial | apply And.intro)); done)); (conv => whnf)))
            all_goals (cases vb <;> (refine aret [] ?_; (repeat' (first | rfl | trivial | apply And.intro)); done)))
  ·
    repeat' (first
      | (rw [tmod13, hk]; refine VReq.mk (by decide) ?_; conv => whnf)
      | (refine VReq.mk (by decide) ?_; conv => whnf)
      | (refine VReq.mk (by simp only [List.length_map] at *; omega) ?_; conv => whnf)
      | (refine AAr.i64 (by omega) ?_; conv => whnf)
      | (refine AIn.mk' (at_ % r.links.length) (by simp only [List.length_map]; rfl) (by simp only [List.length_map] at *; exact Nat.mod_lt _ (by omega)) ?_; conv => whnf)
      | (refine AIn.mk' (at_ % r.slots.length) (by simp only [List.length_map]; rfl) (by simp only [List.length_map] at *; exact Nat.mod_lt _ (by omega)) ?_; conv => whnf)
      | (refine ARd.map (by simp only [List.length_map] at *; exact Nat.mod_lt _ (by omega)) ?_; conv => whnf)
      | (refine ARd.set (by simp only [List.length_map] at *; exact Nat.mod_lt _ (by omega)) ?_; conv => whnf)
      | (refine adraw (id := 10) pln4 [] (by kernel_rfl) ?_; conv => whnf)
      | (refine adraw (id := 19) pln4 [] (by kernel_rfl) ?_; conv => whnf)
      | (refine (AAr.mk ?_ : AAr .u8 n _); rw [hm8]; conv => whnf)
      | (refine acall [] (by kernel_rfl) (idA m hm256) rfl ?_ ?_; (focus ((repeat' (first | rfl | trivial | apply And.intro)); done)); (conv => whnf))
      | (refine vif_split (fun h => ?_) (fun h => ?_) <;> (try simp only [sEqD, cond_true, cond_false, Bool.not_eq_true', Bool.not_eq_false', decide_eq_true_eq, decide_eq_false_iff_not, beq_iff_eq, bne_iff_ne, beq_eq_false_iff_ne, bne_eq_false_iff_eq, ne_eq, Bool.not_eq_eq_eq_not, Bool.not_true, Bool.not_false, Bool.false_eq_true, Bool.true_eq_false, Decidable.not_not, gt_iff_lt, ge_iff_le, Int.not_lt, Int.not_le] at h) <;> (conv => whnf)))
    all_goals first
     | (refine (fun hx : at_ % r.links.length < r.links.length => ?_) ?_; rotate_left 1; (focus (simp only [List.length_map] at *; apply Nat.mod_lt; omega));
           (generalize hv : validB ⟨r.now, r.links.set (at_ % r.links.length) ⟨r.links[at_ % r.links.length].a, r.links[at_ % r.links.length].a, r.links[at_ % r.links.length].t⟩, r.slots⟩ = vb
            have hv1 := valid1A ⟨r.now, r.links.set (at_ % r.links.length) ⟨r.links[at_ % r.links.length].a, r.links[at_ % r.links.length].a, r.links[at_ % r.links.length].t⟩, r.slots⟩ (regS_link hft.s r.now (at_ % r.links.length) _ (hft.s.l _ (List.getElem_mem hx)).1 (hft.s.l _ (List.getElem_mem hx)).1)
            have hv2 := valid2A ⟨r.now, r.links.set (at_ % r.links.length) ⟨r.links[at_ % r.links.length].a, r.links[at_ % r.links.length].a, r.links[at_ % r.links.length].t⟩, r.slots⟩ (regS_link hft.s r.now (at_ % r.links.length) _ (hft.s.l _ (List.getElem_mem hx)).1 (hft.s.l _ (List.getElem_mem hx)).1) (by first | exact hlM | (simp only [List.length_set]; exact hlM))
            rw [valid_same] at hv2
            rw [hv] at hv1 hv2
            rw [rg_setL] at hv1 hv2
            (refine adraw pln4 [1, 2] (by kernel_rfl) ?_; conv => whnf)
            repeat' (first
             | (refine And.intro ?_ ?_ <;> (conv => whnf))
             | (refine acall [1, 2] (by kernel_rfl) hv1 rfl ?_ ?_; (focus ((repeat' (first | rfl | trivial | apply And.intro)); done)); (conv => whnf))
             | (refine acall [1, 2] (by kernel_rfl) hv2 rfl ?_ ?_; (focus ((repeat' (first | rfl | trivial | apply And.intro)); done)); (conv => whnf)))
            all_goals (cases vb <;> (refine aret [] ?_; (repeat' (first | rfl | trivial | apply And.intro)); done)))
       )
     |
           (generalize hv : validB r = vb
            have hv1 := valid1A r hft.s
            have hv2 := valid2A r hft.s (by first | exact hlM | (simp only [List.length_set]; exact hlM))
            rw [valid_same] at hv2
            rw [hv] at hv1 hv2
            skip
            (refine adraw pln4 [1, 2] (by kernel_rfl) ?_; conv => whnf)
            repeat' (first
             | (refine And.intro ?_ ?_ <;> (conv => whnf))
             | (refine acall [1, 2] (by kernel_rfl) hv1 rfl ?_ ?_; (focus ((repeat' (first | rfl | trivial | apply And.intro)); done)); (conv => whnf))
             | (refine acall [1, 2] (by kernel_rfl) hv2 rfl ?_ ?_; (focus ((repeat' (first | rfl | trivial | apply And.intro)); done)); (conv => whnf)))
            all_goals (cases vb <;> (refine aret [] ?_; (repeat' (first | rfl | trivial | apply And.intro)); done)))
  ·
    repeat' (first
      | (rw [tmod13, hk]; refine VReq.mk (by decide) ?_; conv => whnf)
      | (refine VReq.mk (by decide) ?_; conv => whnf)
      | (refine VReq.mk (by simp only [List.length_map] at *; omega) ?_; conv => whnf)
      | (refine AAr.i64 (by omega) ?_; conv => whnf)
      | (refine AIn.mk' (at_ % r.links.length) (by simp only [List.length_map]; rfl) (by simp only [List.length_map] at *; exact Nat.mod_lt _ (by omega)) ?_; conv => whnf)
      | (refine AIn.mk' (at_ % r.slots.length) (by simp only [List.length_map]; rfl) (by simp only [List.length_map] at *; exact Nat.mod_lt _ (by omega)) ?_; conv => whnf)
      | (refine ARd.map (by simp only [List.length_map] at *; exact Nat.mod_lt _ (by omega)) ?_; conv => whnf)
      | (refine ARd.set (by simp only [List.length_map] at *; exact Nat.mod_lt _ (by omega)) ?_; conv => whnf)
      | (refine adraw (id := 10) pln4 [] (by kernel_rfl) ?_; conv => whnf)
      | (refine adraw (id := 19) pln4 [] (by kernel_rfl) ?_; conv => whnf)
      | (refine (AAr.mk ?_ : AAr .u8 n _); rw [hm8]; conv => whnf)
      | (refine acall [] (by kernel_rfl) (idA m hm256) rfl ?_ ?_; (focus ((repeat' (first | rfl | trivial | apply And.intro)); done)); (conv => whnf))
      | (refine vif_split (fun h => ?_) (fun h => ?_) <;> (try simp only [sEqD, cond_true, cond_false, Bool.not_eq_true', Bool.not_eq_false', decide_eq_true_eq, decide_eq_false_iff_not, beq_iff_eq, bne_iff_ne, beq_eq_false_iff_ne, bne_eq_false_iff_eq, ne_eq, Bool.not_eq_eq_eq_not, Bool.not_true, Bool.not_false, Bool.false_eq_true, Bool.true_eq_false, Decidable.not_not, gt_iff_lt, ge_iff_le, Int.not_lt, Int.not_le] at h) <;> (conv => whnf)))
    all_goals first
     | (refine (fun hx : at_ % r.links.length < r.links.length => ?_) ?_; rotate_left 1; (focus (simp only [List.length_map] at *; apply Nat.mod_lt; omega));
           (generalize hv : validB ⟨r.now, r.links.set (at_ % r.links.length) ⟨r.links[at_ % r.links.length].a, r.links[at_ % r.links.length].b, n⟩, r.slots⟩ = vb
            have hv1 := valid1A ⟨r.now, r.links.set (at_ % r.links.length) ⟨r.links[at_ % r.links.length].a, r.links[at_ % r.links.length].b, n⟩, r.slots⟩ (regS_link hft.s r.now (at_ % r.links.length) _ (hft.s.l _ (List.getElem_mem hx)).1 (hft.s.l _ (List.getElem_mem hx)).2)
            have hv2 := valid2A ⟨r.now, r.links.set (at_ % r.links.length) ⟨r.links[at_ % r.links.length].a, r.links[at_ % r.links.length].b, n⟩, r.slots⟩ (regS_link hft.s r.now (at_ % r.links.length) _ (hft.s.l _ (List.getElem_mem hx)).1 (hft.s.l _ (List.getElem_mem hx)).2) (by first | exact hlM | (simp only [List.length_set]; exact hlM))
            rw [valid_same] at hv2
            rw [hv] at hv1 hv2
            rw [rg_setL] at hv1 hv2
            (refine adraw pln4 [1, 2] (by kernel_rfl) ?_; conv => whnf)
            repeat' (first
             | (refine And.intro ?_ ?_ <;> (conv => whnf))
             | (refine acall [1, 2] (by kernel_rfl) hv1 rfl ?_ ?_; (focus ((repeat' (first | rfl | trivial | apply And.intro)); done)); (conv => whnf))
             | (refine acall [1, 2] (by kernel_rfl) hv2 rfl ?_ ?_; (focus ((repeat' (first | rfl | trivial | apply And.intro)); done)); (conv => whnf)))
            all_goals (cases vb <;> (refine aret [] ?_; (repeat' (first | rfl | trivial | apply And.intro)); done)))
       )
     |
           (generalize hv : validB r = vb
            have hv1 := valid1A r hft.s
            have hv2 := valid2A r hft.s (by first | exact hlM | (simp only [List.length_set]; exact hlM))
            rw [valid_same] at hv2
            rw [hv] at hv1 hv2
            skip
            (refine adraw pln4 [1, 2] (by kernel_rfl) ?_; conv => whnf)
            repeat' (first
             | (refine And.intro ?_ ?_ <;> (conv => whnf))
             | (refine acall [1, 2] (by kernel_rfl) hv1 rfl ?_ ?_; (focus ((repeat' (first | rfl | trivial | apply And.intro)); done)); (conv => whnf))
             | (refine acall [1, 2] (by kernel_rfl) hv2 rfl ?_ ?_; (focus ((repeat' (first | rfl | trivial | apply And.intro)); done)); (conv => whnf)))
            all_goals (cases vb <;> (refine aret [] ?_; (repeat' (first | rfl | trivial | apply And.intro)); done)))
  ·
    repeat' (first
      | (rw [tmod13, hk]; refine VReq.mk (by decide) ?_; conv => whnf)
      | (refine VReq.mk (by decide) ?_; conv => whnf)
      | (refine VReq.mk (by simp only [List.length_map] at *; omega) ?_; conv => whnf)
      | (refine AAr.i64 (by omega) ?_; conv => whnf)
      | (refine AIn.mk' (at_ % r.links.length) (by simp only [List.length_map]; rfl) (by simp only [List.length_map] at *; exact Nat.mod_lt _ (by omega)) ?_; conv => whnf)
      | (refine AIn.mk' (at_ % r.slots.length) (by simp only [List.length_map]; rfl) (by simp only [List.length_map] at *; exact Nat.mod_lt _ (by omega)) ?_; conv => whnf)
      | (refine ARd.map (by simp only [List.length_map] at *; exact Nat.mod_lt _ (by omega)) ?_; conv => whnf)
      | (refine ARd.set (by simp only [List.length_map] at *; exact Nat.mod_lt _ (by omega)) ?_; conv => whnf)
      | (refine adraw (id := 10) pln4 [] (by kernel_rfl) ?_; conv => whnf)
      | (refine adraw (id := 19) pln4 [] (by kernel_rfl) ?_; conv => whnf)
      | (refine (AAr.mk ?_ : AAr .u8 n _); rw [hm8]; conv => whnf)
      | (refine acall [] (by kernel_rfl) (idA m hm256) rfl ?_ ?_; (focus ((repeat' (first | rfl | trivial | apply And.intro)); done)); (conv => whnf))
      | (refine vif_split (fun h => ?_) (fun h => ?_) <;> (try simp only [sEqD, cond_true, cond_false, Bool.not_eq_true', Bool.not_eq_false', decide_eq_true_eq, decide_eq_false_iff_not, beq_iff_eq, bne_iff_ne, beq_eq_false_iff_ne, bne_eq_false_iff_eq, ne_eq, Bool.not_eq_eq_eq_not, Bool.not_true, Bool.not_false, Bool.false_eq_true, Bool.true_eq_false, Decidable.not_not, gt_iff_lt, ge_iff_le, Int.not_lt, Int.not_le] at h) <;> (conv => whnf)))
    all_goals first
     | (refine (fun hx : at_ % r.slots.length < r.slots.length => ?_) ?_; rotate_left 1; (focus (simp only [List.length_map] at *; apply Nat.mod_lt; omega));
           (generalize hv : validB ⟨r.now, r.links, r.slots.set (at_ % r.slots.length) ⟨s, r.slots[at_ % r.slots.length].layer, r.slots[at_ % r.slots.length].exp, r.slots[at_ % r.slots.length].arm, r.slots[at_ % r.slots.length].from_, r.slots[at_ % r.slots.length].to_, r.slots[at_ % r.slots.length].fin⟩⟩ = vb
            have hv1 := valid1A ⟨r.now, r.links, r.slots.set (at_ % r.slots.length) ⟨s, r.slots[at_ % r.slots.length].layer, r.slots[at_ % r.slots.length].exp, r.slots[at_ % r.slots.length].arm, r.slots[at_ % r.slots.length].from_, r.slots[at_ % r.slots.length].to_, r.slots[at_ % r.slots.length].fin⟩⟩ (regS_slot hft.s r.now (at_ % r.slots.length) _ hs47 (hft.s.s _ (List.getElem_mem hx)).2.1 (hft.s.s _ (List.getElem_mem hx)).2.2)
            have hv2 := valid2A ⟨r.now, r.links, r.slots.set (at_ % r.slots.length) ⟨s, r.slots[at_ % r.slots.length].layer, r.slots[at_ % r.slots.length].exp, r.slots[at_ % r.slots.length].arm, r.slots[at_ % r.slots.length].from_, r.slots[at_ % r.slots.length].to_, r.slots[at_ % r.slots.length].fin⟩⟩ (regS_slot hft.s r.now (at_ % r.slots.length) _ hs47 (hft.s.s _ (List.getElem_mem hx)).2.1 (hft.s.s _ (List.getElem_mem hx)).2.2) (by first | exact hlM | (simp only [List.length_set]; exact hlM))
            rw [valid_same] at hv2
            rw [hv] at hv1 hv2
            rw [rg_setS] at hv1 hv2
            (refine adraw pln4 [1, 2] (by kernel_rfl) ?_; conv => whnf)
            repeat' (first
             | (refine And.intro ?_ ?_ <;> (conv => whnf))
             | (refine acall [1, 2] (by kernel_rfl) hv1 rfl ?_ ?_; (focus ((repeat' (first | rfl | trivial | apply And.intro)); done)); (conv => whnf))
             | (refine acall [1, 2] (by kernel_rfl) hv2 rfl ?_ ?_; (focus ((repeat' (first | rfl | trivial | apply And.intro)); done)); (conv => whnf)))
            all_goals (cases vb <;> (refine aret [] ?_; (repeat' (first | rfl | trivial | apply And.intro)); done)))
       )
     |
           (generalize hv : validB r = vb
            have hv1 := valid1A r hft.s
            have hv2 := valid2A r hft.s (by first | exact hlM | (simp only [List.length_set]; exact hlM))
            rw [valid_same] at hv2
            rw [hv] at hv1 hv2
            skip
            (refine adraw pln4 [1, 2] (by kernel_rfl) ?_; conv => whnf)
            repeat' (first
             | (refine And.intro ?_ ?_ <;> (conv => whnf))
             | (refine acall [1, 2] (by kernel_rfl) hv1 rfl ?_ ?_; (focus ((repeat' (first | rfl | trivial | apply And.intro)); done)); (conv => whnf))
             | (refine acall [1, 2] (by kernel_rfl) hv2 rfl ?_ ?_; (focus ((repeat' (first | rfl | trivial | apply And.intro)); done)); (conv => whnf)))
            all_goals (cases vb <;> (refine aret [] ?_; (repeat' (first | rfl | trivial | apply And.intro)); done)))
  ·
    repeat' (first
      | (rw [tmod13, hk]; refine VReq.mk (by decide) ?_; conv => whnf)
      | (refine VReq.mk (by decide) ?_; conv => whnf)
      | (refine VReq.mk (by simp only [List.length_map] at *; omega) ?_; conv => whnf)
      | (refine AAr.i64 (by omega) ?_; conv => whnf)
      | (refine AIn.mk' (at_ % r.links.length) (by simp only [List.length_map]; rfl) (by simp only [List.length_map] at *; exact Nat.mod_lt _ (by omega)) ?_; conv => whnf)
      | (refine AIn.mk' (at_ % r.slots.length) (by simp only [List.length_map]; rfl) (by simp only [List.length_map] at *; exact Nat.mod_lt _ (by omega)) ?_; conv => whnf)
      | (refine ARd.map (by simp only [List.length_map] at *; exact Nat.mod_lt _ (by omega)) ?_; conv => whnf)
      | (refine ARd.set (by simp only [List.length_map] at *; exact Nat.mod_lt _ (by omega)) ?_; conv => whnf)
      | (refine adraw (id := 10) pln4 [] (by kernel_rfl) ?_; conv => whnf)
      | (refine adraw (id := 19) pln4 [] (by kernel_rfl) ?_; conv => whnf)
      | (refine (AAr.mk ?_ : AAr .u8 n _); rw [hm8]; conv => whnf)
      | (refine acall [] (by kernel_rfl) (idA m hm256) rfl ?_ ?_; (focus ((repeat' (first | rfl | trivial | apply And.intro)); done)); (conv => whnf))
      | (refine vif_split (fun h => ?_) (fun h => ?_) <;> (try simp only [sEqD, cond_true, cond_false, Bool.not_eq_true', Bool.not_eq_false', decide_eq_true_eq, decide_eq_false_iff_not, beq_iff_eq, bne_iff_ne, beq_eq_false_iff_ne, bne_eq_false_iff_eq, ne_eq, Bool.not_eq_eq_eq_not, Bool.not_true, Bool.not_false, Bool.false_eq_true, Bool.true_eq_false, Decidable.not_not, gt_iff_lt, ge_iff_le, Int.not_lt, Int.not_le] at h) <;> (conv => whnf)))
    all_goals first
     | (refine (fun hx : at_ % r.slots.length < r.slots.length => ?_) ?_; rotate_left 1; (focus (simp only [List.length_map] at *; apply Nat.mod_lt; omega));
           (generalize hv : validB ⟨r.now, r.links, r.slots.set (at_ % r.slots.length) ⟨idOf m, r.slots[at_ % r.slots.length].layer, r.slots[at_ % r.slots.length].exp, r.slots[at_ % r.slots.length].arm, r.slots[at_ % r.slots.length].from_, r.slots[at_ % r.slots.length].to_, r.slots[at_ % r.slots.length].fin⟩⟩ = vb
            have hv1 := valid1A ⟨r.now, r.links, r.slots.set (at_ % r.slots.length) ⟨idOf m, r.slots[at_ % r.slots.length].layer, r.slots[at_ % r.slots.length].exp, r.slots[at_ % r.slots.length].arm, r.slots[at_ % r.slots.length].from_, r.slots[at_ % r.slots.length].to_, r.slots[at_ % r.slots.length].fin⟩⟩ (regS_slot hft.s r.now (at_ % r.slots.length) _ (idOf_size m) (hft.s.s _ (List.getElem_mem hx)).2.1 (hft.s.s _ (List.getElem_mem hx)).2.2)
            have hv2 := valid2A ⟨r.now, r.links, r.slots.set (at_ % r.slots.length) ⟨idOf m, r.slots[at_ % r.slots.length].layer, r.slots[at_ % r.slots.length].exp, r.slots[at_ % r.slots.length].arm, r.slots[at_ % r.slots.length].from_, r.slots[at_ % r.slots.length].to_, r.slots[at_ % r.slots.length].fin⟩⟩ (regS_slot hft.s r.now (at_ % r.slots.length) _ (idOf_size m) (hft.s.s _ (List.getElem_mem hx)).2.1 (hft.s.s _ (List.getElem_mem hx)).2.2) (by first | exact hlM | (simp only [List.length_set]; exact hlM))
            rw [valid_same] at hv2
            rw [hv] at hv1 hv2
            rw [rg_setS] at hv1 hv2
            (refine adraw pln4 [1, 2] (by kernel_rfl) ?_; conv => whnf)
            repeat' (first
             | (refine And.intro ?_ ?_ <;> (conv => whnf))
             | (refine acall [1, 2] (by kernel_rfl) hv1 rfl ?_ ?_; (focus ((repeat' (first | rfl | trivial | apply And.intro)); done)); (conv => whnf))
             | (refine acall [1, 2] (by kernel_rfl) hv2 rfl ?_ ?_; (focus ((repeat' (first | rfl | trivial | apply And.intro)); done)); (conv => whnf)))
            all_goals (cases vb <;> (refine aret [] ?_; (repeat' (first | rfl | trivial | apply And.intro)); done)))
       )
     |
           (generalize hv : validB r = vb
            have hv1 := valid1A r hft.s
            have hv2 := valid2A r hft.s (by first | exact hlM | (simp only [List.length_set]; exact hlM))
            rw [valid_same] at hv2
            rw [hv] at hv1 hv2
            skip
            (refine adraw pln4 [1, 2] (by kernel_rfl) ?_; conv => whnf)
            repeat' (first
             | (refine And.intro ?_ ?_ <;> (conv => whnf))
             | (refine acall [1, 2] (by kernel_rfl) hv1 rfl ?_ ?_; (focus ((repeat' (first | rfl | trivial | apply And.intro)); done)); (conv => whnf))
             | (refine acall [1, 2] (by kernel_rfl) hv2 rfl ?_ ?_; (focus ((repeat' (first | rfl | trivial | apply And.intro)); done)); (conv => whnf)))
            all_goals (cases vb <;> (refine aret [] ?_; (repeat' (first | rfl | trivial | apply And.intro)); done)))
  ·
    repeat' (first
      | (rw [tmod13, hk]; refine VReq.mk (by decide) ?_; conv => whnf)
      | (refine VReq.mk (by decide) ?_; conv => whnf)
      | (refine VReq.mk (by simp only [List.length_map] at *; omega) ?_; conv => whnf)
      | (refine AAr.i64 (by omega) ?_; conv => whnf)
      | (refine AIn.mk' (at_ % r.links.length) (by simp only [List.length_map]; rfl) (by simp only [List.length_map] at *; exact Nat.mod_lt _ (by omega)) ?_; conv => whnf)
      | (refine AIn.mk' (at_ % r.slots.length) (by simp only [List.length_map]; rfl) (by simp only [List.length_map] at *; exact Nat.mod_lt _ (by omega)) ?_; conv => whnf)
      | (refine ARd.map (by simp only [List.length_map] at *; exact Nat.mod_lt _ (by omega)) ?_; conv => whnf)
      | (refine ARd.set (by simp only [List.length_map] at *; exact Nat.mod_lt _ (by omega)) ?_; conv => whnf)
      | (refine adraw (id := 10) pln4 [] (by kernel_rfl) ?_; conv => whnf)
      | (refine adraw (id := 19) pln4 [] (by kernel_rfl) ?_; conv => whnf)
      | (refine (AAr.mk ?_ : AAr .u8 n _); rw [hm8]; conv => whnf)
      | (refine acall [] (by kernel_rfl) (idA m hm256) rfl ?_ ?_; (focus ((repeat' (first | rfl | trivial | apply And.intro)); done)); (conv => whnf))
      | (refine vif_split (fun h => ?_) (fun h => ?_) <;> (try simp only [sEqD, cond_true, cond_false, Bool.not_eq_true', Bool.not_eq_false', decide_eq_true_eq, decide_eq_false_iff_not, beq_iff_eq, bne_iff_ne, beq_eq_false_iff_ne, bne_eq_false_iff_eq, ne_eq, Bool.not_eq_eq_eq_not, Bool.not_true, Bool.not_false, Bool.false_eq_true, Bool.true_eq_false, Decidable.not_not, gt_iff_lt, ge_iff_le, Int.not_lt, Int.not_le] at h) <;> (conv => whnf)))
    all_goals first
     | (refine (fun hx : at_ % r.slots.length < r.slots.length => ?_) ?_; rotate_left 1; (focus (simp only [List.length_map] at *; apply Nat.mod_lt; omega));
           (generalize hv : validB ⟨r.now, r.links, r.slots.set (at_ % r.slots.length) ⟨r.slots[at_ % r.slots.length].id, s, r.slots[at_ % r.slots.length].exp, r.slots[at_ % r.slots.length].arm, r.slots[at_ % r.slots.length].from_, r.slots[at_ % r.slots.length].to_, r.slots[at_ % r.slots.length].fin⟩⟩ = vb
            have hv1 := valid1A ⟨r.now, r.links, r.slots.set (at_ % r.slots.length) ⟨r.slots[at_ % r.slots.length].id, s, r.slots[at_ % r.slots.length].exp, r.slots[at_ % r.slots.length].arm, r.slots[at_ % r.slots.length].from_, r.slots[at_ % r.slots.length].to_, r.slots[at_ % r.slots.length].fin⟩⟩ (regS_slot hft.s r.now (at_ % r.slots.length) _ (hft.s.s _ (List.getElem_mem hx)).1 hs47 (hft.s.s _ (List.getElem_mem hx)).2.2)
            have hv2 := valid2A ⟨r.now, r.links, r.slots.set (at_ % r.slots.length) ⟨r.slots[at_ % r.slots.length].id, s, r.slots[at_ % r.slots.length].exp, r.slots[at_ % r.slots.length].arm, r.slots[at_ % r.slots.length].from_, r.slots[at_ % r.slots.length].to_, r.slots[at_ % r.slots.length].fin⟩⟩ (regS_slot hft.s r.now (at_ % r.slots.length) _ (hft.s.s _ (List.getElem_mem hx)).1 hs47 (hft.s.s _ (List.getElem_mem hx)).2.2) (by first | exact hlM | (simp only [List.length_set]; exact hlM))
            rw [valid_same] at hv2
            rw [hv] at hv1 hv2
            rw [rg_setS] at hv1 hv2
            (refine adraw pln4 [1, 2] (by kernel_rfl) ?_; conv => whnf)
            repeat' (first
             | (refine And.intro ?_ ?_ <;> (conv => whnf))
             | (refine acall [1, 2] (by kernel_rfl) hv1 rfl ?_ ?_; (focus ((repeat' (first | rfl | trivial | apply And.intro)); done)); (conv => whnf))
             | (refine acall [1, 2] (by kernel_rfl) hv2 rfl ?_ ?_; (focus ((repeat' (first | rfl | trivial | apply And.intro)); done)); (conv => whnf)))
            all_goals (cases vb <;> (refine aret [] ?_; (repeat' (first | rfl | trivial | apply And.intro)); done)))
       )
     |
           (generalize hv : validB r = vb
            have hv1 := valid1A r hft.s
            have hv2 := valid2A r hft.s (by first | exact hlM | (simp only [List.length_set]; exact hlM))
            rw [valid_same] at hv2
            rw [hv] at hv1 hv2
            skip
            (refine adraw pln4 [1, 2] (by kernel_rfl) ?_; conv => whnf)
            repeat' (first
             | (refine And.intro ?_ ?_ <;> (conv => whnf))
             | (refine acall [1, 2] (by kernel_rfl) hv1 rfl ?_ ?_; (focus ((repeat' (first | rfl | trivial | apply And.intro)); done)); (conv => whnf))
             | (refine acall [1, 2] (by kernel_rfl) hv2 rfl ?_ ?_; (focus ((repeat' (first | rfl | trivial | apply And.intro)); done)); (conv => whnf)))
            all_goals (cases vb <;> (refine aret [] ?_; (repeat' (first | rfl | trivial | apply And.intro)); done)))
  ·
    repeat' (first
      | (rw [tmod13, hk]; refine VReq.mk (by decide) ?_; conv => whnf)
      | (refine VReq.mk (by decide) ?_; conv => whnf)
      | (refine VReq.mk (by simp only [List.length_map] at *; omega) ?_; conv => whnf)
      | (refine AAr.i64 (by omega) ?_; conv => whnf)
      | (refine AIn.mk' (at_ % r.links.length) (by simp only [List.length_map]; rfl) (by simp only [List.length_map] at *; exact Nat.mod_lt _ (by omega)) ?_; conv => whnf)
      | (refine AIn.mk' (at_ % r.slots.length) (by simp only [List.length_map]; rfl) (by simp only [List.length_map] at *; exact Nat.mod_lt _ (by omega)) ?_; conv => whnf)
      | (refine ARd.map (by simp only [List.length_map] at *; exact Nat.mod_lt _ (by omega)) ?_; conv => whnf)
      | (refine ARd.set (by simp only [List.length_map] at *; exact Nat.mod_lt _ (by omega)) ?_; conv => whnf)
      | (refine adraw (id := 10) pln4 [] (by kernel_rfl) ?_; conv => whnf)
      | (refine adraw (id := 19) pln4 [] (by kernel_rfl) ?_; conv => whnf)
      | (refine (AAr.mk ?_ : AAr .u8 n _); rw [hm8]; conv => whnf)
      | (refine acall [] (by kernel_rfl) (idA m hm256) rfl ?_ ?_; (focus ((repeat' (first | rfl | trivial | apply And.intro)); done)); (conv => whnf))
      | (refine vif_split (fun h => ?_) (fun h => ?_) <;> (try simp only [sEqD, cond_true, cond_false, Bool.not_eq_true', Bool.not_eq_false', decide_eq_true_eq, decide_eq_false_iff_not, beq_iff_eq, bne_iff_ne, beq_eq_false_iff_ne, bne_eq_false_iff_eq, ne_eq, Bool.not_eq_eq_eq_not, Bool.not_true, Bool.not_false, Bool.false_eq_true, Bool.true_eq_false, Decidable.not_not, gt_iff_lt, ge_iff_le, Int.not_lt, Int.not_le] at h) <;> (conv => whnf)))
    all_goals first
     | (refine (fun hx : at_ % r.slots.length < r.slots.length => ?_) ?_; rotate_left 1; (focus (simp only [List.length_map] at *; apply Nat.mod_lt; omega));
           (generalize hv : validB ⟨r.now, r.links, r.slots.set (at_ % r.slots.length) ⟨r.slots[at_ % r.slots.length].id, r.slots[at_ % r.slots.length].layer, s, r.slots[at_ % r.slots.length].arm, r.slots[at_ % r.slots.length].from_, r.slots[at_ % r.slots.length].to_, r.slots[at_ % r.slots.length].fin⟩⟩ = vb
            have hv1 := valid1A ⟨r.now, r.links, r.slots.set (at_ % r.slots.length) ⟨r.slots[at_ % r.slots.length].id, r.slots[at_ % r.slots.length].layer, s, r.slots[at_ % r.slots.length].arm, r.slots[at_ % r.slots.length].from_, r.slots[at_ % r.slots.length].to_, r.slots[at_ % r.slots.length].fin⟩⟩ (regS_slot hft.s r.now (at_ % r.slots.length) _ (hft.s.s _ (List.getElem_mem hx)).1 (hft.s.s _ (List.getElem_mem hx)).2.1 hs47)
            have hv2 := valid2A ⟨r.now, r.links, r.slots.set (at_ % r.slots.length) ⟨r.slots[at_ % r.slots.length].id, r.slots[at_ % r.slots.length].layer, s, r.slots[at_ % r.slots.length].arm, r.slots[at_ % r.slots.length].from_, r.slots[at_ % r.slots.length].to_, r.slots[at_ % r.slots.length].fin⟩⟩ (regS_slot hft.s r.now (at_ % r.slots.length) _ (hft.s.s _ (List.getElem_mem hx)).1 (hft.s.s _ (List.getElem_mem hx)).2.1 hs47) (by first | exact hlM | (simp only [List.length_set]; exact hlM))
            rw [valid_same] at hv2
            rw [hv] at hv1 hv2
            rw [rg_setS] at hv1 hv2
            (refine adraw pln4 [1, 2] (by kernel_rfl) ?_; conv => whnf)
            repeat' (first
             | (refine And.intro ?_ ?_ <;> (conv => whnf))
             | (refine acall [1, 2] (by kernel_rfl) hv1 rfl ?_ ?_; (focus ((repeat' (first | rfl | trivial | apply And.intro)); done)); (conv => whnf))
             | (refine acall [1, 2] (by kernel_rfl) hv2 rfl ?_ ?_; (focus ((repeat' (first | rfl | trivial | apply And.intro)); done)); (conv => whnf)))
            all_goals (cases vb <;> (refine aret [] ?_; (repeat' (first | rfl | trivial | apply And.intro)); done)))
       )
     |
           (generalize hv : validB r = vb
            have hv1 := valid1A r hft.s
            have hv2 := valid2A r hft.s (by first | exact hlM | (simp only [List.length_set]; exact hlM))
            rw [valid_same] at hv2
            rw [hv] at hv1 hv2
            skip
            (refine adraw pln4 [1, 2] (by kernel_rfl) ?_; conv => whnf)
            repeat' (first
             | (refine And.intro ?_ ?_ <;> (conv => whnf))
             | (refine acall [1, 2] (by kernel_rfl) hv1 rfl ?_ ?_; (focus ((repeat' (first | rfl | trivial | apply And.intro)); done)); (conv => whnf))
             | (refine acall [1, 2] (by kernel_rfl) hv2 rfl ?_ ?_; (focus ((repeat' (first | rfl | trivial | apply And.intro)); done)); (conv => whnf)))
            all_goals (cases vb <;> (refine aret [] ?_; (repeat' (first | rfl | trivial | apply And.intro)); done)))
  ·
    repeat' (first
      | (rw [tmod13, hk]; refine VReq.mk (by decide) ?_; conv => whnf)
      | (refine VReq.mk (by decide) ?_; conv => whnf)
      | (refine VReq.mk (by simp only [List.length_map] at *; omega) ?_; conv => whnf)
      | (refine AAr.i64 (by omega) ?_; conv => whnf)
      | (refine AIn.mk' (at_ % r.links.length) (by simp only [List.length_map]; rfl) (by simp only [List.length_map] at *; exact Nat.mod_lt _ (by omega)) ?_; conv => whnf)
      | (refine AIn.mk' (at_ % r.slots.length) (by simp only [List.length_map]; rfl) (by simp only [List.length_map] at *; exact Nat.mod_lt _ (by omega)) ?_; conv => whnf)
      | (refine ARd.map (by simp only [List.length_map] at *; exact Nat.mod_lt _ (by omega)) ?_; conv => whnf)
      | (refine ARd.set (by simp only [List.length_map] at *; exact Nat.mod_lt _ (by omega)) ?_; conv => whnf)
      | (refine adraw (id := 10) pln4 [] (by kernel_rfl) ?_; conv => whnf)
      | (refine adraw (id := 19) pln4 [] (by kernel_rfl) ?_; conv => whnf)
      | (refine (AAr.mk ?_ : AAr .u8 n _); rw [hm8]; conv => whnf)
      | (refine acall [] (by kernel_rfl) (idA m hm256) rfl ?_ ?_; (focus ((repeat' (first | rfl | trivial | apply And.intro)); done)); (conv => whnf))
      | (refine vif_split (fun h => ?_) (fun h => ?_) <;> (try simp only [sEqD, cond_true, cond_false, Bool.not_eq_true', Bool.not_eq_false', decide_eq_true_eq, decide_eq_false_iff_not, beq_iff_eq, bne_iff_ne, beq_eq_false_iff_ne, bne_eq_false_iff_eq, ne_eq, Bool.not_eq_eq_eq_not, Bool.not_true, Bool.not_false, Bool.false_eq_true, Bool.true_eq_false, Decidable.not_not, gt_iff_lt, ge_iff_le, Int.not_lt, Int.not_le] at h) <;> (conv => whnf)))
    all_goals first
     | (refine (fun hx : at_ % r.slots.length < r.slots.length => ?_) ?_; rotate_left 1; (focus (simp only [List.length_map] at *; apply Nat.mod_lt; omega));
           (generalize hv : validB ⟨r.now, r.links, r.slots.set (at_ % r.slots.length) ⟨r.slots[at_ % r.slots.length].id, r.slots[at_ % r.slots.length].layer, r.slots[at_ % r.slots.length].exp, n.tmod 12, r.slots[at_ % r.slots.length].from_, r.slots[at_ % r.slots.length].to_, r.slots[at_ % r.slots.length].fin⟩⟩ = vb
            have hv1 := valid1A ⟨r.now, r.links, r.slots.set (at_ % r.slots.length) ⟨r.slots[at_ % r.slots.length].id, r.slots[at_ % r.slots.length].layer, r.slots[at_ % r.slots.length].exp, n.tmod 12, r.slots[at_ % r.slots.length].from_, r.slots[at_ % r.slots.length].to_, r.slots[at_ % r.slots.length].fin⟩⟩ (regS_slot hft.s r.now (at_ % r.slots.length) _ (hft.s.s _ (List.getElem_mem hx)).1 (hft.s.s _ (List.getElem_mem hx)).2.1 (hft.s.s _ (List.getElem_mem hx)).2.2)
            have hv2 := valid2A ⟨r.now, r.links, r.slots.set (at_ % r.slots.length) ⟨r.slots[at_ % r.slots.length].id, r.slots[at_ % r.slots.length].layer, r.slots[at_ % r.slots.length].exp, n.tmod 12, r.slots[at_ % r.slots.length].from_, r.slots[at_ % r.slots.length].to_, r.slots[at_ % r.slots.length].fin⟩⟩ (regS_slot hft.s r.now (at_ % r.slots.length) _ (hft.s.s _ (List.getElem_mem hx)).1 (hft.s.s _ (List.getElem_mem hx)).2.1 (hft.s.s _ (List.getElem_mem hx)).2.2) (by first | exact hlM | (simp only [List.length_set]; exact hlM))
            rw [valid_same] at hv2
            rw [hv] at hv1 hv2
            rw [rg_setS] at hv1 hv2
            (refine adraw pln4 [1, 2] (by kernel_rfl) ?_; conv => whnf)
            repeat' (first
             | (refine And.intro ?_ ?_ <;> (conv => whnf))
             | (refine acall [1, 2] (by kernel_rfl) hv1 rfl ?_ ?_; (focus ((repeat' (first | rfl | trivial | apply And.intro)); done)); (conv => whnf))
             | (refine acall [1, 2] (by kernel_rfl) hv2 rfl ?_ ?_; (focus ((repeat' (first | rfl | trivial | apply And.intro)); done)); (conv => whnf)))
            all_goals (cases vb <;> (refine aret [] ?_; (repeat' (first | rfl | trivial | apply And.intro)); done)))
       )
     |
           (generalize hv : validB r = vb
            have hv1 := valid1A r hft.s
            have hv2 := valid2A r hft.s (by first | exact hlM | (simp only [List.length_set]; exact hlM))
            rw [valid_same] at hv2
            rw [hv] at hv1 hv2
            skip
            (refine adraw pln4 [1, 2] (by kernel_rfl) ?_; conv => whnf)
            repeat' (first
             | (refine And.intro ?_ ?_ <;> (conv => whnf))
             | (refine acall [1, 2] (by kernel_rfl) hv1 rfl ?_ ?_; (focus ((repeat' (first | rfl | trivial | apply And.intro)); done)); (conv => whnf))
             | (refine acall [1, 2] (by kernel_rfl) hv2 rfl ?_ ?_; (focus ((repeat' (first | rfl | trivial | apply And.intro)); done)); (conv => whnf)))
            all_goals (cases vb <;> (refine aret [] ?_; (repeat' (first | rfl | trivial | apply And.intro)); done)))
  ·
    repeat' (first
      | (rw [tmod13, hk]; refine VReq.mk (by decide) ?_; conv => whnf)
      | (refine VReq.mk (by decide) ?_; conv => whnf)
      | (refine VReq.mk (by simp only [List.length_map] at *; omega) ?_; conv => whnf)
      | (refine AAr.i64 (by omega) ?_; conv => whnf)
      | (refine AIn.mk' (at_ % r.links.length) (by simp only [List.length_map]; rfl) (by simp only [List.length_map] at *; exact Nat.mod_lt _ (by omega)) ?_; conv => whnf)
      | (refine AIn.mk' (at_ % r.slots.length) (by simp only [List.length_map]; rfl) (by simp only [List.length_map] at *; exact Nat.mod_lt _ (by omega)) ?_; conv => whnf)
      | (refine ARd.map (by simp only [List.length_map] at *; exact Nat.mod_lt _ (by omega)) ?_; conv => whnf)
      | (refine ARd.set (by simp only [List.length_map] at *; exact Nat.mod_lt _ (by omega)) ?_; conv => whnf)
      | (refine adraw (id := 10) pln4 [] (by kernel_rfl) ?_; conv => whnf)
      | (refine adraw (id := 19) pln4 [] (by kernel_rfl) ?_; conv => whnf)
      | (refine (AAr.mk ?_ : AAr .u8 n _); rw [hm8]; conv => whnf)
      | (refine acall [] (by kernel_rfl) (idA m hm256) rfl ?_ ?_; (focus ((repeat' (first | rfl | trivial | apply And.intro)); done)); (conv => whnf))
      | (refine vif_split (fun h => ?_) (fun h => ?_) <;> (try simp only [sEqD, cond_true, cond_false, Bool.not_eq_true', Bool.not_eq_false', decide_eq_true_eq, decide_eq_false_iff_not, beq_iff_eq, bne_iff_ne, beq_eq_false_iff_ne, bne_eq_false_iff_eq, ne_eq, Bool.not_eq_eq_eq_not, Bool.not_true, Bool.not_false, Bool.false_eq_true, Bool.true_eq_false, Decidable.not_not, gt_iff_lt, ge_iff_le, Int.not_lt, Int.not_le] at h) <;> (conv => whnf)))
    all_goals first
     | (refine (fun hx : at_ % r.slots.length < r.slots.length => ?_) ?_; rotate_left 1; (focus (simp only [List.length_map] at *; apply Nat.mod_lt; omega));
           (generalize hv : validB ⟨r.now, r.links, r.slots.set (at_ % r.slots.length) ⟨r.slots[at_ % r.slots.length].id, r.slots[at_ % r.slots.length].layer, r.slots[at_ % r.slots.length].exp, r.slots[at_ % r.slots.length].arm, n, r.slots[at_ % r.slots.length].to_, r.slots[at_ % r.slots.length].fin⟩⟩ = vb
            have hv1 := valid1A ⟨r.now, r.links, r.slots.set (at_ % r.slots.length) ⟨r.slots[at_ % r.slots.length].id, r.slots[at_ % r.slots.length].layer, r.slots[at_ % r.slots.length].exp, r.slots[at_ % r.slots.length].arm, n, r.slots[at_ % r.slots.length].to_, r.slots[at_ % r.slots.length].fin⟩⟩ (regS_slot hft.s r.now (at_ % r.slots.length) _ (hft.s.s _ (List.getElem_mem hx)).1 (hft.s.s _ (List.getElem_mem hx)).2.1 (hft.s.s _ (List.getElem_mem hx)).2.2)
            have hv2 := valid2A ⟨r.now, r.links, r.slots.set (at_ % r.slots.length) ⟨r.slots[at_ % r.slots.length].id, r.slots[at_ % r.slots.length].layer, r.slots[at_ % r.slots.length].exp, r.slots[at_ % r.slots.length].arm, n, r.slots[at_ % r.slots.length].to_, r.slots[at_ % r.slots.length].fin⟩⟩ (regS_slot hft.s r.now (at_ % r.slots.length) _ (hft.s.s _ (List.getElem_mem hx)).1 (hft.s.s _ (List.getElem_mem hx)).2.1 (hft.s.s _ (List.getElem_mem hx)).2.2) (by first | exact hlM | (simp only [List.length_set]; exact hlM))
            rw [valid_same] at hv2
            rw [hv] at hv1 hv2
            rw [rg_setS] at hv1 hv2
            (refine adraw pln4 [1, 2] (by kernel_rfl) ?_; conv => whnf)
            repeat' (first
             | (refine And.intro ?_ ?_ <;> (conv => whnf))
             | (refine acall [1, 2] (by kernel_rfl) hv1 rfl ?_ ?_; (focus ((repeat' (first | rfl | trivial | apply And.intro)); done)); (conv => whnf))
             | (refine acall [1, 2] (by kernel_rfl) hv2 rfl ?_ ?_; (focus ((repeat' (first | rfl | trivial | apply And.intro)); done)); (conv => whnf)))
            all_goals (cases vb <;> (refine aret [] ?_; (repeat' (first | rfl | trivial | apply And.intro)); done)))
       )
     |
           (generalize hv : validB r = vb
            have hv1 := valid1A r hft.s
            have hv2 := valid2A r hft.s (by first | exact hlM | (simp only [List.length_set]; exact hlM))
            rw [valid_same] at hv2
            rw [hv] at hv1 hv2
            skip
            (refine adraw pln4 [1, 2] (by kernel_rfl) ?_; conv => whnf)
            repeat' (first
             | (refine And.intro ?_ ?_ <;> (conv => whnf))
             | (refine acall [1, 2] (by kernel_rfl) hv1 rfl ?_ ?_; (focus ((repeat' (first | rfl | trivial | apply And.intro)); done)); (conv => whnf))
             | (refine acall [1, 2] (by kernel_rfl) hv2 rfl ?_ ?_; (focus ((repeat' (first | rfl | trivial | apply And.intro)); done)); (conv => whnf)))
            all_goals (cases vb <;> (refine aret [] ?_; (repeat' (first | rfl | trivial | apply And.intro)); done)))
  ·
    repeat' (first
      | (rw [tmod13, hk]; refine VReq.mk (by decide) ?_; conv => whnf)
      | (refine VReq.mk (by decide) ?_; conv => whnf)
      | (refine VReq.mk (by simp only [List.length_map] at *; omega) ?_; conv => whnf)
      | (refine AAr.i64 (by omega) ?_; conv => whnf)
      | (refine AIn.mk' (at_ % r.links.length) (by simp only [List.length_map]; rfl) (by simp only [List.length_map] at *; exact Nat.mod_lt _ (by omega)) ?_; conv => whnf)
      | (refine AIn.mk' (at_ % r.slots.length) (by simp only [List.length_map]; rfl) (by simp only [List.length_map] at *; exact Nat.mod_lt _ (by omega)) ?_; conv => whnf)
      | (refine ARd.map (by simp only [List.length_map] at *; exact Nat.mod_lt _ (by omega)) ?_; conv => whnf)
      | (refine ARd.set (by simp only [List.length_map] at *; exact Nat.mod_lt _ (by omega)) ?_; conv => whnf)
      | (refine adraw (id := 10) pln4 [] (by kernel_rfl) ?_; conv => whnf)
      | (refine adraw (id := 19) pln4 [] (by kernel_rfl) ?_; conv => whnf)
      | (refine (AAr.mk ?_ : AAr .u8 n _); rw [hm8]; conv => whnf)
      | (refine acall [] (by kernel_rfl) (idA m hm256) rfl ?_ ?_; (focus ((repeat' (first | rfl | trivial | apply And.intro)); done)); (conv => whnf))
      | (refine vif_split (fun h => ?_) (fun h => ?_) <;> (try simp only [sEqD, cond_true, cond_false, Bool.not_eq_true', Bool.not_eq_false', decide_eq_true_eq, decide_eq_false_iff_not, beq_iff_eq, bne_iff_ne, beq_eq_false_iff_ne, bne_eq_false_iff_eq, ne_eq, Bool.not_eq_eq_eq_not, Bool.not_true, Bool.not_false, Bool.false_eq_true, Bool.true_eq_false, Decidable.not_not, gt_iff_lt, ge_iff_le, Int.not_lt, Int.not_le] at h) <;> (conv => whnf)))
    all_goals first
     | (refine (fun hx : at_ % r.slots.length < r.slots.length => ?_) ?_; rotate_left 1; (focus (simp only [List.length_map] at *; apply Nat.mod_lt; omega));
           (generalize hv : validB ⟨r.now, r.links, r.slots.set (at_ % r.slots.length) ⟨r.slots[at_ % r.slots.length].id, r.slots[at_ % r.slots.length].layer, r.slots[at_ % r.slots.length].exp, r.slots[at_ % r.slots.length].arm, r.slots[at_ % r.slots.length].from_, n, r.slots[at_ % r.slots.length].fin⟩⟩ = vb
            have hv1 := valid1A ⟨r.now, r.links, r.slots.set (at_ % r.slots.length) ⟨r.slots[at_ % r.slots.length].id, r.slots[at_ % r.slots.length].layer, r.slots[at_ % r.slots.length].exp, r.slots[at_ % r.slots.length].arm, r.slots[at_ % r.slots.length].from_, n, r.slots[at_ % r.slots.length].fin⟩⟩ (regS_slot hft.s r.now (at_ % r.slots.length) _ (hft.s.s _ (List.getElem_mem hx)).1 (hft.s.s _ (List.getElem_mem hx)).2.1 (hft.s.s _ (List.getElem_mem hx)).2.2)
            have hv2 := valid2A ⟨r.now, r.links, r.slots.set (at_ % r.slots.length) ⟨r.slots[at_ % r.slots.length].id, r.slots[at_ % r.slots.length].layer, r.slots[at_ % r.slots.length].exp, r.slots[at_ % r.slots.length].arm, r.slots[at_ % r.slots.length].from_, n, r.slots[at_ % r.slots.length].fin⟩⟩ (regS_slot hft.s r.now (at_ % r.slots.length) _ (hft.s.s _ (List.getElem_mem hx)).1 (hft.s.s _ (List.getElem_mem hx)).2.1 (hft.s.s _ (List.getElem_mem hx)).2.2) (by first | exact hlM | (simp only [List.length_set]; exact hlM))
            rw [valid_same] at hv2
            rw [hv] at hv1 hv2
            rw [rg_setS] at hv1 hv2
            (refine adraw pln4 [1, 2] (by kernel_rfl) ?_; conv => whnf)
            repeat' (first
             | (refine And.intro ?_ ?_ <;> (conv => whnf))
             | (refine acall [1, 2] (by kernel_rfl) hv1 rfl ?_ ?_; (focus ((repeat' (first | rfl | trivial | apply And.intro)); done)); (conv => whnf))
             | (refine acall [1, 2] (by kernel_rfl) hv2 rfl ?_ ?_; (focus ((repeat' (first | rfl | trivial | apply And.intro)); done)); (conv => whnf)))
            all_goals (cases vb <;> (refine aret [] ?_; (repeat' (first | rfl | trivial | apply And.intro)); done)))
       )
     |
           (generalize hv : validB r = vb
            have hv1 := valid1A r hft.s
            have hv2 := valid2A r hft.s (by first | exact hlM | (simp only [List.length_set]; exact hlM))
            rw [valid_same] at hv2
            rw [hv] at hv1 hv2
            skip
            (refine adraw pln4 [1, 2] (by kernel_rfl) ?_; conv => whnf)
            repeat' (first
             | (refine And.intro ?_ ?_ <;> (conv => whnf))
             | (refine acall [1, 2] (by kernel_rfl) hv1 rfl ?_ ?_; (focus ((repeat' (first | rfl | trivial | apply And.intro)); done)); (conv => whnf))
             | (refine acall [1, 2] (by kernel_rfl) hv2 rfl ?_ ?_; (focus ((repeat' (first | rfl | trivial | apply And.intro)); done)); (conv => whnf)))
            all_goals (cases vb <;> (refine aret [] ?_; (repeat' (first | rfl | trivial | apply And.intro)); done)))
  ·
    repeat' (first
      | (rw [tmod13, hk]; refine VReq.mk (by decide) ?_; conv => whnf)
      | (refine VReq.mk (by decide) ?_; conv => whnf)
      | (refine VReq.mk (by simp only [List.length_map] at *; omega) ?_; conv => whnf)
      | (refine AAr.i64 (by omega) ?_; conv => whnf)
      | (refine AIn.mk' (at_ % r.links.length) (by simp only [List.length_map]; rfl) (by simp only [List.length_map] at *; exact Nat.mod_lt _ (by omega)) ?_; conv => whnf)
      | (refine AIn.mk' (at_ % r.slots.length) (by simp only [List.length_map]; rfl) (by simp only [List.length_map] at *; exact Nat.mod_lt _ (by omega)) ?_; conv => whnf)
      | (refine ARd.map (by simp only [List.length_map] at *; exact Nat.mod_lt _ (by omega)) ?_; conv => whnf)
      | (refine ARd.set (by simp only [List.length_map] at *; exact Nat.mod_lt _ (by omega)) ?_; conv => whnf)
      | (refine adraw (id := 10) pln4 [] (by kernel_rfl) ?_; conv => whnf)
      | (refine adraw (id := 19) pln4 [] (by kernel_rfl) ?_; conv => whnf)
      | (refine (AAr.mk ?_ : AAr .u8 n _); rw [hm8]; conv => whnf)
      | (refine acall [] (by kernel_rfl) (idA m hm256) rfl ?_ ?_; (focus ((repeat' (first | rfl | trivial | apply And.intro)); done)); (conv => whnf))
      | (refine vif_split (fun h => ?_) (fun h => ?_) <;> (try simp only [sEqD, cond_true, cond_false, Bool.not_eq_true', Bool.not_eq_false', decide_eq_true_eq, decide_eq_false_iff_not, beq_iff_eq, bne_iff_ne, beq_eq_false_iff_ne, bne_eq_false_iff_eq, ne_eq, Bool.not_eq_eq_eq_not, Bool.not_true, Bool.not_false, Bool.false_eq_true, Bool.true_eq_false, Decidable.not_not, gt_iff_lt, ge_iff_le, Int.not_lt, Int.not_le] at h) <;> (conv => whnf)))
    all_goals first
     | (refine (fun hx : at_ % r.slots.length < r.slots.length => ?_) ?_; rotate_left 1; (focus (simp only [List.length_map] at *; apply Nat.mod_lt; omega));
           (generalize hv : validB ⟨r.now, r.links, r.slots.set (at_ % r.slots.length) ⟨r.slots[at_ % r.slots.length].id, r.slots[at_ % r.slots.length].layer, r.slots[at_ % r.slots.length].exp, r.slots[at_ % r.slots.length].arm, r.slots[at_ % r.slots.length].from_, r.slots[at_ % r.slots.length].to_, n.tmod 5⟩⟩ = vb
            have hv1 := valid1A ⟨r.now, r.links, r.slots.set (at_ % r.slots.length) ⟨r.slots[at_ % r.slots.length].id, r.slots[at_ % r.slots.length].layer, r.slots[at_ % r.slots.length].exp, r.slots[at_ % r.slots.length].arm, r.slots[at_ % r.slots.length].from_, r.slots[at_ % r.slots.length].to_, n.tmod 5⟩⟩ (regS_slot hft.s r.now (at_ % r.slots.length) _ (hft.s.s _ (List.getElem_mem hx)).1 (hft.s.s _ (List.getElem_mem hx)).2.1 (hft.s.s _ (List.getElem_mem hx)).2.2)
            have hv2 := valid2A ⟨r.now, r.links, r.slots.set (at_ % r.slots.length) ⟨r.slots[at_ % r.slots.length].id, r.slots[at_ % r.slots.length].layer, r.slots[at_ % r.slots.length].exp, r.slots[at_ % r.slots.length].arm, r.slots[at_ % r.slots.length].from_, r.slots[at_ % r.slots.length].to_, n.tmod 5⟩⟩ (regS_slot hft.s r.now (at_ % r.slots.length) _ (hft.s.s _ (List.getElem_mem hx)).1 (hft.s.s _ (List.getElem_mem hx)).2.1 (hft.s.s _ (List.getElem_mem hx)).2.2) (by first | exact hlM | (simp only [List.length_set]; exact hlM))
            rw [valid_same] at hv2
            rw [hv] at hv1 hv2
            rw [rg_setS] at hv1 hv2
            (refine adraw pln4 [1, 2] (by kernel_rfl) ?_; conv => whnf)
            repeat' (first
             | (refine And.intro ?_ ?_ <;> (conv => whnf))
             | (refine acall [1, 2] (by kernel_rfl) hv1 rfl ?_ ?_; (focus ((repeat' (first | rfl | trivial | apply And.intro)); done)); (conv => whnf))
             | (refine acall [1, 2] (by kernel_rfl) hv2 rfl ?_ ?_; (focus ((repeat' (first | rfl | trivial | apply And.intro)); done)); (conv => whnf)))
            all_goals (cases vb <;> (refine aret [] ?_; (repeat' (first | rfl | trivial | apply And.intro)); done)))
       )
     |
           (generalize hv : validB r = vb
            have hv1 := valid1A r hft.s
            have hv2 := valid2A r hft.s (by first | exact hlM | (simp only [List.length_set]; exact hlM))
            rw [valid_same] at hv2
            rw [hv] at hv1 hv2
            skip
            (refine adraw pln4 [1, 2] (by kernel_rfl) ?_; conv => whnf)
            repeat' (first
             | (refine And.intro ?_ ?_ <;> (conv => whnf))
             | (refine acall [1, 2] (by kernel_rfl) hv1 rfl ?_ ?_; (focus ((repeat' (first | rfl | trivial | apply And.intro)); done)); (conv => whnf))
             | (refine acall [1, 2] (by kernel_rfl) hv2 rfl ?_ ?_; (focus ((repeat' (first | rfl | trivial | apply And.intro)); done)); (conv => whnf)))
            all_goals (cases vb <;> (refine aret [] ?_; (repeat' (first | rfl | trivial | apply And.intro)); done)))
  ·
    repeat' (first
      | (rw [tmod13, hk]; refine VReq.mk (by decide) ?_; conv => whnf)
      | (refine VReq.mk (by decide) ?_; conv => whnf)
      | (refine VReq.mk (by simp only [List.length_map] at *; omega) ?_; conv => whnf)
      | (refine AAr.i64 (by omega) ?_; conv => whnf)
      | (refine AIn.mk' (at_ % r.links.length) (by simp only [List.length_map]; rfl) (by simp only [List.length_map] at *; exact Nat.mod_lt _ (by omega)) ?_; conv => whnf)
      | (refine AIn.mk' (at_ % r.slots.length) (by simp only [List.length_map]; rfl) (by simp only [List.length_map] at *; exact Nat.mod_lt _ (by omega)) ?_; conv => whnf)
      | (refine ARd.map (by simp only [List.length_map] at *; exact Nat.mod_lt _ (by omega)) ?_; conv => whnf)
      | (refine ARd.set (by simp only [List.length_map] at *; exact Nat.mod_lt _ (by omega)) ?_; conv => whnf)
      | (refine adraw (id := 10) pln4 [] (by kernel_rfl) ?_; conv => whnf)
      | (refine adraw (id := 19) pln4 [] (by kernel_rfl) ?_; conv => whnf)
      | (refine (AAr.mk ?_ : AAr .u8 n _); rw [hm8]; conv => whnf)
      | (refine acall [] (by kernel_rfl) (idA m hm256) rfl ?_ ?_; (focus ((repeat' (first | rfl | trivial | apply And.intro)); done)); (conv => whnf))
      | (refine vif_split (fun h => ?_) (fun h => ?_) <;> (try simp only [sEqD, cond_true, cond_false, Bool.not_eq_true', Bool.not_eq_false', decide_eq_true_eq, decide_eq_false_iff_not, beq_iff_eq, bne_iff_ne, beq_eq_false_iff_ne, bne_eq_false_iff_eq, ne_eq, Bool.not_eq_eq_eq_not, Bool.not_true, Bool.not_false, Bool.false_eq_true, Bool.true_eq_false, Decidable.not_not, gt_iff_lt, ge_iff_le, Int.not_lt, Int.not_le] at h) <;> (conv => whnf)))
    all_goals first
     | (refine (fun hx : at_ % r.slots.length < r.slots.length => ?_) ?_; rotate_left 1; (focus (simp only [List.length_map] at *; apply Nat.mod_lt; omega));
           (generalize hv : validB ⟨r.now, r.links, r.slots.set (at_ % r.slots.length) ⟨r.slots[at_ % r.slots.length].id, r.slots[at_ % r.slots.length].layer, r.slots[at_ % r.slots.length].exp, r.slots[at_ % r.slots.length].arm, r.slots[at_ % r.slots.length].from_, 0, 0⟩⟩ = vb
            have hv1 := valid1A ⟨r.now, r.links, r.slots.set (at_ % r.slots.length) ⟨r.slots[at_ % r.slots.length].id, r.slots[at_ % r.slots.length].layer, r.slots[at_ % r.slots.length].exp, r.slots[at_ % r.slots.length].arm, r.slots[at_ % r.slots.length].from_, 0, 0⟩⟩ (regS_slot hft.s r.now (at_ % r.slots.length) _ (hft.s.s _ (List.getElem_mem hx)).1 (hft.s.s _ (List.getElem_mem hx)).2.1 (hft.s.s _ (List.getElem_mem hx)).2.2)
            have hv2 := valid2A ⟨r.now, r.links, r.slots.set (at_ % r.slots.length) ⟨r.slots[at_ % r.slots.length].id, r.slots[at_ % r.slots.length].layer, r.slots[at_ % r.slots.length].exp, r.slots[at_ % r.slots.length].arm, r.slots[at_ % r.slots.length].from_, 0, 0⟩⟩ (regS_slot hft.s r.now (at_ % r.slots.length) _ (hft.s.s _ (List.getElem_mem hx)).1 (hft.s.s _ (List.getElem_mem hx)).2.1 (hft.s.s _ (List.getElem_mem hx)).2.2) (by first | exact hlM | (simp only [List.length_set]; exact hlM))
            rw [valid_same] at hv2
            rw [hv] at hv1 hv2
            rw [rg_setS2 _ _ _ _ (slF ⟨r.slots[at_ % r.slots.length].id, r.slots[at_ % r.slots.length].layer, r.slots[at_ % r.slots.length].exp, r.slots[at_ % r.slots.length].arm, r.slots[at_ % r.slots.length].from_, r.slots[at_ % r.slots.length].to_, 0⟩)] at hv1 hv2
            (refine adraw pln4 [1, 2] (by kernel_rfl) ?_; conv => whnf)
            repeat' (first
             | (refine And.intro ?_ ?_ <;> (conv => whnf))
             | (refine acall [1, 2] (by kernel_rfl) hv1 rfl ?_ ?_; (focus ((repeat' (first | rfl | trivial | apply And.intro)); done)); (conv => whnf))
             | (refine acall [1, 2] (by kernel_rfl) hv2 rfl ?_ ?_; (focus ((repeat' (first | rfl | trivial | apply And.intro)); done)); (conv => whnf)))
            all_goals (cases vb <;> (refine aret [] ?_; (repeat' (first | rfl | trivial | apply And.intro)); done)))
       )
     |
           (generalize hv : validB r = vb
            have hv1 := valid1A r hft.s
            have hv2 := valid2A r hft.s (by first | exact hlM | (simp only [List.length_set]; exact hlM))
            rw [valid_same] at hv2
            rw [hv] at hv1 hv2
            skip
            (refine adraw pln4 [1, 2] (by kernel_rfl) ?_; conv => whnf)
            repeat' (first
             | (refine And.intro ?_ ?_ <;> (conv => whnf))
             | (refine acall [1, 2] (by kernel_rfl) hv1 rfl ?_ ?_; (focus ((repeat' (first | rfl | trivial | apply And.intro)); done)); (conv => whnf))
             | (refine acall [1, 2] (by kernel_rfl) hv2 rfl ?_ ?_; (focus ((repeat' (first | rfl | trivial | apply And.intro)); done)); (conv => whnf)))
            all_goals (cases vb <;> (refine aret [] ?_; (repeat' (first | rfl | trivial | apply And.intro)); done)))
end Go.Proofs.YtinpgogjkmmjpaaDoor.Sx
