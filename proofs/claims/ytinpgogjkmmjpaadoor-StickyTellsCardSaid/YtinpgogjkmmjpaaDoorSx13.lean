/- The walks of a change: assignment, play and refer. Condition: as Sx1's. -/
import Derived.Test.YtinpgogjkmmjpaaDoorSx12
set_option linter.unusedVariables false
set_option linter.unusedSimpArgs false
namespace Go.Proofs.YtinpgogjkmmjpaaDoor.Sx
open Go Go.RowKit Go.Proofs.YtinpgogjkmmjpaaDoor.Vc Go.Proofs.YtinpgogjkmmjpaaDoor.Ax Go.Proofs.YtinpgogjkmmjpaaDoor.Ky Go.Proofs.YtinpgogjkmmjpaaDoor.Id Go.Proofs.YtinpgogjkmmjpaaDoor.Sp

def heldOf (x : Chg) : Bool := ((x.arm % 16 : Nat) : Int) == 15
def layX (x : Chg) : ByteArray := layOf (x.exp % 4 / 2)
def expX (x : Chg) : ByteArray := expOf (x.exp % 4)
def armX (x : Chg) : Int := 1 + ((x.arm % 3 : Nat) : Int)
def coolX (x : Chg) : Int := ((x.cool % 9 : Nat) : Int) - 1
theorem tmod4 (n : Nat) : Int.tmod (n : Int) 4 = ((n % 4 : Nat) : Int) := rfl
theorem tmod9 (n : Nat) : Int.tmod (n : Int) 9 = ((n % 9 : Nat) : Int) := rfl
theorem tmod3 (n : Nat) : Int.tmod (n : Int) 3 = ((n % 3 : Nat) : Int) := rfl
theorem tmod16 (n : Nat) : Int.tmod (n : Int) 16 = ((n % 16 : Nat) : Int) := rfl
theorem tdiv2 (n : Nat) : Int.tdiv (n : Int) 2 = ((n / 2 : Nat) : Int) := rfl
attribute [local irreducible] idsL layL expL
set_option maxHeartbeats 4000000 in
set_option maxRecDepth 100000 in
theorem asgnA (x : Chg) (hx : x.ok) : AFn Tryd.prog GS 38 [chA x] 0 [] (Is (asA (layX x) (expX x) 0 (armX x) (heldOf x))) := by
  have he := hx.exp
  have ha := hx.arm
  refine afn_of Tryd.func38 rfl mixed (by kernel_rfl) ?_
  conv => whnf
  (repeat' (first | (refine And.intro ?_ ?_ <;> (conv => whnf)) | (refine vif_split (fun h => ?_) (fun h => ?_) <;> (try simp only [sEqD, cond_true, cond_false, Bool.not_eq_true', Bool.not_eq_false', decide_eq_true_eq, decide_eq_false_iff_not, beq_iff_eq, bne_iff_ne, beq_eq_false_iff_ne, bne_eq_false_iff_eq, ne_eq, Bool.not_eq_eq_eq_not, Bool.not_true, Bool.not_false, Bool.false_eq_true, Bool.true_eq_false, Decidable.not_not, gt_iff_lt, ge_iff_le, Int.not_lt, Int.not_le] at h) <;> (conv => whnf)) | (refine AAr.i64 (by first | omega | ((try simp only [List.length_map] at *); omega)) ?_; conv => whnf) | (refine AIn.mk' _ rfl (by first | omega | (simp only [List.length_map, List.length_append, List.length_cons, List.length_nil, List.length_take, List.length_drop, List.length_set, List.length_replicate]; omega) | (simp only [List.length_map, List.length_append, List.length_cons, List.length_nil, List.length_take, List.length_drop, List.length_set, List.length_replicate] at *; omega)) ?_; conv => whnf) | (refine ARd.mapAt (by assumption) ?_; conv => whnf) | (refine ARd.set (by (try simp only [List.length_map, List.length_append, List.length_cons, List.length_nil, List.length_take, List.length_drop, List.length_set, List.length_replicate] at *); omega) ?_; conv => whnf) | (refine ARd.map (by first | omega | (simp only [List.length_map] at *; omega)) ?_; conv => whnf) | (refine VReq.mk (by first | decide | omega) ?_; conv => whnf) | (refine AEq.mk (by kernel_rfl) rfl rfl ?_; conv => whnf) | (refine VReq.mk (app_ok (by (try simp only [List.length_map, List.length_append, List.length_cons, List.length_nil, List.length_take, List.length_drop, List.length_set, List.length_replicate] at *); omega) (by kernel_rfl)) ?_; conv => whnf)))
  all_goals (try rw [tmod4])
  (refine adraw pln38 [] (by kernel_rfl) ?_; conv => whnf)
  rw [tdiv2]
  repeat' (first
    | (refine And.intro ?_ ?_ <;> (conv => whnf))
    | (refine VReq.mk (by decide) ?_; conv => whnf)
    | (refine AAr.i64 (by omega) ?_; conv => whnf)
    | (rw [tmod3]; refine AAr.i64 (by omega) ?_; conv => whnf)
    | ((refine acallF [] (by kernel_rfl) (layersA) ?_ ?_; (focus (repeat' (first | rfl | trivial | apply And.intro)))); rintro _ _ _ ⟨rfl, rfl, rfl⟩; (conv => whnf))
    | ((refine acallF [] (by kernel_rfl) (expsA) ?_ ?_; (focus (repeat' (first | rfl | trivial | apply And.intro)))); rintro _ _ _ ⟨rfl, rfl, rfl⟩; (conv => whnf))
    | (refine AIn.mk' (x.exp % 4 / 2) rfl (by rw [List.length_map, layL_len]; omega) ?_; conv => whnf)
    | (refine AIn.mk' (x.exp % 4) rfl (by rw [List.length_map, expL_len]; omega) ?_; conv => whnf)
    | (refine strRd (by rw [layL_len]; omega) ?_; conv => whnf)
    | (refine strRd (by rw [expL_len]; omega) ?_; conv => whnf))
  all_goals first
    | exact aret [] (by repeat' (first | rfl | trivial | apply And.intro))
    | trace_state

def asgX (x : Chg) (r : Rg) : Rg × Sl × Int := asgR (readyE (validB r) r (nowOf x r)) (keyB (idOf x.id) && keyB (layX x)) (heldOf x || !keyB (expX x) || decide (armX x < 1 ∨ 8 < armX x)) r (idOf x.id) (layX x) (expX x) (armX x) (coolX x) (nowOf x r)
def mrgX (x : Chg) (r : Rg) : Rg × List Sl × Int := mrgR (readyE (validB r) r (nowOf x r)) (keyB (idOf x.id) && keyB (idOf x.other)) r (idOf x.id) (idOf x.other) (nowOf x r) (d1 (r.links ++ [⟨idOf x.id, idOf x.other, nowOf x r⟩]) (idOf x.id) r.slots)
def stpX (x : Chg) (r : Rg) : Rg × Int × Int := stopR (readyE (validB r) r (nowOf x r)) (keyB (expX x)) r (expX x) (nowOf x r)
def playR (x : Chg) (r : Rg) : Rg × List Sl × Int × Int :=
  if x.kind % 5 < 3 then ((asgX x r).1, [(asgX x r).2.1], 0, (asgX x r).2.2)
  else if x.kind % 5 = 3 then ((mrgX x r).1, (mrgX x r).2.1, 0, (mrgX x r).2.2)
  else ((stpX x r).1, [], (stpX x r).2.1, (stpX x r).2.2)
def playV (t : Rg × List Sl × Int × Int) : AV := .tup [rgA t.1, slsA t.2.1, iv t.2.2.1, iv t.2.2.2]
theorem idOf_size (n : Nat) : strOK (idOf n).size := by
  have h : ∀ i, i < 6 → ((idsL.getD i ⟨#[]⟩).size ≤ 140737488355328) := by unfold idsL; decide
  exact h (n % 6) (Nat.mod_lt _ (by decide))
theorem layOf_size (n : Nat) : strOK (layOf n).size := by
  unfold layOf strOK layL
  match n with
  | 0 => decide
  | 1 => decide
  | n + 2 => simp [List.getD]; decide
theorem expOf_size (n : Nat) : strOK (expOf n).size := by
  unfold expOf strOK expL
  match n with
  | 0 => decide
  | 1 => decide
  | 2 => decide
  | 3 => decide
  | n + 4 => simp [List.getD]; decide
theorem tmod5' (n : Nat) : Int.tmod (n : Int) 5 = ((n % 5 : Nat) : Int) := rfl
/-- what both need of a register -/
structure Fit (r : Rg) : Prop where
  s : RegS r
  n : 0 ≤ r.now ∧ r.now ≤ 1099511627776
  len : r.slots.length ≤ 1000000 ∧ r.links.length ≤ 1000000
theorem asg1X (x : Chg) (r : Rg) (f : Fit r) : AFn Tryd.prog GS 33 [rgA r, sv (idOf x.id), asA (layX x) (expX x) 0 (armX x) (heldOf x), iv (coolX x), iv (nowOf x r)] 0 [] (Is (asgV (asgX x r))) :=
  assign1A r _ _ _ 0 _ _ _ _ (idOf_size _) (layOf_size _) (expOf_size _) f.s f.len
theorem asg2X (x : Chg) (r : Rg) (f : Fit r) : AFn Tryd.prog GS 34 [rgA r, sv (idOf x.id), asA (layX x) (expX x) 0 (armX x) (heldOf x), iv (coolX x), iv (nowOf x r)] 0 [] (Is (asgV (asgX x r))) := by
  have := assign2A r (idOf x.id) (layX x) (expX x) 0 (armX x) (coolX x) (nowOf x r) (heldOf x) (idOf_size _) (layOf_size _) (expOf_size _) f.s f.len
  rw [valid_same] at this
  exact this
theorem mrg1X (x : Chg) (r : Rg) (f : Fit r) : AFn Tryd.prog GS 28 [rgA r, sv (idOf x.id), sv (idOf x.other), iv (nowOf x r)] 0 [] (Is (mrgV (mrgX x r))) :=
  merge1A r _ _ _ (idOf_size _) (idOf_size _) f.s f.len
theorem mrg2X (x : Chg) (r : Rg) (f : Fit r) : AFn Tryd.prog GS 35 [rgA r, sv (idOf x.id), sv (idOf x.other), iv (nowOf x r)] 0 [] (Is (mrgV (mrgX x r))) := by
  have := merge2A r (idOf x.id) (idOf x.other) (nowOf x r) (idOf_size _) (idOf_size _) f.s f.len
  rw [valid_same, mrgR_same fun h => (ready_good (valid_iff r).1 h).1] at this
  exact this
theorem stp1X (x : Chg) (r : Rg) (f : Fit r) : AFn Tryd.prog GS 36 [rgA r, sv (expX x), iv (nowOf x r)] 0 [] (Is (stopV (stpX x r))) := stop1A r _ _ (expOf_size _) f.s f.len
theorem stp2X (x : Chg) (r : Rg) (f : Fit r) : AFn Tryd.prog GS 37 [rgA r, sv (expX x), iv (nowOf x r)] 0 [] (Is (stopV (stpX x r))) := by
  have := stop2A r (expX x) (nowOf x r) (expOf_size _) f.s f.len
  rw [valid_same] at this
  exact this
set_option maxHeartbeats 8000000 in
set_option maxRecDepth 100000 in
theorem play1A (x : Chg) (r : Rg) (hx : x.ok) (f : Fit r) : AFn Tryd.prog GS 14 [chA x, rgA r] 0 [] (Is (playV (playR x r))) := by
  have hA := asg1X x r f
  have hM := mrg1X x r f
  have hS := stp1X x r f
  have hP : playR x r = if x.kind % 5 < 3 then ((asgX x r).1, [(asgX x r).2.1], 0, (asgX x r).2.2) else if x.kind % 5 = 3 then ((mrgX x r).1, (mrgX x r).2.1, 0, (mrgX x r).2.2) else ((stpX x r).1, [], (stpX x r).2.1, (stpX x r).2.2) := rfl
  rw [hP]
  clear hP
  have hN := nowA x r hx f.n
  have hG := asgnA x hx
  have hI := idA x.id hx.id
  have hO := idA x.other hx.other
  have hco := hx.cool
  have hid := hx.id
  have hot := hx.other
  have hex := hx.exp
  generalize asgX x r = ta at hA ⊢
  generalize mrgX x r = tm at hM ⊢
  generalize stpX x r = ts at hS ⊢
  generalize nowOf x r = nw at hA hM hS hN
  generalize heldOf x = hd at hA hG
  generalize layX x = ly at hA hG
  generalize armX x = am at hA hG
  obtain ⟨⟨n0, l0, s0⟩, sl, e0⟩ := ta
  obtain ⟨⟨n1, l1, s1⟩, sm, e1⟩ := tm
  obtain ⟨⟨n2, l2, s2⟩, m2, e2⟩ := ts
  refine afn_of Tryd.func14 rfl mixed (by kernel_rfl) ?_
  conv => whnf
  (refine acall [] (by kernel_rfl) (hN) rfl ?_ ?_; (focus (repeat' (first | rfl | trivial | apply And.intro))))
  conv => whnf
  rcases (by omega : x.kind % 5 = 0 ∨ x.kind % 5 = 1 ∨ x.kind % 5 = 2 ∨ x.kind % 5 = 3 ∨ x.kind % 5 = 4) with hk | hk | hk | hk | hk
  all_goals (rw [tmod5', hk]; (conv => whnf); refine VReq.mk (by decide) ?_; (conv => whnf))
  all_goals (first | rw [if_pos (by omega)] | rw [if_neg (by omega), if_pos (by omega)] | rw [if_neg (by omega), if_neg (by omega)])
  ·
    (refine adraw pln14 [] (by kernel_rfl) ?_; conv => whnf)
    repeat' (first
      | (refine And.intro ?_ ?_ <;> (conv => whnf))
      | (refine VReq.mk (by decide) ?_; conv => whnf)
      | (refine AAr.i64 (by omega) ?_; conv => whnf)
      | (rw [tmod9]; refine AAr.i64 (by omega) ?_; conv => whnf)
      | (refine acall [] (by kernel_rfl) (hI) rfl ?_ ?_; (focus ((repeat' (first | rfl | trivial | apply And.intro)); done)); (conv => whnf))
      | (refine acall [] (by kernel_rfl) (hG) rfl ?_ ?_; (focus ((repeat' (first | rfl | trivial | apply And.intro)); done)); (conv => whnf))
      | (refine acallF [] (by kernel_rfl) (hA) ?_ ?_; (focus ((repeat' (first | rfl | trivial | apply And.intro)); done)); rintro _ _ _ ⟨rfl, rfl, rfl⟩; (conv => whnf))
      | (refine adraw pln14 [2] (by kernel_rfl) ?_; conv => whnf))
    all_goals first | (refine aret [5] ?_; ((repeat' (first | rfl | trivial | apply And.intro)); done)) | trace_state
  ·
    (refine adraw pln14 [] (by kernel_rfl) ?_; conv => whnf)
    repeat' (first
      | (refine And.intro ?_ ?_ <;> (conv => whnf))
      | (refine VReq.mk (by decide) ?_; conv => whnf)
      | (refine AAr.i64 (by omega) ?_; conv => whnf)
      | (rw [tmod9]; refine AAr.i64 (by omega) ?_; conv => whnf)
      | (refine acall [] (by kernel_rfl) (hI) rfl ?_ ?_; (focus ((repeat' (first | rfl | trivial | apply And.intro)); done)); (conv => whnf))
      | (refine acall [] (by kernel_rfl) (hG) rfl ?_ ?_; (focus ((repeat' (first | rfl | trivial | apply And.intro)); done)); (conv => whnf))
      | (refine acallF [] (by kernel_rfl) (hA) ?_ ?_; (focus ((repeat' (first | rfl | trivial | apply And.intro)); done)); rintro _ _ _ ⟨rfl, rfl, rfl⟩; (conv => whnf))
      | (refine adraw pln14 [2] (by kernel_rfl) ?_; conv => whnf))
    all_goals first | (refine aret [5] ?_; ((repeat' (first | rfl | trivial | apply And.intro)); done)) | trace_state
  ·
    (refine adraw pln14 [] (by kernel_rfl) ?_; conv => whnf)
    repeat' (first
      | (refine And.intro ?_ ?_ <;> (conv => whnf))
      | (refine VReq.mk (by decide) ?_; conv => whnf)
      | (refine AAr.i64 (by omega) ?_; conv => whnf)
      | (rw [tmod9]; refine AAr.i64 (by omega) ?_; conv => whnf)
      | (refine acall [] (by kernel_rfl) (hI) rfl ?_ ?_; (focus ((repeat' (first | rfl | trivial | apply And.intro)); done)); (conv => whnf))
      | (refine acall [] (by kernel_rfl) (hG) rfl ?_ ?_; (focus ((repeat' (first | rfl | trivial | apply And.intro)); done)); (conv => whnf))
      | (refine acallF [] (by kernel_rfl) (hA) ?_ ?_; (focus ((repeat' (first | rfl | trivial | apply And.intro)); done)); rintro _ _ _ ⟨rfl, rfl, rfl⟩; (conv => whnf))
      | (refine adraw pln14 [2] (by kernel_rfl) ?_; conv => whnf))
    all_goals first | (refine aret [5] ?_; ((repeat' (first | rfl | trivial | apply And.intro)); done)) | trace_state
  · (refine adraw pln14 [] (by kernel_rfl) ?_; conv => whnf)
    repeat' (first
      | (refine And.intro ?_ ?_ <;> (conv => whnf))
      | (refine AAr.i64 (by omega) ?_; conv => whnf)
      | (refine acall [] (by kernel_rfl) (hI) rfl ?_ ?_; (focus ((repeat' (first | rfl | trivial | apply And.intro)); done)); (conv => whnf))
      | (refine acall [] (by kernel_rfl) (hO) rfl ?_ ?_; (focus ((repeat' (first | rfl | trivial | apply And.intro)); done)); (conv => whnf))
      | (refine acallF [] (by kernel_rfl) (hM) ?_ ?_; (focus ((repeat' (first | rfl | trivial | apply And.intro)); done)); rintro _ _ _ ⟨rfl, rfl, rfl⟩; (conv => whnf)))
    all_goals first | (refine aret [] ?_; ((repeat' (first | rfl | trivial | apply And.intro)); done)) | trace_state
  · (refine adraw pln14 [] (by kernel_rfl) ?_; conv => whnf)
    repeat' (first
      | (refine And.intro ?_ ?_ <;> (conv => whnf))
      | (refine VReq.mk (by decide) ?_; conv => whnf)
      | (refine AAr.i64 (by omega) ?_; conv => whnf)
      | (refine acallF [] (by kernel_rfl) (expsA) ?_ ?_; (focus ((repeat' (first | rfl | trivial | apply And.intro)); done)); rintro _ _ _ ⟨rfl, rfl, rfl⟩; (conv => whnf))
      | (refine AIn.mk' (x.exp % 4) rfl (by rw [List.length_map, expL_len]; omega) ?_; conv => whnf)
      | (refine strRd (by rw [expL_len]; omega) ?_; conv => whnf)
      | (refine acallF [] (by kernel_rfl) (hS) ?_ ?_; (focus ((repeat' (first | rfl | trivial | apply And.intro)); done)); rintro _ _ _ ⟨rfl, rfl, rfl⟩; (conv => whnf)))
    all_goals first | (refine aret [] ?_; ((repeat' (first | rfl | trivial | apply And.intro)); done)) | trace_state
set_option maxHeartbeats 8000000 in
set_option maxRecDepth 100000 in
theorem play2A (x : Chg) (r : Rg) (hx : x.ok) (f : Fit r) : AFn Tryd.prog GS 15 [chA x, rgA r] 0 [] (Is (playV (playR x r))) := by
  have hA := asg2X x r f
  have hM := mrg2X x r f
  have hS := stp2X x r f
  have hP : playR x r = if x.kind % 5 < 3 then ((asgX x r).1, [(asgX x r).2.1], 0, (asgX x r).2.2) else if x.kind % 5 = 3 then ((mrgX x r).1, (mrgX x r).2.1, 0, (mrgX x r).2.2) else ((stpX x r).1, [], (stpX x r).2.1, (stpX x r).2.2) := rfl
  rw [hP]
  clear hP
  have hN := nowA x r hx f.n
  have hG := asgnA x hx
  have hI := idA x.id hx.id
  have hO := idA x.other hx.other
  have hco := hx.cool
  have hid := hx.id
  have hot := hx.other
  have hex := hx.exp
  generalize asgX x r = ta at hA ⊢
  generalize mrgX x r = tm at hM ⊢
  generalize stpX x r = ts at hS ⊢
  generalize nowOf x r = nw at hA hM hS hN
  generalize heldOf x = hd at hA hG
  generalize layX x = ly at hA hG
  generalize armX x = am at hA hG
  obtain ⟨⟨n0, l0, s0⟩, sl, e0⟩ := ta
  obtain ⟨⟨n1, l1, s1⟩, sm, e1⟩ := tm
  obtain ⟨⟨n2, l2, s2⟩, m2, e2⟩ := ts
  refine afn_of Tryd.func15 rfl mixed (by kernel_rfl) ?_
  conv => whnf
  (refine acall [] (by kernel_rfl) (hN) rfl ?_ ?_; (focus (repeat' (first | rfl | trivial | apply And.intro))))
  conv => whnf
  rcases (by omega : x.kind % 5 = 0 ∨ x.kind % 5 = 1 ∨ x.kind % 5 = 2 ∨ x.kind % 5 = 3 ∨ x.kind % 5 = 4) with hk | hk | hk | hk | hk
  all_goals (rw [tmod5', hk]; (conv => whnf); refine VReq.mk (by decide) ?_; (conv => whnf))
  all_goals (first | rw [if_pos (by omega)] | rw [if_neg (by omega), if_pos (by omega)] | rw [if_neg (by omega), if_neg (by omega)])
  ·
    (refine adraw pln15 [] (by kernel_rfl) ?_; conv => whnf)
    repeat' (first
      | (refine And.intro ?_ ?_ <;> (conv => whnf))
      | (refine VReq.mk (by decide) ?_; conv => whnf)
      | (refine AAr.i64 (by omega) ?_; conv => whnf)
      | (rw [tmod9]; refine AAr.i64 (by omega) ?_; conv => whnf)
      | (refine acall [] (by kernel_rfl) (hI) rfl ?_ ?_; (focus ((repeat' (first | rfl | trivial | apply And.intro)); done)); (conv => whnf))
      | (refine acall [] (by kernel_rfl) (hG) rfl ?_ ?_; (focus ((repeat' (first | rfl | trivial | apply And.intro)); done)); (conv => whnf))
      | (refine acallF [] (by kernel_rfl) (hA) ?_ ?_; (focus ((repeat' (first | rfl | trivial | apply And.intro)); done)); rintro _ _ _ ⟨rfl, rfl, rfl⟩; (conv => whnf))
      | (refine adraw pln15 [2] (by kernel_rfl) ?_; conv => whnf))
    all_goals first | (refine aret [5] ?_; ((repeat' (first | rfl | trivial | apply And.intro)); done)) | trace_state
  ·
    (refine adraw pln15 [] (by kernel_rfl) ?_; conv => whnf)
    repeat' (first
      | (refine And.intro ?_ ?_ <;> (conv => whnf))
      | (refine VReq.mk (by decide) ?_; conv => whnf)
      | (refine AAr.i64 (by omega) ?_; conv => whnf)
      | (rw [tmod9]; refine AAr.i64 (by omega) ?_; conv => whnf)
      | (refine acall [] (by kernel_rfl) (hI) rfl ?_ ?_; (focus ((repeat' (first | rfl | trivial | apply And.intro)); done)); (conv => whnf))
      | (refine acall [] (by kernel_rfl) (hG) rfl ?_ ?_; (focus ((repeat' (first | rfl | trivial | apply And.intro)); done)); (conv => whnf))
      | (refine acallF [] (by kernel_rfl) (hA) ?_ ?_; (focus ((repeat' (first | rfl | trivial | apply And.intro)); done)); rintro _ _ _ ⟨rfl, rfl, rfl⟩; (conv => whnf))
      | (refine adraw pln15 [2] (by kernel_rfl) ?_; conv => whnf))
    all_goals first | (refine aret [5] ?_; ((repeat' (first | rfl | trivial | apply And.intro)); done)) | trace_state
  ·
    (refine adraw pln15 [] (by kernel_rfl) ?_; conv => whnf)
    repeat' (first
      | (refine And.intro ?_ ?_ <;> (conv => whnf))
      | (refine VReq.mk (by decide) ?_; conv => whnf)
      | (refine AAr.i64 (by omega) ?_; conv => whnf)
      | (rw [tmod9]; refine AAr.i64 (by omega) ?_; conv => whnf)
      | (refine acall [] (by kernel_rfl) (hI) rfl ?_ ?_; (focus ((repeat' (first | rfl | trivial | apply And.intro)); done)); (conv => whnf))
      | (refine acall [] (by kernel_rfl) (hG) rfl ?_ ?_; (focus ((repeat' (first | rfl | trivial | apply And.intro)); done)); (conv => whnf))
      | (refine acallF [] (by kernel_rfl) (hA) ?_ ?_; (focus ((repeat' (first | rfl | trivial | apply And.intro)); done)); rintro _ _ _ ⟨rfl, rfl, rfl⟩; (conv => whnf))
      | (refine adraw pln15 [2] (by kernel_rfl) ?_; conv => whnf))
    all_goals first | (refine aret [5] ?_; ((repeat' (first | rfl | trivial | apply And.intro)); done)) | trace_state
  · (refine adraw pln15 [] (by kernel_rfl) ?_; conv => whnf)
    repeat' (first
      | (refine And.intro ?_ ?_ <;> (conv => whnf))
      | (refine AAr.i64 (by omega) ?_; conv => whnf)
      | (refine acall [] (by kernel_rfl) (hI) rfl ?_ ?_; (focus ((repeat' (first | rfl | trivial | apply And.intro)); done)); (conv => whnf))
      | (refine acall [] (by kernel_rfl) (hO) rfl ?_ ?_; (focus ((repeat' (first | rfl | trivial | apply And.intro)); done)); (conv => whnf))
      | (refine acallF [] (by kernel_rfl) (hM) ?_ ?_; (focus ((repeat' (first | rfl | trivial | apply And.intro)); done)); rintro _ _ _ ⟨rfl, rfl, rfl⟩; (conv => whnf)))
    all_goals first | (refine aret [] ?_; ((repeat' (first | rfl | trivial | apply And.intro)); done)) | trace_state
  · (refine adraw pln15 [] (by kernel_rfl) ?_; conv => whnf)
    repeat' (first
      | (refine And.intro ?_ ?_ <;> (conv => whnf))
      | (refine VReq.mk (by decide) ?_; conv => whnf)
      | (refine AAr.i64 (by omega) ?_; conv => whnf)
      | (refine acallF [] (by kernel_rfl) (expsA) ?_ ?_; (focus ((repeat' (first | rfl | trivial | apply And.intro)); done)); rintro _ _ _ ⟨rfl, rfl, rfl⟩; (conv => whnf))
      | (refine AIn.mk' (x.exp % 4) rfl (by rw [List.length_map, expL_len]; omega) ?_; conv => whnf)
      | (refine strRd (by rw [expL_len]; omega) ?_; conv => whnf)
      | (refine acallF [] (by kernel_rfl) (hS) ?_ ?_; (focus ((repeat' (first | rfl | trivial | apply And.intro)); done)); rintro _ _ _ ⟨rfl, rfl, rfl⟩; (conv => whnf)))
    all_goals first | (refine aret [] ?_; ((repeat' (first | rfl | trivial | apply And.intro)); done)) | trace_state
end Go.Proofs.YtinpgogjkmmjpaaDoor.Sx
