/- The walks of both Forced and of the sticky law Tells. Condition: as Sx1's. -/
import Derived.Test.YtinpgogjkmmjpaaDoorSx15
import Derived.Test.YtinpgogjkmmjpaaDoorAx10
import Derived.Test.YtinpgogjkmmjpaaDoorTs
set_option linter.unusedVariables false
set_option linter.unusedSimpArgs false
namespace Go.Proofs.YtinpgogjkmmjpaaDoor.Sx
open Go Go.RowKit Go.Proofs Go.Proofs.YtinpgogjkmmjpaaDoor.Vc Go.Proofs.YtinpgogjkmmjpaaDoor.Ax Go.Proofs.YtinpgogjkmmjpaaDoor.Ky Go.Proofs.YtinpgogjkmmjpaaDoor.Id Go.Proofs.YtinpgogjkmmjpaaDoor.Sp Go.Proofs.YtinpgogjkmmjpaaDoor.Ts
attribute [local irreducible] loadVar storeVar Instr.indexAt Instr.index Instr.sliceAt Instr.makeSlice Instr.lookup Instr.mapUpdate Instr.range Instr.next Instr.entry Instr.makeMap Builtin.append_ Builtin.copy_ Builtin.len_ Builtin.min_ Builtin.max_ Builtin.cap_ Builtin.delete_ Builtin.clear_ convert binOp eqGuard Op.unary Calls
/-- the layers of all slots -/
def lyL (r : Rg) : Tx := r.slots.map fun s => s.layer.data.toList
theorem lyL_len (r : Rg) : (lyL r).length = r.slots.length := List.length_map _
theorem lyL_take (r : Rg) {k : Nat} (h : k < r.slots.length) : (lyL r).take (k + 1) = (lyL r).take k ++ [r.slots[k].layer.data.toList] := by
  unfold lyL
  rw [← List.map_take, List.take_succ_eq_append_getElem h, List.map_append, List.map_take]; rfl
def foF (x : By × Sl) : List FV := [.v (.string ⟨x.1.toArray⟩), .v (.string x.2.exp), .v (.int .i64 x.2.arm)]
def fcL (r : Rg) (id : ByteArray) (t : Int) (l : Tx) : List (By × Sl) := l.filterMap fun y => (atO r id ⟨y.toArray⟩ t).map fun s => (y, s)
theorem fcL_snoc (r : Rg) (id : ByteArray) (t : Int) (l : Tx) (y : By) : fcL r id t (l ++ [y]) = fcL r id t l ++ (match atO r id ⟨y.toArray⟩ t with | some s => [(y, s)] | none => []) := by
  unfold fcL
  rw [List.filterMap_append]
  cases h : atO r id ⟨y.toArray⟩ t <;> simp [List.filterMap, h]
theorem fcL_len (r : Rg) (id : ByteArray) (t : Int) (l : Tx) : (fcL r id t l).length ≤ l.length := List.length_filterMap_le _ _
theorem fcL_take (r : Rg) (id : ByteArray) (t : Int) (l : Tx) {k : Nat} (h : k < l.length) : fcL r id t (l.take (k + 1)) = fcL r id t (l.take k) ++ (match atO r id ⟨l[k].toArray⟩ t with | some s => [(l[k], s)] | none => []) := by
  rw [List.take_succ_eq_append_getElem h, fcL_snoc]
theorem atO_layer {r : Rg} {id ly : ByteArray} {t : Int} {s : Sl} (h : atO r id ly t = some s) : s.layer = ly := by
  have h2 := List.find?_some (p := atP (unt t r.links) id ly t) (show r.slots.find? (atP (unt t r.links) id ly t) = some s from h)
  unfold atP at h2
  simp only [Bool.and_eq_true, decide_eq_true_eq] at h2
  exact h2.1.1.1
theorem key_at (l x : Tx) {k : Nat} (h : k < (dsT l).length) : (dsT l ++ x)[0 + k]? = some (dsT l)[k] := by rw [Nat.zero_add, List.getElem?_append_left h, List.getElem?_eq_getElem h]
theorem dsT_nil : dsT [] = [] := rfl
attribute [local irreducible] validB atO srtT dsT

set_option maxHeartbeats 4000000 in
set_option maxRecDepth 100000 in
theorem forced1A (r : Rg) (id : ByteArray) (t : Int) (hv : validB r = true) (hS : RegS r) (hne : r.slots ≠ []) (hln : r.slots.length ≤ 1000000 ∧ r.links.length ≤ 1000000) : AFn Tryd.prog GS 39 [rgA r, sv id, iv t] 0 [] (Own1 75 3 ((fcL r id t (dsT (lyL r))).map foF)) := by
  have hvA := valid1A r hS
  rw [hv] at hvA
  have hyl := lyL_len r
  have hyn : lyL r ≠ [] := fun h => hne (by rw [h] at hyl; exact List.eq_nil_of_length_eq_zero hyl.symm)
  have hdl := dsT_len (lyL r)
  refine afn_of Tryd.func39 rfl mixed (by kernel_rfl) ?_
  conv => whnf
  (refine acall [] (by kernel_rfl) (hvA) rfl ?_ ?_; (focus ((repeat' (first | rfl | trivial | apply And.intro)); done)); (conv => whnf))
  refine aloop ws39_1 2 [21, 7] (fun k : Nat => [(21, iv k), (7, .own 1)]) (fun k => [(1, .rows 9 1 (((lyL r).take k).map enT)), (0, rgB r)]) (fun k => k ≤ r.slots.length) (fun k => r.slots.length - k) [(1, .nil)] [] 0 (by kernel_rfl) (fun _ => rfl) rfl (Nat.zero_le _) (by repeat' (first | rfl | trivial | apply And.intro)) (by repeat' (first | rfl | trivial | apply And.intro)) ?_
  rintro k hk
  conv => whnf
  refine vif_split (fun hlt => ?_) (fun hge => ?_)
  · have hlt : k < r.slots.length := by simpa using hlt
    have hlk : ((lyL r).take k).length ≤ 1000000 := by rw [List.length_take]; omega
    conv => whnf
    (repeat' (first | (refine And.intro ?_ ?_ <;> (conv => whnf)) | (refine vif_split (fun h => ?_) (fun h => ?_) <;> (try simp only [sEqD, cond_true, cond_false, Bool.not_eq_true', Bool.not_eq_false', decide_eq_true_eq, decide_eq_false_iff_not, beq_iff_eq, bne_iff_ne, beq_eq_false_iff_ne, bne_eq_false_iff_eq, ne_eq, Bool.not_eq_eq_eq_not, Bool.not_true, Bool.not_false, Bool.false_eq_true, Bool.true_eq_false, Decidable.not_not, gt_iff_lt, ge_iff_le, Int.not_lt, Int.not_le] at h) <;> (conv => whnf)) | (refine AAr.i64 (by first | omega | ((try simp only [List.length_map] at *); omega)) ?_; conv => whnf) | (refine AIn.mk' _ rfl (by first | omega | (simp only [List.length_map, List.length_append, List.length_cons, List.length_nil, List.length_take, List.length_drop, List.length_set, List.length_replicate]; omega) | (simp only [List.length_map, List.length_append, List.length_cons, List.length_nil, List.length_take, List.length_drop, List.length_set, List.length_replicate] at *; omega)) ?_; conv => whnf) | (refine ARd.mapAt (by assumption) ?_; conv => whnf) | (refine ARd.set (by (try simp only [List.length_map, List.length_append, List.length_cons, List.length_nil, List.length_take, List.length_drop, List.length_set, List.length_replicate] at *); omega) ?_; conv => whnf) | (refine ARd.map (by first | omega | (simp only [List.length_map] at *; omega)) ?_; conv => whnf) | (refine VReq.mk (by first | decide | omega) ?_; conv => whnf) | (refine AEq.mk (by kernel_rfl) rfl rfl ?_; conv => whnf) | (refine VReq.mk (app_ok (by (try simp only [List.length_map, List.length_append, List.length_cons, List.length_nil, List.length_take, List.length_drop, List.length_set, List.length_replicate] at *); omega) (by kernel_rfl)) ?_; conv => whnf)))
    refine aback (k + 1) [(1, .lab 4)] [] rfl (by show r.slots.length - (k + 1) < r.slots.length - k; omega) hlt ?_ (by repeat' (first | rfl | trivial | apply And.intro))
    rw [lyL_take r hlt, enT_snoc]
    exact (by repeat' (first | rfl | trivial | apply And.intro))
  have : k = r.slots.length := by simp at hge; omega
  subst this
  rw [← hyl, List.take_length]
  conv => whnf
  refine acallM [1] [] (by kernel_rfl) (sortTA (lyL r) hyn (by omega)) rfl (by repeat' (first | rfl | trivial | apply And.intro)) (by repeat' (first | rfl | trivial | apply And.intro)) ?_
  rintro _ _ _ ⟨rfl, rfl, rfl⟩
  refine ⟨rfl, ?_⟩
  conv => whnf
  refine acallM [1] [] (by kernel_rfl) (compactTA (lyL r) hyn (by omega)) rfl (by repeat' (first | rfl | trivial | apply And.intro)) (by repeat' (first | rfl | trivial | apply And.intro)) ?_
  rintro _ _ _ ⟨rfl, rfl, rfl⟩
  refine ⟨rfl, ?_⟩
  conv => whnf
  refine aloop ws39_2 3 [36, 10] (fun k : Nat => [(36, iv k), (10, .own 2)]) (fun k => [(2, .rows 75 3 ((fcL r id t ((dsT (lyL r)).take k)).map foF)), (1, .rows 9 1 ((dsT (lyL r) ++ List.replicate ((lyL r).length - (dsT (lyL r)).length) []).map enT)), (0, rgB r)]) (fun k => k ≤ (dsT (lyL r)).length) (fun k => (dsT (lyL r)).length - k) [(2, .nil)] [] 0 (by kernel_rfl) (fun _ => rfl) rfl (Nat.zero_le _) (by repeat' (first | rfl | trivial | apply And.intro)) (by repeat' (first | rfl | trivial | apply And.intro)) ?_
  rintro k hk
  conv => whnf
  refine vif_split (fun hlt => ?_) (fun hge => ?_)
  · have hlt : k < (dsT (lyL r)).length := by simpa using hlt
    have hA := atA r id ⟨(dsT (lyL r))[k].toArray⟩ t hln
    have hfl := fcL_len r id t ((dsT (lyL r)).take k)
    rw [List.length_take] at hfl
    have hsn := fcL_take r id t (dsT (lyL r)) hlt
    conv => whnf
    refine AIn.mk' k rfl hlt ?_
    conv => whnf
    refine ARd.mapAt (key_at _ _ hlt) ?_
    conv => whnf
    generalize atO r id ⟨(dsT (lyL r))[k].toArray⟩ t = o at hA hsn
    cases o with
    | none =>
      (refine acall [] (by kernel_rfl) (hA) rfl ?_ ?_; (focus ((repeat' (first | rfl | trivial | apply And.intro)); done)); (conv => whnf))
      (repeat' (first | (refine And.intro ?_ ?_ <;> (conv => whnf)) | (refine vif_split (fun h => ?_) (fun h => ?_) <;> (try simp only [sEqD, cond_true, cond_false, Bool.not_eq_true', Bool.not_eq_false', decide_eq_true_eq, decide_eq_false_iff_not, beq_iff_eq, bne_iff_ne, beq_eq_false_iff_ne, bne_eq_false_iff_eq, ne_eq, Bool.not_eq_eq_eq_not, Bool.not_true, Bool.not_false, Bool.false_eq_true, Bool.true_eq_false, Decidable.not_not, gt_iff_lt, ge_iff_le, Int.not_lt, Int.not_le] at h) <;> (conv => whnf)) | (refine AAr.i64 (by first | omega | ((try simp only [List.length_map] at *); omega)) ?_; conv => whnf) | (refine AIn.mk' _ rfl (by first | omega | (simp only [List.length_map, List.length_append, List.length_cons, List.length_nil, List.length_take, List.length_drop, List.length_set, List.length_replicate]; omega) | (simp only [List.length_map, List.length_append, List.length_cons, List.length_nil, List.length_take, List.length_drop, List.length_set, List.length_replicate] at *; omega)) ?_; conv => whnf) | (refine ARd.mapAt (by assumption) ?_; conv => whnf) | (refine ARd.set (by (try simp only [List.length_map, List.length_append, List.length_cons, List.length_nil, List.length_take, List.length_drop, List.length_set, List.length_replicate] at *); omega) ?_; conv => whnf) | (refine ARd.map (by first | omega | (simp only [List.length_map] at *; omega)) ?_; conv => whnf) | (refine VReq.mk (by first | decide | omega) ?_; conv => whnf) | (refine AEq.mk (by kernel_rfl) rfl rfl ?_; conv => whnf) | (refine VReq.mk (app_ok (by (try simp only [List.length_map, List.length_append, List.length_cons, List.length_nil, List.length_take, List.length_drop, List.length_set, List.length_replicate] at *); omega) (by kernel_rfl)) ?_; conv => whnf)))
      refine aback (k + 1) [(2, .lab 2)] [] rfl (by show (dsT (lyL r)).length - (k + 1) < (dsT (lyL r)).length - k; omega) hlt ?_ (by repeat' (first | rfl | trivial | apply And.intro))
      rw [hsn, List.append_nil]
      exact (by repeat' (first | rfl | trivial | apply And.intro))
    | some s =>
      (refine acall [] (by kernel_rfl) (hA) rfl ?_ ?_; (focus ((repeat' (first | rfl | trivial | apply And.intro)); done)); (conv => whnf))
      (repeat' (first | (refine And.intro ?_ ?_ <;> (conv => whnf)) | (refine vif_split (fun h => ?_) (fun h => ?_) <;> (try simp only [sEqD, cond_true, cond_false, Bool.not_eq_true', Bool.not_eq_false', decide_eq_true_eq, decide_eq_false_iff_not, beq_iff_eq, bne_iff_ne, beq_eq_false_iff_ne, bne_eq_false_iff_eq, ne_eq, Bool.not_eq_eq_eq_not, Bool.not_true, Bool.not_false, Bool.false_eq_true, Bool.true_eq_false, Decidable.not_not, gt_iff_lt, ge_iff_le, Int.not_lt, Int.not_le] at h) <;> (conv => whnf)) | (refine AAr.i64 (by first | omega | ((try simp only [List.length_map] at *); omega)) ?_; conv => whnf) | (refine AIn.mk' _ rfl (by first | omega | (simp only [List.length_map, List.length_append, List.length_cons, List.length_nil, List.length_take, List.length_drop, List.length_set, List.length_replicate]; omega) | (simp only [List.length_map, List.length_append, List.length_cons, List.length_nil, List.length_take, List.length_drop, List.length_set, List.length_replicate] at *; omega)) ?_; conv => whnf) | (refine ARd.mapAt (by assumption) ?_; conv => whnf) | (refine ARd.set (by (try simp only [List.length_map, List.length_append, List.length_cons, List.length_nil, List.length_take, List.length_drop, List.length_set, List.length_replicate] at *); omega) ?_; conv => whnf) | (refine ARd.map (by first | omega | (simp only [List.length_map] at *; omega)) ?_; conv => whnf) | (refine VReq.mk (by first | decide | omega) ?_; conv => whnf) | (refine AEq.mk (by kernel_rfl) rfl rfl ?_; conv => whnf) | (refine VReq.mk (app_ok (by (try simp only [List.length_map, List.length_append, List.length_cons, List.length_nil, List.length_take, List.length_drop, List.length_set, List.length_replicate] at *); omega) (by kernel_rfl)) ?_; conv => whnf)))
      refine aback (k + 1) [(2, .lab 5)] [] rfl (by show (dsT (lyL r)).length - (k + 1) < (dsT (lyL r)).length - k; omega) hlt ?_ (by repeat' (first | rfl | trivial | apply And.intro))
      have hsn : fcL r id t ((dsT (lyL r)).take (k + 1)) = fcL r id t ((dsT (lyL r)).take k) ++ [((dsT (lyL r))[k], s)] := hsn
      rw [hsn, List.map_append (f := foF)]
      exact (by repeat' (first | rfl | trivial | apply And.intro))
  have : k = (dsT (lyL r)).length := by simp at hge; omega
  subst this
  rw [List.take_length]
  conv => whnf
  exact aend (.own 0) 1 _ [(0, .lab 2)] [] ⟨rfl, rfl, rfl⟩ rfl (by repeat' (first | rfl | trivial | apply And.intro)) (by repeat' (first | rfl | trivial | apply And.intro))

/-! no slots -/
set_option maxHeartbeats 4000000 in
set_option maxRecDepth 100000 in
theorem sort0A : AFn Tryd.prog GS 59 [.lst 1 []] 0 [] (Is (.tup [])) := by
  refine afn_of Tryd.func59 rfl mixed (by kernel_rfl) ?_
  conv => whnf
  refine AAr.in (by decide) ?_
  conv => whnf
  (refine acallI (by kernel_rfl) (afn_of Tryd.func74 rfl mixed (by kernel_rfl) ?_); (conv => whnf))
  (refine acallI (by kernel_rfl) (afn_of Tryd.func88 rfl mixed (by kernel_rfl) ?_); (conv => whnf))
  refine AAr.in (by decide) ?_
  conv => whnf
  refine AIn.mk' 0 rfl (by decide) ?_
  conv => whnf
  repeat (refine AAr.in (by decide) ?_; conv => whnf)
  (refine aendV ?_ rfl ?_; rotate_left 1; (focus (repeat' (first | rfl | trivial | apply And.intro))); (conv => whnf))
  (refine aendV ?_ rfl ?_; rotate_left 1; (focus (repeat' (first | rfl | trivial | apply And.intro))); (conv => whnf))
  (refine acallI (by kernel_rfl) (afn_of Tryd.func73 rfl mixed (by kernel_rfl) ?_); (conv => whnf))
  refine aloopH ws73_1 [1, 2] (fun _ : Unit => [(1, iv 0), (2, iv 0)]) (fun _ => True) (fun _ => 0) () (by kernel_rfl) (fun _ => rfl) (by kernel_rfl) trivial (by repeat' (first | rfl | trivial | apply And.intro)) (by repeat' (first | rfl | trivial | apply And.intro)) ?_
  intro _ _
  conv => whnf
  refine AAr.i64 (by omega) ?_
  conv => whnf
  (refine acallI (by kernel_rfl) (afn_of Tryd.func78 rfl mixed (by kernel_rfl) ?_); (conv => whnf))
  refine AAr.i64 (by omega) ?_
  conv => whnf
  refine aloopH ws78_1 [6] (fun _ : Unit => [(6, iv 1)]) (fun _ => True) (fun _ => 0) () (by kernel_rfl) (fun _ => rfl) (by kernel_rfl) trivial (by repeat' (first | rfl | trivial | apply And.intro)) (by repeat' (first | rfl | trivial | apply And.intro)) ?_
  intro _ _
  conv => whnf
  refine aend (.tup []) 0 [] [] [] ?_ rfl trivial trivial
  conv => whnf
  refine aend (.tup []) 0 [] [] [] ?_ rfl trivial trivial
  conv => whnf
  exact aret [] (by repeat' (first | rfl | trivial | apply And.intro))
set_option maxHeartbeats 4000000 in
set_option maxRecDepth 100000 in
theorem compact0A : AFn Tryd.prog GS 60 [.lst 1 []] 0 [] (Is (.lst 1 [])) := by
  refine afn_of Tryd.func60 rfl mixed (by kernel_rfl) ?_
  conv => whnf
  exact aret [] (by repeat' (first | rfl | trivial | apply And.intro))
/-! the reference's Forced -/
set_option maxHeartbeats 4000000 in
set_option maxRecDepth 100000 in
theorem addA (l : Tx) (x : By) (hl : l.length ≤ 1000000) : AFn Tryd.prog GS 61 [tl l, tv x] 0 [] (fun a n H => (a = tl (insT l x) ∧ n = 0 ∧ H = []) ∨ (Own1 9 1 ((insT l x).map enT) a n H)) := by
  refine afn_of Tryd.func61 rfl mixed (by kernel_rfl) ?_
  conv => whnf
  refine aloopH ws61_1 [5] (fun k : Nat => [(5, iv k)]) (fun k => k ≤ l.length ∧ ∀ j (h1 : j < k) (h2 : j < l.length), l[j] < x) (fun k => l.length - k) 0 (by kernel_rfl) (fun _ => rfl) (by kernel_rfl) ⟨Nat.zero_le _, fun j hj => absurd hj (Nat.not_lt_zero j)⟩ (by repeat' (first | rfl | trivial | apply And.intro)) (by repeat' (first | rfl | trivial | apply And.intro)) ?_
  rintro k ⟨hk, hno⟩
  have hsp := insT_split l x k hk hno
  have hml : (l.map enT).length = l.length := List.length_map _
  conv => whnf
  rcases Nat.lt_or_ge k l.length with hlt | hge
  · have e : decide ((k : Int) < ((l.map enT).length : Int)) = true := decide_eq_true (by omega)
    rw [e]
    conv => whnf
    (repeat' (first | (refine And.intro ?_ ?_ <;> (conv => whnf)) | (refine vif_split (fun h => ?_) (fun h => ?_) <;> (try simp only [sEqD, cond_true, cond_false, Bool.not_eq_true', Bool.not_eq_false', decide_eq_true_eq, decide_eq_false_iff_not, beq_iff_eq, bne_iff_ne, beq_eq_false_iff_ne, bne_eq_false_iff_eq, ne_eq, Bool.not_eq_eq_eq_not, Bool.not_true, Bool.not_false, Bool.false_eq_true, Bool.true_eq_false, Decidable.not_not, gt_iff_lt, ge_iff_le, Int.not_lt, Int.not_le] at h) <;> (conv => whnf)) | (refine AAr.i64 (by first | omega | ((try simp only [List.length_map] at *); omega)) ?_; conv => whnf) | (refine AIn.mk' _ rfl (by first | omega | (simp only [List.length_map, List.length_append, List.length_cons, List.length_nil, List.length_take, List.length_drop, List.length_set, List.length_replicate]; omega) | (simp only [List.length_map, List.length_append, List.length_cons, List.length_nil, List.length_take, List.length_drop, List.length_set, List.length_replicate] at *; omega)) ?_; conv => whnf) | (refine ARd.mapAt (by assumption) ?_; conv => whnf) | (refine ARd.set (by (try simp only [List.length_map, List.length_append, List.length_cons, List.length_nil, List.length_take, List.length_drop, List.length_set, List.length_replicate] at *); omega) ?_; conv => whnf) | (refine ARd.map (by first | omega | (simp only [List.length_map] at *; omega)) ?_; conv => whnf) | (refine VReq.mk (by first | decide | omega) ?_; conv => whnf) | (refine AEq.mk (by kernel_rfl) rfl rfl ?_; conv => whnf) | (refine VReq.mk (app_ok (by (try simp only [List.length_map, List.length_append, List.length_cons, List.length_nil, List.length_take, List.length_drop, List.length_set, List.length_replicate] at *); omega) (by kernel_rfl)) ?_; conv => whnf)))
    · have h1 : l[k] < x := by rw [sLt_by] at h; exact of_decide_eq_true h
      refine aback (k + 1) [] [] rfl (by show l.length - (k + 1) < l.length - k; omega) ⟨hlt, fun j hj hjl => ?_⟩ (by repeat' (first | rfl | trivial | apply And.intro)) (by repeat' (first | rfl | trivial | apply And.intro))
      rcases Nat.lt_or_ge j k with h2 | h2
      · exact hno j h2 hjl
      · have : j = k := by omega
        subst this; exact h1
    · rename_i h1 _
      have h2 : ¬ l[k] < x := by rw [sLt_by] at h1; exact of_decide_eq_false h1
      have h3 : l[k] = x := by injection h with h; injection h
      have hi : insT l x = l := by rw [hsp fun _ => h2, if_pos ⟨hlt, h3⟩]
      rw [hi]
      refine aend (tl l) 0 [] [] [] (.inl ⟨rfl, rfl, rfl⟩) rfl (by repeat' (first | rfl | trivial | apply And.intro)) (by repeat' (first | rfl | trivial | apply And.intro))
    · rename_i h1 _
      have h2 : ¬ l[k] < x := by rw [sLt_by] at h1; exact of_decide_eq_false h1
      have h3 : ¬ l[k] = x := fun e => h (by rw [e])
      have hi : insT l x = l.take k ++ [x] ++ l.drop k := by rw [hsp fun _ => h2, if_neg fun ⟨_, e⟩ => h3 e]
      rw [hi]
      refine ABd.mk' 0 k rfl rfl (Nat.zero_le _) (by omega) ?_
      conv => whnf
      rw [show cut none (some (AV.v (.int .i64 (k : Int)))) 0 k (l.map enT) = (l.map enT).take k from rfl]
      (repeat' (first | (refine And.intro ?_ ?_ <;> (conv => whnf)) | (refine vif_split (fun h => ?_) (fun h => ?_) <;> (try simp only [sEqD, cond_true, cond_false, Bool.not_eq_true', Bool.not_eq_false', decide_eq_true_eq, decide_eq_false_iff_not, beq_iff_eq, bne_iff_ne, beq_eq_false_iff_ne, bne_eq_false_iff_eq, ne_eq, Bool.not_eq_eq_eq_not, Bool.not_true, Bool.not_false, Bool.false_eq_true, Bool.true_eq_false, Decidable.not_not, gt_iff_lt, ge_iff_le, Int.not_lt, Int.not_le] at h) <;> (conv => whnf)) | (refine AAr.i64 (by first | omega | ((try simp only [List.length_map] at *); omega)) ?_; conv => whnf) | (refine AIn.mk' _ rfl (by first | omega | (simp only [List.length_map, List.length_append, List.length_cons, List.length_nil, List.length_take, List.length_drop, List.length_set, List.length_replicate]; omega) | (simp only [List.length_map, List.length_append, List.length_cons, List.length_nil, List.length_take, List.length_drop, List.length_set, List.length_replicate] at *; omega)) ?_; conv => whnf) | (refine ARd.mapAt (by assumption) ?_; conv => whnf) | (refine ARd.set (by (try simp only [List.length_map, List.length_append, List.length_cons, List.length_nil, List.length_take, List.length_drop, List.length_set, List.length_replicate] at *); omega) ?_; conv => whnf) | (refine ARd.map (by first | omega | (simp only [List.length_map] at *; omega)) ?_; conv => whnf) | (refine VReq.mk (by first | decide | omega) ?_; conv => whnf) | (refine AEq.mk (by kernel_rfl) rfl rfl ?_; conv => whnf) | (refine VReq.mk (app_ok (by (try simp only [List.length_map, List.length_append, List.length_cons, List.length_nil, List.length_take, List.length_drop, List.length_set, List.length_replicate] at *); omega) (by kernel_rfl)) ?_; conv => whnf)))
      (refine adraw pln61 [0, 1, 2] (by kernel_rfl) ?_; conv => whnf)
      refine ABd.mk' k l.length rfl (by rw [hml]) hk (by rw [hml]; exact Nat.le_refl _) ?_
      conv => whnf
      rw [show cut (some (AV.v (.int .i64 (k : Int)))) none k l.length (l.map enT) = (l.map enT).drop k from rfl]
      (repeat' (first | (refine And.intro ?_ ?_ <;> (conv => whnf)) | (refine vif_split (fun h => ?_) (fun h => ?_) <;> (try simp only [sEqD, cond_true, cond_false, Bool.not_eq_true', Bool.not_eq_false', decide_eq_true_eq, decide_eq_false_iff_not, beq_iff_eq, bne_iff_ne, beq_eq_false_iff_ne, bne_eq_false_iff_eq, ne_eq, Bool.not_eq_eq_eq_not, Bool.not_true, Bool.not_false, Bool.false_eq_true, Bool.true_eq_false, Decidable.not_not, gt_iff_lt, ge_iff_le, Int.not_lt, Int.not_le] at h) <;> (conv => whnf)) | (refine AAr.i64 (by first | omega | ((try simp only [List.length_map] at *); omega)) ?_; conv => whnf) | (refine AIn.mk' _ rfl (by first | omega | (simp only [List.length_map, List.length_append, List.length_cons, List.length_nil, List.length_take, List.length_drop, List.length_set, List.length_replicate]; omega) | (simp only [List.length_map, List.length_append, List.length_cons, List.length_nil, List.length_take, List.length_drop, List.length_set, List.length_replicate] at *; omega)) ?_; conv => whnf) | (refine ARd.mapAt (by assumption) ?_; conv => whnf) | (refine ARd.set (by (try simp only [List.length_map, List.length_append, List.length_cons, List.length_nil, List.length_take, List.length_drop, List.length_set, List.length_replicate] at *); omega) ?_; conv => whnf) | (refine ARd.map (by first | omega | (simp only [List.length_map] at *; omega)) ?_; conv => whnf) | (refine VReq.mk (by first | decide | omega) ?_; conv => whnf) | (refine AEq.mk (by kernel_rfl) rfl rfl ?_; conv => whnf) | (refine VReq.mk (app_ok (by (try simp only [List.length_map, List.length_append, List.length_cons, List.length_nil, List.length_take, List.length_drop, List.length_set, List.length_replicate] at *); omega) (by kernel_rfl)) ?_; conv => whnf)))
      refine aend (.own 0) 1 [(0, .rows 9 1 ((l.take k ++ [x] ++ l.drop k).map enT))] [(0, .lab 3)] [] (.inr ⟨rfl, rfl, rfl⟩) rfl ⟨⟨rfl, rfl, ?_⟩, trivial⟩ (by repeat' (first | rfl | trivial | apply And.intro))
      rw [List.map_append, List.map_append, List.map_take, List.map_drop]
      rfl
    · exfalso; omega
  · have e : decide ((k : Int) < ((l.map enT).length : Int)) = false := decide_eq_false (by omega)
    have hi : insT l x = l.take k ++ [x] ++ l.drop k := by rw [hsp fun h => absurd h (by omega), if_neg fun ⟨h, _⟩ => absurd h (by omega)]
    rw [e]
    conv => whnf
    rw [e]
    conv => whnf
    rw [hi]
    refine ABd.mk' 0 k rfl rfl (Nat.zero_le _) (by omega) ?_
    conv => whnf
    rw [show cut none (some (AV.v (.int .i64 (k : Int)))) 0 k (l.map enT) = (l.map enT).take k from rfl]
    (repeat' (first | (refine And.intro ?_ ?_ <;> (conv => whnf)) | (refine vif_split (fun h => ?_) (fun h => ?_) <;> (try simp only [sEqD, cond_true, cond_false, Bool.not_eq_true', Bool.not_eq_false', decide_eq_true_eq, decide_eq_false_iff_not, beq_iff_eq, bne_iff_ne, beq_eq_false_iff_ne, bne_eq_false_iff_eq, ne_eq, Bool.not_eq_eq_eq_not, Bool.not_true, Bool.not_false, Bool.false_eq_true, Bool.true_eq_false, Decidable.not_not, gt_iff_lt, ge_iff_le, Int.not_lt, Int.not_le] at h) <;> (conv => whnf)) | (refine AAr.i64 (by first | omega | ((try simp only [List.length_map] at *); omega)) ?_; conv => whnf) | (refine AIn.mk' _ rfl (by first | omega | (simp only [List.length_map, List.length_append, List.length_cons, List.length_nil, List.length_take, List.length_drop, List.length_set, List.length_replicate]; omega) | (simp only [List.length_map, List.length_append, List.length_cons, List.length_nil, List.length_take, List.length_drop, List.length_set, List.length_replicate] at *; omega)) ?_; conv => whnf) | (refine ARd.mapAt (by assumption) ?_; conv => whnf) | (refine ARd.set (by (try simp only [List.length_map, List.length_append, List.length_cons, List.length_nil, List.length_take, List.length_drop, List.length_set, List.length_replicate] at *); omega) ?_; conv => whnf) | (refine ARd.map (by first | omega | (simp only [List.length_map] at *; omega)) ?_; conv => whnf) | (refine VReq.mk (by first | decide | omega) ?_; conv => whnf) | (refine AEq.mk (by kernel_rfl) rfl rfl ?_; conv => whnf) | (refine VReq.mk (app_ok (by (try simp only [List.length_map, List.length_append, List.length_cons, List.length_nil, List.length_take, List.length_drop, List.length_set, List.length_replicate] at *); omega) (by kernel_rfl)) ?_; conv => whnf)))
    (refine adraw pln61 [0, 1, 2] (by kernel_rfl) ?_; conv => whnf)
    refine ABd.mk' k l.length rfl (by rw [hml]) hk (by rw [hml]; exact Nat.le_refl _) ?_
    conv => whnf
    rw [show cut (some (AV.v (.int .i64 (k : Int)))) none k l.length (l.map enT) = (l.map enT).drop k from rfl]
    (repeat' (first | (refine And.intro ?_ ?_ <;> (conv => whnf)) | (refine vif_split (fun h => ?_) (fun h => ?_) <;> (try simp only [sEqD, cond_true, cond_false, Bool.not_eq_true', Bool.not_eq_false', decide_eq_true_eq, decide_eq_false_iff_not, beq_iff_eq, bne_iff_ne, beq_eq_false_iff_ne, bne_eq_false_iff_eq, ne_eq, Bool.not_eq_eq_eq_not, Bool.not_true, Bool.not_false, Bool.false_eq_true, Bool.true_eq_false, Decidable.not_not, gt_iff_lt, ge_iff_le, Int.not_lt, Int.not_le] at h) <;> (conv => whnf)) | (refine AAr.i64 (by first | omega | ((try simp only [List.length_map] at *); omega)) ?_; conv => whnf) | (refine AIn.mk' _ rfl (by first | omega | (simp only [List.length_map, List.length_append, List.length_cons, List.length_nil, List.length_take, List.length_drop, List.length_set, List.length_replicate]; omega) | (simp only [List.length_map, List.length_append, List.length_cons, List.length_nil, List.length_take, List.length_drop, List.length_set, List.length_replicate] at *; omega)) ?_; conv => whnf) | (refine ARd.mapAt (by assumption) ?_; conv => whnf) | (refine ARd.set (by (try simp only [List.length_map, List.length_append, List.length_cons, List.length_nil, List.length_take, List.length_drop, List.length_set, List.length_replicate] at *); omega) ?_; conv => whnf) | (refine ARd.map (by first | omega | (simp only [List.length_map] at *; omega)) ?_; conv => whnf) | (refine VReq.mk (by first | decide | omega) ?_; conv => whnf) | (refine AEq.mk (by kernel_rfl) rfl rfl ?_; conv => whnf) | (refine VReq.mk (app_ok (by (try simp only [List.length_map, List.length_append, List.length_cons, List.length_nil, List.length_take, List.length_drop, List.length_set, List.length_replicate] at *); omega) (by kernel_rfl)) ?_; conv => whnf)))
    refine aend (.own 0) 1 [(0, .rows 9 1 ((l.take k ++ [x] ++ l.drop k).map enT))] [(0, .lab 3)] [] (.inr ⟨rfl, rfl, rfl⟩) rfl ⟨⟨rfl, rfl, ?_⟩, trivial⟩ (by repeat' (first | rfl | trivial | apply And.intro))
    rw [List.map_append, List.map_append, List.map_take, List.map_drop]
    rfl

/-- the layers, by the reference -/
theorem insT_dsT (l : Tx) (y : By) : dsT (l ++ [y]) = insT (dsT l) y := dsT_snoc l y
set_option maxHeartbeats 4000000 in
set_option maxRecDepth 100000 in
theorem forced2A (r : Rg) (id : ByteArray) (t : Int) (g : Good r) : AFn Tryd.prog GS 40 [rgA r, sv id, iv t] 0 [] (Own1 75 3 ((fcL r id t (dsT (lyL r))).map foF)) := by
  have hln := g.fit.len
  have hv : valid2B r = true := by rw [valid_same]; exact (valid_iff r).2 g
  have hyl := lyL_len r
  have hdl := dsT_len (lyL r)
  refine afn_of Tryd.func40 rfl mixed (by kernel_rfl) ?_
  conv => whnf
  refine aloop ws40_1 1 [8, 7] (fun k : Nat => [(8, iv k), (7, tl (dsT ((lyL r).take k)))]) (fun k => [(0, rgB r)]) (fun k => k ≤ r.slots.length) (fun k => r.slots.length - k) [] [] 0 (by kernel_rfl) (fun _ => rfl) rfl (Nat.zero_le _) (by repeat' (first | rfl | trivial | apply And.intro)) ⟨rfl, (by show (dsT ((lyL r).take 0)).map enT = []; rw [List.take_zero, dsT_nil]; rfl), trivial⟩ ?_
  rintro k hk
  conv => whnf
  refine vif_split (fun hlt => ?_) (fun hge => ?_)
  · have hlt : k < r.slots.length := by simpa using hlt
    have hdk := dsT_len ((lyL r).take k)
    rw [List.length_take] at hdk
    have hsn : dsT ((lyL r).take (k + 1)) = insT (dsT ((lyL r).take k)) r.slots[k].layer.data.toList := by rw [lyL_take r hlt, dsT_snoc]
    conv => whnf
    (repeat' (first | (refine And.intro ?_ ?_ <;> (conv => whnf)) | (refine vif_split (fun h => ?_) (fun h => ?_) <;> (try simp only [sEqD, cond_true, cond_false, Bool.not_eq_true', Bool.not_eq_false', decide_eq_true_eq, decide_eq_false_iff_not, beq_iff_eq, bne_iff_ne, beq_eq_false_iff_ne, bne_eq_false_iff_eq, ne_eq, Bool.not_eq_eq_eq_not, Bool.not_true, Bool.not_false, Bool.false_eq_true, Bool.true_eq_false, Decidable.not_not, gt_iff_lt, ge_iff_le, Int.not_lt, Int.not_le] at h) <;> (conv => whnf)) | (refine AAr.i64 (by first | omega | ((try simp only [List.length_map] at *); omega)) ?_; conv => whnf) | (refine AIn.mk' _ rfl (by first | omega | (simp only [List.length_map, List.length_append, List.length_cons, List.length_nil, List.length_take, List.length_drop, List.length_set, List.length_replicate]; omega) | (simp only [List.length_map, List.length_append, List.length_cons, List.length_nil, List.length_take, List.length_drop, List.length_set, List.length_replicate] at *; omega)) ?_; conv => whnf) | (refine ARd.mapAt (by assumption) ?_; conv => whnf) | (refine ARd.set (by (try simp only [List.length_map, List.length_append, List.length_cons, List.length_nil, List.length_take, List.length_drop, List.length_set, List.length_replicate] at *); omega) ?_; conv => whnf) | (refine ARd.map (by first | omega | (simp only [List.length_map] at *; omega)) ?_; conv => whnf) | (refine VReq.mk (by first | decide | omega) ?_; conv => whnf) | (refine AEq.mk (by kernel_rfl) rfl rfl ?_; conv => whnf) | (refine VReq.mk (app_ok (by (try simp only [List.length_map, List.length_append, List.length_cons, List.length_nil, List.length_take, List.length_drop, List.length_set, List.length_replicate] at *); omega) (by kernel_rfl)) ?_; conv => whnf)))
    refine acallF [] (by kernel_rfl) (addA (dsT ((lyL r).take k)) r.slots[k].layer.data.toList (by omega)) (by repeat' (first | rfl | trivial | apply And.intro)) ?_
    rintro a m H' (⟨rfl, rfl, rfl⟩ | ⟨rfl, rfl, rfl⟩)
    all_goals (conv => whnf)
    · refine AAr.i64 (by omega) ?_
      conv => whnf
      refine aback (k + 1) [] [] rfl (by show r.slots.length - (k + 1) < r.slots.length - k; omega) hlt (by repeat' (first | rfl | trivial | apply And.intro)) ?_
      rw [hsn]
      exact (by repeat' (first | rfl | trivial | apply And.intro))
    · refine AAr.i64 (by omega) ?_
      conv => whnf
      refine aback (k + 1) [] [1] rfl (by show r.slots.length - (k + 1) < r.slots.length - k; omega) hlt (by repeat' (first | rfl | trivial | apply And.intro)) ?_
      rw [hsn]
      exact (by repeat' (first | rfl | trivial | apply And.intro))
  have : k = r.slots.length := by simp at hge; omega
  subst this
  rw [← hyl, List.take_length]
  conv => whnf
  refine aloop ws40_2 2 [10, 9] (fun k : Nat => [(10, iv k), (9, .own 1)]) (fun k => [(1, .rows 75 3 ((fcL r id t ((dsT (lyL r)).take k)).map foF)), (0, rgB r)]) (fun k => k ≤ (dsT (lyL r)).length) (fun k => (dsT (lyL r)).length - k) [(1, .nil)] [] 0 (by kernel_rfl) (fun _ => rfl) rfl (Nat.zero_le _) (by repeat' (first | rfl | trivial | apply And.intro)) (by repeat' (first | rfl | trivial | apply And.intro)) ?_
  rintro k hk
  conv => whnf
  refine vif_split (fun hlt => ?_) (fun hge => ?_)
  · have hlt : k < (dsT (lyL r)).length := by simpa using hlt
    have hA := at2A r id ⟨(dsT (lyL r))[k].toArray⟩ t g.fit.s hln
    rw [hv] at hA
    have hfl := fcL_len r id t ((dsT (lyL r)).take k)
    rw [List.length_take] at hfl
    have hsn := fcL_take r id t (dsT (lyL r)) hlt
    have hly := fun s => atO_layer (r := r) (id := id) (ly := ⟨(dsT (lyL r))[k].toArray⟩) (t := t) (s := s)
    have hA : AFn Tryd.prog GS 31 [rgA r, sv id, sv ⟨(dsT (lyL r))[k].toArray⟩, iv t] 0 [] (Is (optA (atO r id ⟨(dsT (lyL r))[k].toArray⟩ t))) := hA
    generalize atO r id ⟨(dsT (lyL r))[k].toArray⟩ t = o at hA hsn hly
    conv => whnf
    (refine adraw pln40 [] (by kernel_rfl) ?_; conv => whnf)
    refine AIn.mk' k rfl (by rw [List.length_map]; exact hlt) ?_
    conv => whnf
    refine ARd.map hlt ?_
    conv => whnf
    cases o with
    | none =>
      have hsn : fcL r id t ((dsT (lyL r)).take (k + 1)) = fcL r id t ((dsT (lyL r)).take k) := by rw [hsn, List.append_nil]
      repeat' (first
        | (refine And.intro ?_ ?_ <;> (conv => whnf))
        | (refine acall [] (by kernel_rfl) (hA) rfl ?_ ?_; (focus ((repeat' (first | rfl | trivial | apply And.intro)); done)); (conv => whnf)))
      all_goals
        (repeat' (first | (refine And.intro ?_ ?_ <;> (conv => whnf)) | (refine vif_split (fun h => ?_) (fun h => ?_) <;> (try simp only [sEqD, cond_true, cond_false, Bool.not_eq_true', Bool.not_eq_false', decide_eq_true_eq, decide_eq_false_iff_not, beq_iff_eq, bne_iff_ne, beq_eq_false_iff_ne, bne_eq_false_iff_eq, ne_eq, Bool.not_eq_eq_eq_not, Bool.not_true, Bool.not_false, Bool.false_eq_true, Bool.true_eq_false, Decidable.not_not, gt_iff_lt, ge_iff_le, Int.not_lt, Int.not_le] at h) <;> (conv => whnf)) | (refine AAr.i64 (by first | omega | ((try simp only [List.length_map] at *); omega)) ?_; conv => whnf) | (refine AIn.mk' _ rfl (by first | omega | (simp only [List.length_map, List.length_append, List.length_cons, List.length_nil, List.length_take, List.length_drop, List.length_set, List.length_replicate]; omega) | (simp only [List.length_map, List.length_append, List.length_cons, List.length_nil, List.length_take, List.length_drop, List.length_set, List.length_replicate] at *; omega)) ?_; conv => whnf) | (refine ARd.mapAt (by assumption) ?_; conv => whnf) | (refine ARd.set (by (try simp only [List.length_map, List.length_append, List.length_cons, List.length_nil, List.length_take, List.length_drop, List.length_set, List.length_replicate] at *); omega) ?_; conv => whnf) | (refine ARd.map (by first | omega | (simp only [List.length_map] at *; omega)) ?_; conv => whnf) | (refine VReq.mk (by first | decide | omega) ?_; conv => whnf) | (refine AEq.mk (by kernel_rfl) rfl rfl ?_; conv => whnf) | (refine VReq.mk (app_ok (by (try simp only [List.length_map, List.length_append, List.length_cons, List.length_nil, List.length_take, List.length_drop, List.length_set, List.length_replicate] at *); omega) (by kernel_rfl)) ?_; conv => whnf)))
        refine aback (k + 1) [(1, .lab 1)] [] rfl (by show (dsT (lyL r)).length - (k + 1) < (dsT (lyL r)).length - k; omega) hlt ?_ (by repeat' (first | rfl | trivial | apply And.intro))
        rw [hsn]
        exact (by repeat' (first | rfl | trivial | apply And.intro))
    | some s =>
      have hsn : fcL r id t ((dsT (lyL r)).take (k + 1)) = fcL r id t ((dsT (lyL r)).take k) ++ [((dsT (lyL r))[k], s)] := hsn
      have hrow : foF ((dsT (lyL r))[k], s) = [.v (.string s.layer), .v (.string s.exp), .v (.int .i64 s.arm)] := by rw [hly s rfl]; rfl
      repeat' (first
        | (refine And.intro ?_ ?_ <;> (conv => whnf))
        | (refine acall [] (by kernel_rfl) (hA) rfl ?_ ?_; (focus ((repeat' (first | rfl | trivial | apply And.intro)); done)); (conv => whnf)))
      all_goals
        (repeat' (first | (refine And.intro ?_ ?_ <;> (conv => whnf)) | (refine vif_split (fun h => ?_) (fun h => ?_) <;> (try simp only [sEqD, cond_true, cond_false, Bool.not_eq_true', Bool.not_eq_false', decide_eq_true_eq, decide_eq_false_iff_not, beq_iff_eq, bne_iff_ne, beq_eq_false_iff_ne, bne_eq_false_iff_eq, ne_eq, Bool.not_eq_eq_eq_not, Bool.not_true, Bool.not_false, Bool.false_eq_true, Bool.true_eq_false, Decidable.not_not, gt_iff_lt, ge_iff_le, Int.not_lt, Int.not_le] at h) <;> (conv => whnf)) | (refine AAr.i64 (by first | omega | ((try simp only [List.length_map] at *); omega)) ?_; conv => whnf) | (refine AIn.mk' _ rfl (by first | omega | (simp only [List.length_map, List.length_append, List.length_cons, List.length_nil, List.length_take, List.length_drop, List.length_set, List.length_replicate]; omega) | (simp only [List.length_map, List.length_append, List.length_cons, List.length_nil, List.length_take, List.length_drop, List.length_set, List.length_replicate] at *; omega)) ?_; conv => whnf) | (refine ARd.mapAt (by assumption) ?_; conv => whnf) | (refine ARd.set (by (try simp only [List.length_map, List.length_append, List.length_cons, List.length_nil, List.length_take, List.length_drop, List.length_set, List.length_replicate] at *); omega) ?_; conv => whnf) | (refine ARd.map (by first | omega | (simp only [List.length_map] at *; omega)) ?_; conv => whnf) | (refine VReq.mk (by first | decide | omega) ?_; conv => whnf) | (refine AEq.mk (by kernel_rfl) rfl rfl ?_; conv => whnf) | (refine VReq.mk (app_ok (by (try simp only [List.length_map, List.length_append, List.length_cons, List.length_nil, List.length_take, List.length_drop, List.length_set, List.length_replicate] at *); omega) (by kernel_rfl)) ?_; conv => whnf)))
        refine aback (k + 1) [(1, .lab 4)] [] rfl (by show (dsT (lyL r)).length - (k + 1) < (dsT (lyL r)).length - k; omega) hlt ?_ (by repeat' (first | rfl | trivial | apply And.intro))
        rw [hsn, List.map_append (f := foF), List.map_cons, hrow]
        exact (by repeat' (first | rfl | trivial | apply And.intro))
  have : k = (dsT (lyL r)).length := by simp at hge; omega
  subst this
  rw [List.take_length]
  conv => whnf
  exact aend (.own 0) 1 _ [(0, .lab 1)] [] ⟨rfl, rfl, rfl⟩ rfl (by repeat' (first | rfl | trivial | apply And.intro)) (by repeat' (first | rfl | trivial | apply And.intro))

theorem at2G {r : Rg} (g : Good r) (id layer : ByteArray) (t : Int) : AFn Tryd.prog GS 31 [rgA r, sv id, sv layer, iv t] 0 [] (Is (optA (atO r id layer t))) := by
  have := at2A r id layer t g.fit.s g.fit.len
  rw [valid_same, (valid_iff r).2 g] at this
  exact this
theorem cur3G {r : Rg} (g : Good r) (id layer : ByteArray) : AFn Tryd.prog GS 29 [rgA r, sv id, sv layer] 0 [] (Is (optA (curO r id layer))) := by
  have := cur1A r id layer g.fit.s g.fit.len
  rw [(valid_iff r).2 g] at this
  exact this
theorem cur4G {r : Rg} (g : Good r) (id layer : ByteArray) : AFn Tryd.prog GS 32 [rgA r, sv id, sv layer] 0 [] (Is (optA (curO r id layer))) := by
  have := cur2A r id layer g.fit.s g.fit.len
  rw [valid_same, (valid_iff r).2 g] at this
  exact this
theorem val1G {r : Rg} (g : Good r) : AFn Tryd.prog GS 20 [rgA r] 0 [] (Is (bv true)) := by
  have := valid1A r g.fit.s
  rw [(valid_iff r).2 g] at this
  exact this
theorem optT (o : Option Sl) : optA o = .tup [slA (o.getD sl0), bv o.isSome] := by cases o <;> rfl
set_option maxHeartbeats 4000000 in
set_option maxRecDepth 100000 in
theorem forced0A (r : Rg) (id : ByteArray) (t : Int) (hv : validB r = true) (hS : RegS r) (he : r.slots = []) : AFn Tryd.prog GS 39 [rgA r, sv id, iv t] 0 [] (Own1 75 3 ((fcL r id t (dsT (lyL r))).map foF)) := by
  have hvA := valid1A r hS
  rw [hv] at hvA
  have e1 : lyL r = [] := by unfold lyL; rw [he]; rfl
  have e2 : (fcL r id t (dsT (lyL r))).map foF = [] := by rw [e1, dsT_nil]; rfl
  rw [e2]
  have e3 : slsA r.slots = .lst 7 [] := by rw [he]; rfl
  clear e1 e2 e3
  obtain ⟨now, ls, ss⟩ := r
  simp only at he
  subst he
  refine afn_of Tryd.func39 rfl mixed (by kernel_rfl) ?_
  conv => whnf
  (refine acall [] (by kernel_rfl) (hvA) rfl ?_ ?_; (focus ((repeat' (first | rfl | trivial | apply And.intro)); done)); (conv => whnf))
  refine aloopH ws39_1 [7, 21] (fun _ : Unit => [(7, .lst 1 []), (21, iv 0)]) (fun _ => True) (fun _ => 0) () (by kernel_rfl) (fun _ => rfl) (by kernel_rfl) trivial (by repeat' (first | rfl | trivial | apply And.intro)) (by repeat' (first | rfl | trivial | apply And.intro)) ?_
  intro _ _
  conv => whnf
  (refine acallF [] (by kernel_rfl) (sort0A) ?_ ?_; (focus ((repeat' (first | rfl | trivial | apply And.intro)); done)); rintro _ _ _ ⟨rfl, rfl, rfl⟩; (conv => whnf))
  (refine acallF [] (by kernel_rfl) (compact0A) ?_ ?_; (focus ((repeat' (first | rfl | trivial | apply And.intro)); done)); rintro _ _ _ ⟨rfl, rfl, rfl⟩; (conv => whnf))
  refine aloop ws39_2 2 [10, 36] (fun _ : Unit => [(10, .own 1), (36, iv 0)]) (fun _ => [(1, .rows 75 3 [])]) (fun _ => True) (fun _ => 0) [(1, .nil)] [] () (by kernel_rfl) (fun _ => rfl) rfl trivial (by repeat' (first | rfl | trivial | apply And.intro)) (by repeat' (first | rfl | trivial | apply And.intro)) ?_
  intro _ _
  conv => whnf
  exact aend (.own 0) 1 _ [(0, .lab 1)] [] ⟨rfl, rfl, rfl⟩ rfl (by repeat' (first | rfl | trivial | apply And.intro)) (by repeat' (first | rfl | trivial | apply And.intro))
theorem forced1G {r : Rg} (g : Good r) (id : ByteArray) (t : Int) : AFn Tryd.prog GS 39 [rgA r, sv id, iv t] 0 [] (Own1 75 3 ((fcL r id t (dsT (lyL r))).map foF)) := by
  by_cases h : r.slots = []
  · exact forced0A r id t ((valid_iff r).2 g) g.fit.s h
  · exact forced1A r id t ((valid_iff r).2 g) g.fit.s h g.fit.len
abbrev slB (s : Sl) : ABlk := .var 43 ((slF s).map FV.up)
set_option maxHeartbeats 16000000 in
set_option maxRecDepth 100000 in
theorem tellsA (l : List Chg) (id ly : Nat) (hok : ∀ x ∈ l, x.ok) (hi : id < 256) (hy : ly < 256) : AFn Tryd.prog GS 12 [chsA l, u8A id, u8A ly] 0 [] (Is (bv true)) := by
  refine afn_of Tryd.func12 rfl mixed (by kernel_rfl) ?_
  conv => whnf
  (refine acall [] (by kernel_rfl) (awakeA) rfl ?_ ?_; (focus ((repeat' (first | rfl | trivial | apply And.intro)); done)); (conv => whnf))
  (refine vif_split (fun h => ?_) (fun h => ?_) <;> (try simp only [sEqD, cond_true, cond_false, Bool.not_eq_true', Bool.not_eq_false', decide_eq_true_eq, decide_eq_false_iff_not, beq_iff_eq, bne_iff_ne, beq_eq_false_iff_ne, bne_eq_false_iff_eq, ne_eq, Bool.not_eq_eq_eq_not, Bool.not_true, Bool.not_false, Bool.false_eq_true, Bool.true_eq_false, Decidable.not_not, gt_iff_lt, ge_iff_le, Int.not_lt, Int.not_le] at h) <;> (conv => whnf))
  · exact aret [] (by repeat' (first | rfl | trivial | apply And.intro))
  have hl : l.length ≤ 1000 := by simp only [List.length_map] at h; omega
  clear h
  have hR := reach_rch l
  have hA := reachA l hl hok
  obtain ⟨r, hr⟩ : ∃ r, r = reachR l := ⟨_, rfl⟩
  rw [← hr] at hA hR
  clear hr
  have hn := hR.good.now
  have hln := hR.good.len
  have hft := hR.good.fit
  (refine acallF [] (by kernel_rfl) (hA) ?_ ?_; (focus ((repeat' (first | rfl | trivial | apply And.intro)); done)); rintro _ _ _ ⟨rfl, rfl, rfl⟩; (conv => whnf))
  (refine adraw pln12 [] (by kernel_rfl) ?_; conv => whnf)
  repeat' (first
    | (refine And.intro ?_ ?_ <;> (conv => whnf))
    | (refine AAr.i64 (by omega) ?_; conv => whnf)
    | (rw [tmod2]; refine VReq.mk (by decide) ?_; conv => whnf)
    | (refine VReq.mk (by decide) ?_; conv => whnf)
    | (refine acall [] (by kernel_rfl) (idA id hi) rfl ?_ ?_; (focus ((repeat' (first | rfl | trivial | apply And.intro)); done)); (conv => whnf))
    | (refine acallF [] (by kernel_rfl) (layersA) ?_ ?_; (focus ((repeat' (first | rfl | trivial | apply And.intro)); done)); rintro _ _ _ ⟨rfl, rfl, rfl⟩; (conv => whnf))
    | (refine AIn.mk' (ly % 2) rfl (by rw [List.length_map, layL_len]; omega) ?_; conv => whnf)
    | (refine strRd (by rw [layL_len]; omega) ?_; generalize layL.getD (ly % 2) ⟨#[]⟩ = y; conv => whnf))
  all_goals
    have c1 := cur3G hR.good (idOf id) y
    have c2 := cur4G hR.good (idOf id) y
    rw [optT] at c1 c2
    generalize (curO r (idOf id) y).isSome = b2 at c1 c2
    generalize (curO r (idOf id) y).getD sl0 = o2 at c1 c2
    (refine acall [] (by kernel_rfl) (c1) rfl ?_ ?_; (focus ((repeat' (first | rfl | trivial | apply And.intro)); done)); (conv => whnf))
    (refine acall [] (by kernel_rfl) (c2) rfl ?_ ?_; (focus ((repeat' (first | rfl | trivial | apply And.intro)); done)); (conv => whnf))
    (refine acall [] (by kernel_rfl) (val1G hR.good) rfl ?_ ?_; (focus ((repeat' (first | rfl | trivial | apply And.intro)); done)); (conv => whnf))
    repeat' (first
      | (refine And.intro ?_ ?_ <;> (conv => whnf))
      | (refine vif_split (fun h => ?_) (fun h => ?_) <;> (try simp only [sEqD, cond_true, cond_false, Bool.not_eq_true', Bool.not_eq_false', decide_eq_true_eq, decide_eq_false_iff_not, beq_iff_eq, bne_iff_ne, beq_eq_false_iff_ne, bne_eq_false_iff_eq, ne_eq, Bool.not_eq_eq_eq_not, Bool.not_true, Bool.not_false, Bool.false_eq_true, Bool.true_eq_false, Decidable.not_not, gt_iff_lt, ge_iff_le, Int.not_lt, Int.not_le] at h) <;> (conv => whnf))
      | (refine AEq.mk (by kernel_rfl) rfl rfl ?_; conv => whnf))
    all_goals try (exfalso; simp at h; done)
    refine aloop ws12_1 4 [14] (fun x : Nat × Sl × Sl => [(14, iv ((x.1 : Int) - 1))]) (fun x => [(3, slB x.2.2), (2, slB x.2.1), (0, rgB r)]) (fun _ => True) (fun x => (r.now + 3).toNat - x.1) [] [] (0, o2, o2) (by kernel_rfl) (fun _ => rfl) rfl trivial (by repeat' (first | rfl | trivial | apply And.intro)) (by repeat' (first | rfl | trivial | apply And.intro)) ?_
    rintro ⟨k, s1, s2⟩ _
    have a1 := at1G hR.good (idOf id) y ((k : Int) - 1)
    have a2 := at2G hR.good (idOf id) y ((k : Int) - 1)
    have f1 := forced1G hR.good (idOf id) ((k : Int) - 1)
    have f2 := forced2A r (idOf id) ((k : Int) - 1) hR.good
    rw [optT] at a1 a2
    generalize (atO r (idOf id) y ((k : Int) - 1)).isSome = b3 at a1 a2
    generalize (atO r (idOf id) y ((k : Int) - 1)).getD sl0 = o3 at a1 a2
    have hfl := fcL_len r (idOf id) ((k : Int) - 1) (dsT (lyL r))
    have hdl := dsT_len (lyL r)
    have hyl := lyL_len r
    generalize fcL r (idOf id) ((k : Int) - 1) (dsT (lyL r)) = fl at f1 f2 hfl
    conv => whnf
    refine AAr.i64 (by omega) ?_
    conv => whnf
    refine vif_split (fun hlt => ?_) (fun hge => ?_)
    · have hlt : (k : Int) - 1 ≤ r.now + 1 := by simpa using hlt
      conv => whnf
      (refine acall [] (by kernel_rfl) (a1) rfl ?_ ?_; (focus ((repeat' (first | rfl | trivial | apply And.intro)); done)); (conv => whnf))
      (refine acall [] (by kernel_rfl) (a2) rfl ?_ ?_; (focus ((repeat' (first | rfl | trivial | apply And.intro)); done)); (conv => whnf))
      repeat' (first
        | (refine And.intro ?_ ?_ <;> (conv => whnf))
        | (refine vif_split (fun h => ?_) (fun h => ?_) <;> (try simp only [sEqD, cond_true, cond_false, Bool.not_eq_true', Bool.not_eq_false', decide_eq_true_eq, decide_eq_false_iff_not, beq_iff_eq, bne_iff_ne, beq_eq_false_iff_ne, bne_eq_false_iff_eq, ne_eq, Bool.not_eq_eq_eq_not, Bool.not_true, Bool.not_false, Bool.false_eq_true, Bool.true_eq_false, Decidable.not_not, gt_iff_lt, ge_iff_le, Int.not_lt, Int.not_le] at h) <;> (conv => whnf))
        | (refine AEq.mk (by kernel_rfl) rfl rfl ?_; conv => whnf))
      all_goals try (exfalso; simp at h; done)
      (refine adraw pln12 [] (by kernel_rfl) ?_; conv => whnf)
      (refine acallF [] (by kernel_rfl) (f1) ?_ ?_; (focus ((repeat' (first | rfl | trivial | apply And.intro)); done)); rintro _ _ _ ⟨rfl, rfl, rfl⟩; (conv => whnf))
      (refine acallF [] (by kernel_rfl) (f2) ?_ ?_; (focus ((repeat' (first | rfl | trivial | apply And.intro)); done)); rintro _ _ _ ⟨rfl, rfl, rfl⟩; (conv => whnf))
      (refine vif_split (fun h => ?_) (fun h => ?_) <;> (try simp only [sEqD, cond_true, cond_false, Bool.not_eq_true', Bool.not_eq_false', decide_eq_true_eq, decide_eq_false_iff_not, beq_iff_eq, bne_iff_ne, beq_eq_false_iff_ne, bne_eq_false_iff_eq, ne_eq, Bool.not_eq_eq_eq_not, Bool.not_true, Bool.not_false, Bool.false_eq_true, Bool.true_eq_false, Decidable.not_not, gt_iff_lt, ge_iff_le, Int.not_lt, Int.not_le] at h) <;> (conv => whnf))
      · exfalso; simp at h
      refine aloopH ws12_2 [17] (fun k : Nat => [(17, iv k)]) (fun _ => True) (fun k => fl.length - k) 0 (by kernel_rfl) (fun _ => rfl) (by kernel_rfl) trivial (by repeat' (first | rfl | trivial | apply And.intro)) (by repeat' (first | rfl | trivial | apply And.intro)) ?_
      rintro j _
      conv => whnf
      refine vif_split (fun hj => ?_) (fun hj => ?_)
      · have hj : j < fl.length := by simpa using hj
        conv => whnf
        (refine adraw pln12 [] (by kernel_rfl) ?_; conv => whnf)
        repeat' (first
          | (refine And.intro ?_ ?_ <;> (conv => whnf))
          | (refine AIn.mk' j rfl (by rw [List.length_map]; exact hj) ?_; conv => whnf)
          | (refine ARd.map hj ?_; conv => whnf)
          | (refine AEq.mk (by kernel_rfl) rfl rfl ?_; conv => whnf))
        all_goals (repeat' (first | (refine And.intro ?_ ?_ <;> (conv => whnf)) | (refine vif_split (fun h => ?_) (fun h => ?_) <;> (try simp only [sEqD, cond_true, cond_false, Bool.not_eq_true', Bool.not_eq_false', decide_eq_true_eq, decide_eq_false_iff_not, beq_iff_eq, bne_iff_ne, beq_eq_false_iff_ne, bne_eq_false_iff_eq, ne_eq, Bool.not_eq_eq_eq_not, Bool.not_true, Bool.not_false, Bool.false_eq_true, Bool.true_eq_false, Decidable.not_not, gt_iff_lt, ge_iff_le, Int.not_lt, Int.not_le] at h) <;> (conv => whnf)) | (refine AAr.i64 (by first | omega | ((try simp only [List.length_map] at *); omega)) ?_; conv => whnf) | (refine AIn.mk' _ rfl (by first | omega | (simp only [List.length_map, List.length_append, List.length_cons, List.length_nil, List.length_take, List.length_drop, List.length_set, List.length_replicate]; omega) | (simp only [List.length_map, List.length_append, List.length_cons, List.length_nil, List.length_take, List.length_drop, List.length_set, List.length_replicate] at *; omega)) ?_; conv => whnf) | (refine ARd.mapAt (by assumption) ?_; conv => whnf) | (refine ARd.set (by (try simp only [List.length_map, List.length_append, List.length_cons, List.length_nil, List.length_take, List.length_drop, List.length_set, List.length_replicate] at *); omega) ?_; conv => whnf) | (refine ARd.map (by first | omega | (simp only [List.length_map] at *; omega)) ?_; conv => whnf) | (refine VReq.mk (by first | decide | omega) ?_; conv => whnf) | (refine AEq.mk (by kernel_rfl) rfl rfl ?_; conv => whnf) | (refine VReq.mk (app_ok (by (try simp only [List.length_map, List.length_append, List.length_cons, List.length_nil, List.length_take, List.length_drop, List.length_set, List.length_replicate] at *); omega) (by kernel_rfl)) ?_; conv => whnf)))
        all_goals try (exfalso; simp at h; done)
        exact aback (j + 1) [] [] rfl (by show fl.length - (j + 1) < fl.length - j; omega) trivial (by repeat' (first | rfl | trivial | apply And.intro)) (by repeat' (first | rfl | trivial | apply And.intro))
      · conv => whnf
        refine AAr.i64 (by simp only; omega) ?_
        conv => whnf
        exact aback (k + 1, o3, o3) [] [] rfl (by show (r.now + 3).toNat - (k + 1) < (r.now + 3).toNat - k; omega) trivial (by repeat' (first | rfl | trivial | apply And.intro)) ⟨congrArg (Value.int .i64) (by simp only; omega), trivial⟩
    · conv => whnf
      exact aret [] (by repeat' (first | rfl | trivial | apply And.intro))
end Go.Proofs.YtinpgogjkmmjpaaDoor.Sx
