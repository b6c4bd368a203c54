/- Joined parts of the proof. The walk of column's chunk -/
import Derived.Test.YtocckceefcmeaaaGreatDoorPk16
import Derived.Test.YtocckceefcmeaaaGreatDoorPk10
import Derived.Test.YtocckceefcmeaaaGreatDoorProg
import Derived.Test.YtocckceefcmeaaaGreatDoorPk9
set_option linter.unusedVariables false
set_option linter.unusedSimpArgs false
set_option maxRecDepth 100000
set_option maxHeartbeats 16000000
namespace Go.Proofs.YtocckceefcmeaaaGreatDoor.Cl
open Go Go.RowKit Go.Proofs Go.Proofs.YtocckceefcmeaaaGreatDoor.Vc Go.Proofs.YtocckceefcmeaaaGreatDoor.Ax
attribute [local irreducible] loadVar storeVar Instr.indexAt Instr.index Instr.sliceAt Instr.makeSlice Instr.lookup Instr.mapUpdate Instr.range Instr.next Instr.entry Instr.makeMap Builtin.append_ Builtin.copy_ Builtin.len_ Builtin.min_ Builtin.max_ Builtin.cap_ Builtin.delete_ Builtin.clear_ convert binOp eqGuard Op.unary Calls
section
attribute [local irreducible] best ints en bd txs dsT
def bdy (l : List Ev) : By := txs (l.map (·.client)) ++ ints (l.map (·.seq)) ++ ints (l.map (·.kind)) ++ ints (l.map (·.time)) ++ txs (l.map (·.id)) ++ txs (l.map (·.name)) ++ txs (l.map (·.other)) ++ ints (l.map (·.ver)) ++ ints (l.map (·.arm)) ++ ints (l.map (·.val))
def chb (l : List Ev) : By := num (lims l).1 ++ num (lims l).2 ++ num ((bdy l).length : Int) ++ bdy l
def bdA (l : List Ev) (i : Nat) : By :=
 match i with
 | 0 => []
 | 1 => txs (l.map (·.client)) ++ ints (l.map (·.seq)) ++ ints (l.map (·.kind)) ++ ints (l.map (·.time))
 | 2 => txs (l.map (·.client)) ++ ints (l.map (·.seq)) ++ ints (l.map (·.kind)) ++ ints (l.map (·.time)) ++ txs (l.map (·.id))
 | 3 => txs (l.map (·.client)) ++ ints (l.map (·.seq)) ++ ints (l.map (·.kind)) ++ ints (l.map (·.time)) ++ txs (l.map (·.id)) ++ txs (l.map (·.name))
 | _ => bdy l
def pfN (b x y z : By) (j : Nat) : By :=
 match j with
 | 0 => b
 | 1 => b ++ x
 | 2 => b ++ x ++ y
 | _ => b ++ x ++ y ++ z
abbrev colsL : List (List FV) := [[fV 143, .lst 1 [[fV 144], [fV 145], [fV 146]]],
  [fV 147, .v (.slice none 0 0)], [fV 148, .v (.slice none 0 0)], [fV 149, .lst 1 [[fV 150], [fV 151], [fV 152]]]]
structure LOK (l : List Ev) : Prop where
 ne : l ≠ []
 len : l.length ≤ 16
 ok : ∀ e ∈ l, e.ok
 s1 : ∀ e ∈ l, e.client.length ≤ 200
 s2 : ∀ e ∈ l, e.id.length ≤ 200
 s3 : ∀ e ∈ l, e.name.length ≤ 200
 s4 : ∀ e ∈ l, e.other.length ≤ 200
 tm : ∀ e ∈ l, -4611686018427387904 ≤ e.time ∧ e.time ≤ 4611686018427387904
theorem tok_map {l : List Ev} {f : Ev → By} (h : ∀ e ∈ l, (f e).length ≤ 200) : TOK (l.map f) := fun s hs => by
 obtain ⟨e, he, rfl⟩ := List.mem_map.1 hs
 exact h e he
theorem all_map {l : List Ev} {f : Ev → Int} (h : ∀ e ∈ l, I64 (f e)) : AllI (l.map f) := fun s hs => by
 obtain ⟨e, he, rfl⟩ := List.mem_map.1 hs
 exact h e he
theorem bdA_len {l : List Ev} (h : LOK l) (i : Nat) : (bdA l i).length ≤ 70000 := by
 have hl := h.len
 have t1 := txs_len (l.map (·.client)) (tok_map h.s1) (by rw [List.length_map]; omega)
 have t2 := txs_len (l.map (·.id)) (tok_map h.s2) (by rw [List.length_map]; omega)
 have t3 := txs_len (l.map (·.name)) (tok_map h.s3) (by rw [List.length_map]; omega)
 have t4 := txs_len (l.map (·.other)) (tok_map h.s4) (by rw [List.length_map]; omega)
 have i1 := ints_short (l.map (·.seq)) (by rw [List.length_map]; omega)
 have i2 := ints_short (l.map (·.kind)) (by rw [List.length_map]; omega)
 have i3 := ints_short (l.map (·.time)) (by rw [List.length_map]; omega)
 have i4 := ints_short (l.map (·.ver)) (by rw [List.length_map]; omega)
 have i5 := ints_short (l.map (·.arm)) (by rw [List.length_map]; omega)
 have i6 := ints_short (l.map (·.val)) (by rw [List.length_map]; omega)
 simp only [List.length_map] at t1 t2 t3 t4
 match i with
 | 0 => simp [bdA]
 | 1 => simp only [bdA, List.length_append]; omega
 | 2 => simp only [bdA, List.length_append]; omega
 | 3 => simp only [bdA, List.length_append]; omega
 | n + 4 => simp only [bdA, bdy, List.length_append]; omega
theorem lims_rng {l : List Ev} (h : LOK l) : I64 (lims l).1 ∧ I64 (lims l).2 := by
 cases l with
 | nil => exact absurd rfl h.ne
 | cons e r =>
  have := loT_rng (a := e.time) (h.tm e List.mem_cons_self) h.tm
  unfold lims I64
  simp only
  omega
theorem limits1LA (l : List Ev) (h : LOK l) : AFn Tryz.prog GS 123 [el l] 0 [] (Is (.tup [iv (lims l).1, iv (lims l).2])) := by
 cases l with
 | nil => exact absurd rfl h.ne
 | cons e r => exact limits1A e r (by have := h.len; omega)
theorem chunkBA (l : List Ev) (h : LOK l) : AFn Tryz.prog GS 87 [el l] 0 [] (Is (bs (chb l))) := by
 have hlen := h.len
 refine afn_of Tryz.func87 rfl mixed (by kernel_rfl) ?_
 conv=>whnf
 (refine acallF [] (by kernel_rfl) (cloneEA l h.ne (by omega)) ?_ ?_; (focus trivial))
 rintro _ _ _ ⟨rfl, rfl, rfl⟩
 conv=>whnf
 (refine acallF [] (by kernel_rfl) (columnsA) ?_ ?_; (focus trivial))
 rintro _ _ _ ⟨rfl, rfl, rfl⟩
 conv=>whnf
 refine aloop ws87_1 3 [3, 18] (fun i : Nat => [(3, .own 2), (18, iv i)]) (fun i => [(2, .rows 5 1 ((bdA l i).map enB)), (1, .rows 160 2 colsL), (0, .rows 95 10 (l.map enE))]) (fun i => i ≤ 4) (fun i => 4 - i) [(2, .nil)] [] 0 (by kernel_rfl) (fun _ => rfl) rfl (Nat.zero_le _) ⟨rfl, ⟨rfl, rfl, rfl⟩, ⟨rfl, rfl, rfl⟩, trivial⟩ ⟨trivial, rfl, trivial⟩ ?_
 intro i hi
 have hcs : i = 0 ∨ i = 1 ∨ i = 2 ∨ i = 3 ∨ i = 4 := by omega
 rcases hcs with rfl | rfl | rfl | rfl | rfl
 ·conv=>whnf
  refine AIn.mk' 0 rfl (by decide) ?_
  conv=>whnf
  refine ARd.at rfl ?_
  conv=>whnf
  refine aloop ws87_2 5 [6, 24] (fun k : Nat => [(6, .own 4), (24, iv k)]) (fun k => [(4, .rows 9 1 (((l.take k).map (·.client)).map enT)), (3, .var 160 ((colsL.getD 0 []).map FV.up)), (2, .rows 5 1 ((bdA l 0).map enB)), (1, .rows 160 2 colsL), (0, .rows 95 10 (l.map enE))]) (fun k => k ≤ l.length) (fun k => l.length - k) [(4, .nil)] [] 0 (by kernel_rfl) (fun _ => rfl) rfl (Nat.zero_le _) ⟨rfl, (by trivial), ⟨rfl, rfl, rfl⟩, ⟨rfl, rfl, rfl⟩, ⟨rfl, rfl, rfl⟩, trivial⟩ ⟨trivial, rfl, trivial⟩ ?_
  intro k hk
  conv=>whnf
  refine vif_split (fun hb => ?_) (fun hb => ?_)
  ·have hlt : k < l.length := by simp at hb; omega
   conv=>whnf
   (refine adraw pln87 [4, 5, 6] (by kernel_rfl) ?_; conv=>whnf)
   refine AIn.mk' k rfl (lmZ hlt) ?_
   conv=>whnf
   (refine acallI (by kernel_rfl) (afn_of Tryz.func143 rfl mixed (by kernel_rfl) ?_); (conv=>whnf))
   refine aendE (.ep 0 k 0) ?_ rfl ?_ ?_
   rotate_left 1
   ·trivial
   ·trivial
   conv=>whnf
   refine ARd.mapAt (List.getElem?_eq_getElem hlt) ?_
   conv=>whnf
   refine VReq.mk (app_ok (by simp only [List.length_map, List.length_append, List.length_cons, List.length_nil, List.length_take]; omega) (by kernel_rfl)) ?_
   conv=>whnf
   refine AAr.i64 (by omega) ?_
   conv=>whnf
   refine aback (k + 1) [(4, .lab 6)] [] rfl (by show l.length - (k + 1) < l.length - k; omega) hlt ⟨⟨rfl, rfl, ?_⟩, (by trivial), ⟨rfl, rfl, rfl⟩, ⟨rfl, rfl, rfl⟩, ⟨rfl, rfl, rfl⟩, trivial⟩ ⟨rfl, rfl, trivial⟩
   rw [List.take_succ_eq_append_getElem hlt, List.map_append]
   exact (enT_snoc _ _).symm
  have hke : k = l.length := by simp at hb; omega
  subst hke
  rw [List.take_length]
  conv=>whnf
  have hml : (l.map (·.client)).length ≤ 512 := by rw [List.length_map]; omega
  (refine acallF [4] (by kernel_rfl) (AFn.up (textsA (l.map (·.client)) hml (tok_map h.s1)) GS) ?_ ?_; (focus trivial))
  rintro _ _ _ ⟨rfl, rfl, rfl⟩
  conv=>whnf
  have hx0 : (txs (l.map (·.client))).length ≤ 8500 := by have := txs_len (l.map (·.client)) (tok_map h.s1) hml; rw [List.length_map] at this; omega
  have hbd := bdA_len h 0
  refine VReq.mk (app_ok (by simp only [List.length_map]; omega) (by kernel_rfl)) ?_
  conv=>whnf
  refine aloop ws87_3 7 [3, 46] (fun j : Nat => [(3, .own 6), (46, iv j)]) (fun j => [(6, .rows 5 1 ((pfN (bdA l 0 ++ txs (l.map (·.client))) (ints (l.map (·.seq))) (ints (l.map (·.kind))) (ints (l.map (·.time))) j).map enB)), (3, .var 160 ((colsL.getD 0 []).map FV.up)), (1, .rows 160 2 colsL), (0, .rows 95 10 (l.map enE))]) (fun j => j ≤ 3) (fun j => 3 - j) [(6, .lab 5)] [] 0 (by kernel_rfl) (fun _ => rfl) rfl (Nat.zero_le _) ⟨⟨rfl, rfl, List.map_append.symm⟩, (by trivial), ⟨rfl, rfl, rfl⟩, ⟨rfl, rfl, rfl⟩, trivial⟩ ⟨rfl, rfl, trivial⟩ ?_
  have hy1 := ints_short (l.map (·.seq)) (by rw [List.length_map]; omega)
  have hy2 := ints_short (l.map (·.kind)) (by rw [List.length_map]; omega)
  intro j hj
  have hcj : j = 0 ∨ j = 1 ∨ j = 2 ∨ j = 3 := by omega
  rcases hcj with rfl | rfl | rfl | rfl
  ·conv=>whnf
   refine AIn.mk' 0 rfl (by decide) ?_
   conv=>whnf
   refine ARd.at rfl ?_
   conv=>whnf
   refine aloop ws87_4 8 [10, 52] (fun k : Nat => [(10, .own 7), (52, iv k)]) (fun k => [(7, .rows 3 1 (((l.take k).map (·.seq)).map enI)), (6, .rows 5 1 ((bdA l 0 ++ txs (l.map (·.client))).map enB)), (3, .var 160 ((colsL.getD 0 []).map FV.up)), (1, .rows 160 2 colsL), (0, .rows 95 10 (l.map enE))]) (fun k => k ≤ l.length) (fun k => l.length - k) [(7, .nil)] [] 0 (by kernel_rfl) (fun _ => rfl) rfl (Nat.zero_le _) ⟨rfl, ⟨rfl, rfl, rfl⟩, (by trivial), ⟨rfl, rfl, rfl⟩, ⟨rfl, rfl, rfl⟩, trivial⟩ ⟨trivial, rfl, trivial⟩ ?_
   intro k hk
   conv=>whnf
   refine vif_split (fun hb => ?_) (fun hb => ?_)
   ·have hlt : k < l.length := by simp at hb; omega
    conv=>whnf
    refine AIn.mk' k rfl (lmZ hlt) ?_
    conv=>whnf
    (refine acallI (by kernel_rfl) (afn_of Tryz.func144 rfl mixed (by kernel_rfl) ?_); (conv=>whnf))
    refine aendE (.ep 0 k 1) ?_ rfl ?_ ?_
    rotate_left 1
    ·exact ⟨⟨rfl, rfl, rfl⟩, ⟨rfl, rfl, rfl⟩, (by trivial), ⟨rfl, rfl, rfl⟩, ⟨rfl, rfl, rfl⟩, trivial⟩
    ·trivial
    conv=>whnf
    refine ARd.mapAt (List.getElem?_eq_getElem hlt) ?_
    conv=>whnf
    refine VReq.mk (app_ok (by simp only [List.length_map, List.length_append, List.length_cons, List.length_nil, List.length_take]; omega) (by kernel_rfl)) ?_
    conv=>whnf
    refine AAr.i64 (by omega) ?_
    conv=>whnf
    refine aback (k + 1) [(7, .lab 9)] [] rfl (by show l.length - (k + 1) < l.length - k; omega) hlt ⟨⟨rfl, rfl, ?_⟩, ⟨rfl, rfl, rfl⟩, (by trivial), ⟨rfl, rfl, rfl⟩, ⟨rfl, rfl, rfl⟩, trivial⟩ ⟨rfl, rfl, trivial⟩
    rw [List.take_succ_eq_append_getElem hlt, List.map_append, List.map_append]
    rfl
   have hke : k = l.length := by simp at hb; omega
   subst hke
   rw [List.take_length]
   conv=>whnf
   have hml : (l.map (·.seq)).length ≤ 512 := by rw [List.length_map]; omega
   (refine acallF [7] (by kernel_rfl) (AFn.up (intsA (l.map (·.seq)) (all_map fun e he => (h.ok e he).seq) hml) GS) ?_ ?_; (focus trivial))
   rintro _ _ _ ⟨rfl, rfl, rfl⟩
   conv=>whnf
   have hx := ints_short (l.map (·.seq)) hml
   refine VReq.mk (app_ok (by simp only [List.length_map, List.length_append]; omega) (by kernel_rfl)) ?_
   conv=>whnf
   refine AAr.i64 (by decide) ?_
   conv=>whnf
   exact aback (0 + 1) [(6, .lab 8)] [] rfl (by decide) (by decide) ⟨⟨rfl, rfl, List.map_append.symm⟩, (by trivial), ⟨rfl, rfl, rfl⟩, ⟨rfl, rfl, rfl⟩, trivial⟩ ⟨rfl, rfl, trivial⟩
  ·conv=>whnf
   refine AIn.mk' 1 rfl (by decide) ?_
   conv=>whnf
   refine ARd.at rfl ?_
   conv=>whnf
   refine aloop ws87_4 8 [10, 52] (fun k : Nat => [(10, .own 7), (52, iv k)]) (fun k => [(7, .rows 3 1 (((l.take k).map (·.kind)).map enI)), (6, .rows 5 1 ((bdA l 0 ++ txs (l.map (·.client)) ++ ints (l.map (·.seq))).map enB)), (3, .var 160 ((colsL.getD 0 []).map FV.up)), (1, .rows 160 2 colsL), (0, .rows 95 10 (l.map enE))]) (fun k => k ≤ l.length) (fun k => l.length - k) [(7, .nil)] [] 0 (by kernel_rfl) (fun _ => rfl) rfl (Nat.zero_le _) ⟨rfl, ⟨rfl, rfl, rfl⟩, (by trivial), ⟨rfl, rfl, rfl⟩, ⟨rfl, rfl, rfl⟩, trivial⟩ ⟨trivial, rfl, trivial⟩ ?_
   intro k hk
   conv=>whnf
   refine vif_split (fun hb => ?_) (fun hb => ?_)
   ·have hlt : k < l.length := by simp at hb; omega
    conv=>whnf
    refine AIn.mk' k rfl (lmZ hlt) ?_
    conv=>whnf
    (refine acallI (by kernel_rfl) (afn_of Tryz.func145 rfl mixed (by kernel_rfl) ?_); (conv=>whnf))
    refine aendE (.ep 0 k 2) ?_ rfl ?_ ?_
    rotate_left 1
    ·exact ⟨⟨rfl, rfl, rfl⟩, ⟨rfl, rfl, rfl⟩, (by trivial), ⟨rfl, rfl, rfl⟩, ⟨rfl, rfl, rfl⟩, trivial⟩
    ·trivial
    conv=>whnf
    refine ARd.mapAt (List.getElem?_eq_getElem hlt) ?_
    conv=>whnf
    refine VReq.mk (app_ok (by simp only [List.length_map, List.length_append, List.length_cons, List.length_nil, List.length_take]; omega) (by kernel_rfl)) ?_
    conv=>whnf
    refine AAr.i64 (by omega) ?_
    conv=>whnf
    refine aback (k + 1) [(7, .lab 9)] [] rfl (by show l.length - (k + 1) < l.length - k; omega) hlt ⟨⟨rfl, rfl, ?_⟩, ⟨rfl, rfl, rfl⟩, (by trivial), ⟨rfl, rfl, rfl⟩, ⟨rfl, rfl, rfl⟩, trivial⟩ ⟨rfl, rfl, trivial⟩
    rw [List.take_succ_eq_append_getElem hlt, List.map_append, List.map_append]
    rfl
   have hke : k = l.length := by simp at hb; omega
   subst hke
   rw [List.take_length]
   conv=>whnf
   have hml : (l.map (·.kind)).length ≤ 512 := by rw [List.length_map]; omega
   (refine acallF [7] (by kernel_rfl) (AFn.up (intsA (l.map (·.kind)) (all_map fun e he => (h.ok e he).kind) hml) GS) ?_ ?_; (focus trivial))
   rintro _ _ _ ⟨rfl, rfl, rfl⟩
   conv=>whnf
   have hx := ints_short (l.map (·.kind)) hml
   refine VReq.mk (app_ok (by simp only [List.length_map, List.length_append]; omega) (by kernel_rfl)) ?_
   conv=>whnf
   refine AAr.i64 (by decide) ?_
   conv=>whnf
   exact aback (1 + 1) [(6, .lab 8)] [] rfl (by decide) (by decide) ⟨⟨rfl, rfl, List.map_append.symm⟩, (by trivial), ⟨rfl, rfl, rfl⟩, ⟨rfl, rfl, rfl⟩, trivial⟩ ⟨rfl, rfl, trivial⟩
  ·conv=>whnf
   refine AIn.mk' 2 rfl (by decide) ?_
   conv=>whnf
   refine ARd.at rfl ?_
   conv=>whnf
   refine aloop ws87_4 8 [10, 52] (fun k : Nat => [(10, .own 7), (52, iv k)]) (fun k => [(7, .rows 3 1 (((l.take k).map (·.time)).map enI)), (6, .rows 5 1 ((bdA l 0 ++ txs (l.map (·.client)) ++ ints (l.map (·.seq)) ++ ints (l.map (·.kind))).map enB)), (3, .var 160 ((colsL.getD 0 []).map FV.up)), (1, .rows 160 2 colsL), (0, .rows 95 10 (l.map enE))]) (fun k => k ≤ l.length) (fun k => l.length - k) [(7, .nil)] [] 0 (by kernel_rfl) (fun _ => rfl) rfl (Nat.zero_le _) ⟨rfl, ⟨rfl, rfl, rfl⟩, (by trivial), ⟨rfl, rfl, rfl⟩, ⟨rfl, rfl, rfl⟩, trivial⟩ ⟨trivial, rfl, trivial⟩ ?_
   intro k hk
   conv=>whnf
   refine vif_split (fun hb => ?_) (fun hb => ?_)
   ·have hlt : k < l.length := by simp at hb; omega
    conv=>whnf
    refine AIn.mk' k rfl (lmZ hlt) ?_
    conv=>whnf
    (refine acallI (by kernel_rfl) (afn_of Tryz.func146 rfl mixed (by kernel_rfl) ?_); (conv=>whnf))
    refine aendE (.ep 0 k 3) ?_ rfl ?_ ?_
    rotate_left 1
    ·exact ⟨⟨rfl, rfl, rfl⟩, ⟨rfl, rfl, rfl⟩, (by trivial), ⟨rfl, rfl, rfl⟩, ⟨rfl, rfl, rfl⟩, trivial⟩
    ·trivial
    conv=>whnf
    refine ARd.mapAt (List.getElem?_eq_getElem hlt) ?_
    conv=>whnf
    refine VReq.mk (app_ok (by simp only [List.length_map, List.length_append, List.length_cons, List.length_nil, List.length_take]; omega) (by kernel_rfl)) ?_
    conv=>whnf
    refine AAr.i64 (by omega) ?_
    conv=>whnf
    refine aback (k + 1) [(7, .lab 9)] [] rfl (by show l.length - (k + 1) < l.length - k; omega) hlt ⟨⟨rfl, rfl, ?_⟩, ⟨rfl, rfl, rfl⟩, (by trivial), ⟨rfl, rfl, rfl⟩, ⟨rfl, rfl, rfl⟩, trivial⟩ ⟨rfl, rfl, trivial⟩
    rw [List.take_succ_eq_append_getElem hlt, List.map_append, List.map_append]
    rfl
   have hke : k = l.length := by simp at hb; omega
   subst hke
   rw [List.take_length]
   conv=>whnf
   have hml : (l.map (·.time)).length ≤ 512 := by rw [List.length_map]; omega
   (refine acallF [7] (by kernel_rfl) (AFn.up (intsA (l.map (·.time)) (all_map fun e he => (h.ok e he).time) hml) GS) ?_ ?_; (focus trivial))
   rintro _ _ _ ⟨rfl, rfl, rfl⟩
   conv=>whnf
   have hx := ints_short (l.map (·.time)) hml
   refine VReq.mk (app_ok (by simp only [List.length_map, List.length_append]; omega) (by kernel_rfl)) ?_
   conv=>whnf
   refine AAr.i64 (by decide) ?_
   conv=>whnf
   exact aback (2 + 1) [(6, .lab 8)] [] rfl (by decide) (by decide) ⟨⟨rfl, rfl, List.map_append.symm⟩, (by trivial), ⟨rfl, rfl, rfl⟩, ⟨rfl, rfl, rfl⟩, trivial⟩ ⟨rfl, rfl, trivial⟩
  ·conv=>whnf
   refine AAr.i64 (by decide) ?_
   conv=>whnf
   exact aback 1 [(2, .lab 6)] [] rfl (by decide) (by decide) ⟨⟨rfl, rfl, rfl⟩, ⟨rfl, rfl, rfl⟩, ⟨rfl, rfl, rfl⟩, trivial⟩ ⟨rfl, rfl, trivial⟩
 ·conv=>whnf
  refine AIn.mk' 1 rfl (by decide) ?_
  conv=>whnf
  refine ARd.at rfl ?_
  conv=>whnf
  refine aloop ws87_2 5 [6, 24] (fun k : Nat => [(6, .own 4), (24, iv k)]) (fun k => [(4, .rows 9 1 (((l.take k).map (·.id)).map enT)), (3, .var 160 ((colsL.getD 1 []).map FV.up)), (2, .rows 5 1 ((bdA l 1).map enB)), (1, .rows 160 2 colsL), (0, .rows 95 10 (l.map enE))]) (fun k => k ≤ l.length) (fun k => l.length - k) [(4, .nil)] [] 0 (by kernel_rfl) (fun _ => rfl) rfl (Nat.zero_le _) ⟨rfl, (by trivial), ⟨rfl, rfl, rfl⟩, ⟨rfl, rfl, rfl⟩, ⟨rfl, rfl, rfl⟩, trivial⟩ ⟨trivial, rfl, trivial⟩ ?_
  intro k hk
  conv=>whnf
  refine vif_split (fun hb => ?_) (fun hb => ?_)
  ·have hlt : k < l.length := by simp at hb; omega
   conv=>whnf
   (refine adraw pln87 [4, 5, 6] (by kernel_rfl) ?_; conv=>whnf)
   refine AIn.mk' k rfl (lmZ hlt) ?_
   conv=>whnf
   (refine acallI (by kernel_rfl) (afn_of Tryz.func147 rfl mixed (by kernel_rfl) ?_); (conv=>whnf))
   refine aendE (.ep 0 k 4) ?_ rfl ?_ ?_
   rotate_left 1
   ·trivial
   ·trivial
   conv=>whnf
   refine ARd.mapAt (List.getElem?_eq_getElem hlt) ?_
   conv=>whnf
   refine VReq.mk (app_ok (by simp only [List.length_map, List.length_append, List.length_cons, List.length_nil, List.length_take]; omega) (by kernel_rfl)) ?_
   conv=>whnf
   refine AAr.i64 (by omega) ?_
   conv=>whnf
   refine aback (k + 1) [(4, .lab 6)] [] rfl (by show l.length - (k + 1) < l.length - k; omega) hlt ⟨⟨rfl, rfl, ?_⟩, (by trivial), ⟨rfl, rfl, rfl⟩, ⟨rfl, rfl, rfl⟩, ⟨rfl, rfl, rfl⟩, trivial⟩ ⟨rfl, rfl, trivial⟩
   rw [List.take_succ_eq_append_getElem hlt, List.map_append]
   exact (enT_snoc _ _).symm
  have hke : k = l.length := by simp at hb; omega
  subst hke
  rw [List.take_length]
  conv=>whnf
  have hml : (l.map (·.id)).length ≤ 512 := by rw [List.length_map]; omega
  (refine acallF [4] (by kernel_rfl) (AFn.up (textsA (l.map (·.id)) hml (tok_map h.s2)) GS) ?_ ?_; (focus trivial))
  rintro _ _ _ ⟨rfl, rfl, rfl⟩
  conv=>whnf
  have hx1 : (txs (l.map (·.id))).length ≤ 8500 := by have := txs_len (l.map (·.id)) (tok_map h.s2) hml; rw [List.length_map] at this; omega
  have hbd := bdA_len h 1
  refine VReq.mk (app_ok (by simp only [List.length_map]; omega) (by kernel_rfl)) ?_
  conv=>whnf
  refine aloop ws87_3 6 [3, 46] (fun j : Nat => [(3, .own 5), (46, iv 0)]) (fun j => [(5, .rows 5 1 ((bdA l 1 ++ txs (l.map (·.id))).map enB)), (1, .rows 160 2 colsL), (0, .rows 95 10 (l.map enE))]) (fun j => j = 0) (fun j => j) [] [] 0 (by kernel_rfl) (fun _ => rfl) rfl rfl ⟨⟨rfl, rfl, List.map_append.symm⟩, ⟨rfl, rfl, rfl⟩, ⟨rfl, rfl, rfl⟩, trivial⟩ ⟨⟨rfl, rfl⟩, rfl, trivial⟩ ?_
  intro j hj
  conv=>whnf
  refine AAr.i64 (by decide) ?_
  conv=>whnf
  exact aback (1 + 1) [(2, .lab 5)] [] rfl (by decide) (by decide) ⟨⟨rfl, rfl, rfl⟩, ⟨rfl, rfl, rfl⟩, ⟨rfl, rfl, rfl⟩, trivial⟩ ⟨rfl, rfl, trivial⟩
 ·conv=>whnf
  refine AIn.mk' 2 rfl (by decide) ?_
  conv=>whnf
  refine ARd.at rfl ?_
  conv=>whnf
  refine aloop ws87_2 5 [6, 24] (fun k : Nat => [(6, .own 4), (24, iv k)]) (fun k => [(4, .rows 9 1 (((l.take k).map (·.name)).map enT)), (3, .var 160 ((colsL.getD 2 []).map FV.up)), (2, .rows 5 1 ((bdA l 2).map enB)), (1, .rows 160 2 colsL), (0, .rows 95 10 (l.map enE))]) (fun k => k ≤ l.length) (fun k => l.length - k) [(4, .nil)] [] 0 (by kernel_rfl) (fun _ => rfl) rfl (Nat.zero_le _) ⟨rfl, (by trivial), ⟨rfl, rfl, rfl⟩, ⟨rfl, rfl, rfl⟩, ⟨rfl, rfl, rfl⟩, trivial⟩ ⟨trivial, rfl, trivial⟩ ?_
  intro k hk
  conv=>whnf
  refine vif_split (fun hb => ?_) (fun hb => ?_)
  ·have hlt : k < l.length := by simp at hb; omega
   conv=>whnf
   (refine adraw pln87 [4, 5, 6] (by kernel_rfl) ?_; conv=>whnf)
   refine AIn.mk' k rfl (lmZ hlt) ?_
   conv=>whnf
   (refine acallI (by kernel_rfl) (afn_of Tryz.func148 rfl mixed (by kernel_rfl) ?_); (conv=>whnf))
   refine aendE (.ep 0 k 5) ?_ rfl ?_ ?_
   rotate_left 1
   ·trivial
   ·trivial
   conv=>whnf
   refine ARd.mapAt (List.getElem?_eq_getElem hlt) ?_
   conv=>whnf
   refine VReq.mk (app_ok (by simp only [List.length_map, List.length_append, List.length_cons, List.length_nil, List.length_take]; omega) (by kernel_rfl)) ?_
   conv=>whnf
   refine AAr.i64 (by omega) ?_
   conv=>whnf
   refine aback (k + 1) [(4, .lab 6)] [] rfl (by show l.length - (k + 1) < l.length - k; omega) hlt ⟨⟨rfl, rfl, ?_⟩, (by trivial), ⟨rfl, rfl, rfl⟩, ⟨rfl, rfl, rfl⟩, ⟨rfl, rfl, rfl⟩, trivial⟩ ⟨rfl, rfl, trivial⟩
   rw [List.take_succ_eq_append_getElem hlt, List.map_append]
   exact (enT_snoc _ _).symm
  have hke : k = l.length := by simp at hb; omega
  subst hke
  rw [List.take_length]
  conv=>whnf
  have hml : (l.map (·.name)).length ≤ 512 := by rw [List.length_map]; omega
  (refine acallF [4] (by kernel_rfl) (AFn.up (textsA (l.map (·.name)) hml (tok_map h.s3)) GS) ?_ ?_; (focus trivial))
  rintro _ _ _ ⟨rfl, rfl, rfl⟩
  conv=>whnf
  have hx2 : (txs (l.map (·.name))).length ≤ 8500 := by have := txs_len (l.map (·.name)) (tok_map h.s3) hml; rw [List.length_map] at this; omega
  have hbd := bdA_len h 2
  refine VReq.mk (app_ok (by simp only [List.length_map]; omega) (by kernel_rfl)) ?_
  conv=>whnf
  refine aloop ws87_3 6 [3, 46] (fun j : Nat => [(3, .own 5), (46, iv 0)]) (fun j => [(5, .rows 5 1 ((bdA l 2 ++ txs (l.map (·.name))).map enB)), (1, .rows 160 2 colsL), (0, .rows 95 10 (l.map enE))]) (fun j => j = 0) (fun j => j) [] [] 0 (by kernel_rfl) (fun _ => rfl) rfl rfl ⟨⟨rfl, rfl, List.map_append.symm⟩, ⟨rfl, rfl, rfl⟩, ⟨rfl, rfl, rfl⟩, trivial⟩ ⟨⟨rfl, rfl⟩, rfl, trivial⟩ ?_
  intro j hj
  conv=>whnf
  refine AAr.i64 (by decide) ?_
  conv=>whnf
  exact aback (2 + 1) [(2, .lab 5)] [] rfl (by decide) (by decide) ⟨⟨rfl, rfl, rfl⟩, ⟨rfl, rfl, rfl⟩, ⟨rfl, rfl, rfl⟩, trivial⟩ ⟨rfl, rfl, trivial⟩
 ·conv=>whnf
  refine AIn.mk' 3 rfl (by decide) ?_
  conv=>whnf
  refine ARd.at rfl ?_
  conv=>whnf
  refine aloop ws87_2 5 [6, 24] (fun k : Nat => [(6, .own 4), (24, iv k)]) (fun k => [(4, .rows 9 1 (((l.take k).map (·.other)).map enT)), (3, .var 160 ((colsL.getD 3 []).map FV.up)), (2, .rows 5 1 ((bdA l 3).map enB)), (1, .rows 160 2 colsL), (0, .rows 95 10 (l.map enE))]) (fun k => k ≤ l.length) (fun k => l.length - k) [(4, .nil)] [] 0 (by kernel_rfl) (fun _ => rfl) rfl (Nat.zero_le _) ⟨rfl, (by trivial), ⟨rfl, rfl, rfl⟩, ⟨rfl, rfl, rfl⟩, ⟨rfl, rfl, rfl⟩, trivial⟩ ⟨trivial, rfl, trivial⟩ ?_
  intro k hk
  conv=>whnf
  refine vif_split (fun hb => ?_) (fun hb => ?_)
  ·have hlt : k < l.length := by simp at hb; omega
   conv=>whnf
   (refine adraw pln87 [4, 5, 6] (by kernel_rfl) ?_; conv=>whnf)
   refine AIn.mk' k rfl (lmZ hlt) ?_
   conv=>whnf
   (refine acallI (by kernel_rfl) (afn_of Tryz.func149 rfl mixed (by kernel_rfl) ?_); (conv=>whnf))
   refine aendE (.ep 0 k 6) ?_ rfl ?_ ?_
   rotate_left 1
   ·trivial
   ·trivial
   conv=>whnf
   refine ARd.mapAt (List.getElem?_eq_getElem hlt) ?_
   conv=>whnf
   refine VReq.mk (app_ok (by simp only [List.length_map, List.length_append, List.length_cons, List.length_nil, List.length_take]; omega) (by kernel_rfl)) ?_
   conv=>whnf
   refine AAr.i64 (by omega) ?_
   conv=>whnf
   refine aback (k + 1) [(4, .lab 6)] [] rfl (by show l.length - (k + 1) < l.length - k; omega) hlt ⟨⟨rfl, rfl, ?_⟩, (by trivial), ⟨rfl, rfl, rfl⟩, ⟨rfl, rfl, rfl⟩, ⟨rfl, rfl, rfl⟩, trivial⟩ ⟨rfl, rfl, trivial⟩
   rw [List.take_succ_eq_append_getElem hlt, List.map_append]
   exact (enT_snoc _ _).symm
  have hke : k = l.length := by simp at hb; omega
  subst hke
  rw [List.take_length]
  conv=>whnf
  have hml : (l.map (·.other)).length ≤ 512 := by rw [List.length_map]; omega
  (refine acallF [4] (by kernel_rfl) (AFn.up (textsA (l.map (·.other)) hml (tok_map h.s4)) GS) ?_ ?_; (focus trivial))
  rintro _ _ _ ⟨rfl, rfl, rfl⟩
  conv=>whnf
  have hx3 : (txs (l.map (·.other))).length ≤ 8500 := by have := txs_len (l.map (·.other)) (tok_map h.s4) hml; rw [List.length_map] at this; omega
  have hbd := bdA_len h 3
  refine VReq.mk (app_ok (by simp only [List.length_map]; omega) (by kernel_rfl)) ?_
  conv=>whnf
  refine aloop ws87_3 7 [3, 46] (fun j : Nat => [(3, .own 6), (46, iv j)]) (fun j => [(6, .rows 5 1 ((pfN (bdA l 3 ++ txs (l.map (·.other))) (ints (l.map (·.ver))) (ints (l.map (·.arm))) (ints (l.map (·.val))) j).map enB)), (3, .var 160 ((colsL.getD 3 []).map FV.up)), (1, .rows 160 2 colsL), (0, .rows 95 10 (l.map enE))]) (fun j => j ≤ 3) (fun j => 3 - j) [(6, .lab 5)] [] 0 (by kernel_rfl) (fun _ => rfl) rfl (Nat.zero_le _) ⟨⟨rfl, rfl, List.map_append.symm⟩, (by trivial), ⟨rfl, rfl, rfl⟩, ⟨rfl, rfl, rfl⟩, trivial⟩ ⟨rfl, rfl, trivial⟩ ?_
  have hy1 := ints_short (l.map (·.ver)) (by rw [List.length_map]; omega)
  have hy2 := ints_short (l.map (·.arm)) (by rw [List.length_map]; omega)
  intro j hj
  have hcj : j = 0 ∨ j = 1 ∨ j = 2 ∨ j = 3 := by omega
  rcases hcj with rfl | rfl | rfl | rfl
  ·conv=>whnf
   refine AIn.mk' 0 rfl (by decide) ?_
   conv=>whnf
   refine ARd.at rfl ?_
   conv=>whnf
   refine aloop ws87_4 8 [10, 52] (fun k : Nat => [(10, .own 7), (52, iv k)]) (fun k => [(7, .rows 3 1 (((l.take k).map (·.ver)).map enI)), (6, .rows 5 1 ((bdA l 3 ++ txs (l.map (·.other))).map enB)), (3, .var 160 ((colsL.getD 3 []).map FV.up)), (1, .rows 160 2 colsL), (0, .rows 95 10 (l.map enE))]) (fun k => k ≤ l.length) (fun k => l.length - k) [(7, .nil)] [] 0 (by kernel_rfl) (fun _ => rfl) rfl (Nat.zero_le _) ⟨rfl, ⟨rfl, rfl, rfl⟩, (by trivial), ⟨rfl, rfl, rfl⟩, ⟨rfl, rfl, rfl⟩, trivial⟩ ⟨trivial, rfl, trivial⟩ ?_
   intro k hk
   conv=>whnf
   refine vif_split (fun hb => ?_) (fun hb => ?_)
   ·have hlt : k < l.length := by simp at hb; omega
    conv=>whnf
    refine AIn.mk' k rfl (lmZ hlt) ?_
    conv=>whnf
    (refine acallI (by kernel_rfl) (afn_of Tryz.func150 rfl mixed (by kernel_rfl) ?_); (conv=>whnf))
    refine aendE (.ep 0 k 7) ?_ rfl ?_ ?_
    rotate_left 1
    ·exact ⟨⟨rfl, rfl, rfl⟩, ⟨rfl, rfl, rfl⟩, (by trivial), ⟨rfl, rfl, rfl⟩, ⟨rfl, rfl, rfl⟩, trivial⟩
    ·trivial
    conv=>whnf
    refine ARd.mapAt (List.getElem?_eq_getElem hlt) ?_
    conv=>whnf
    refine VReq.mk (app_ok (by simp only [List.length_map, List.length_append, List.length_cons, List.length_nil, List.length_take]; omega) (by kernel_rfl)) ?_
    conv=>whnf
    refine AAr.i64 (by omega) ?_
    conv=>whnf
    refine aback (k + 1) [(7, .lab 9)] [] rfl (by show l.length - (k + 1) < l.length - k; omega) hlt ⟨⟨rfl, rfl, ?_⟩, ⟨rfl, rfl, rfl⟩, (by trivial), ⟨rfl, rfl, rfl⟩, ⟨rfl, rfl, rfl⟩, trivial⟩ ⟨rfl, rfl, trivial⟩
    rw [List.take_succ_eq_append_getElem hlt, List.map_append, List.map_append]
    rfl
   have hke : k = l.length := by simp at hb; omega
   subst hke
   rw [List.take_length]
   conv=>whnf
   have hml : (l.map (·.ver)).length ≤ 512 := by rw [List.length_map]; omega
   (refine acallF [7] (by kernel_rfl) (AFn.up (intsA (l.map (·.ver)) (all_map fun e he => (h.ok e he).ver) hml) GS) ?_ ?_; (focus trivial))
   rintro _ _ _ ⟨rfl, rfl, rfl⟩
   conv=>whnf
   have hx := ints_short (l.map (·.ver)) hml
   refine VReq.mk (app_ok (by simp only [List.length_map, List.length_append]; omega) (by kernel_rfl)) ?_
   conv=>whnf
   refine AAr.i64 (by decide) ?_
   conv=>whnf
   exact aback (0 + 1) [(6, .lab 8)] [] rfl (by decide) (by decide) ⟨⟨rfl, rfl, List.map_append.symm⟩, (by trivial), ⟨rfl, rfl, rfl⟩, ⟨rfl, rfl, rfl⟩, trivial⟩ ⟨rfl, rfl, trivial⟩
  ·conv=>whnf
   refine AIn.mk' 1 rfl (by decide) ?_
   conv=>whnf
   refine ARd.at rfl ?_
   conv=>whnf
   refine aloop ws87_4 8 [10, 52] (fun k : Nat => [(10, .own 7), (52, iv k)]) (fun k => [(7, .rows 3 1 (((l.take k).map (·.arm)).map enI)), (6, .rows 5 1 ((bdA l 3 ++ txs (l.map (·.other)) ++ ints (l.map (·.ver))).map enB)), (3, .var 160 ((colsL.getD 3 []).map FV.up)), (1, .rows 160 2 colsL), (0, .rows 95 10 (l.map enE))]) (fun k => k ≤ l.length) (fun k => l.length - k) [(7, .nil)] [] 0 (by kernel_rfl) (fun _ => rfl) rfl (Nat.zero_le _) ⟨rfl, ⟨rfl, rfl, rfl⟩, (by trivial), ⟨rfl, rfl, rfl⟩, ⟨rfl, rfl, rfl⟩, trivial⟩ ⟨trivial, rfl, trivial⟩ ?_
   intro k hk
   conv=>whnf
   refine vif_split (fun hb => ?_) (fun hb => ?_)
   ·have hlt : k < l.length := by simp at hb; omega
    conv=>whnf
    refine AIn.mk' k rfl (lmZ hlt) ?_
    conv=>whnf
    (refine acallI (by kernel_rfl) (afn_of Tryz.func151 rfl mixed (by kernel_rfl) ?_); (conv=>whnf))
    refine aendE (.ep 0 k 8) ?_ rfl ?_ ?_
    rotate_left 1
    ·exact ⟨⟨rfl, rfl, rfl⟩, ⟨rfl, rfl, rfl⟩, (by trivial), ⟨rfl, rfl, rfl⟩, ⟨rfl, rfl, rfl⟩, trivial⟩
    ·trivial
    conv=>whnf
    refine ARd.mapAt (List.getElem?_eq_getElem hlt) ?_
    conv=>whnf
    refine VReq.mk (app_ok (by simp only [List.length_map, List.length_append, List.length_cons, List.length_nil, List.length_take]; omega) (by kernel_rfl)) ?_
    conv=>whnf
    refine AAr.i64 (by omega) ?_
    conv=>whnf
    refine aback (k + 1) [(7, .lab 9)] [] rfl (by show l.length - (k + 1) < l.length - k; omega) hlt ⟨⟨rfl, rfl, ?_⟩, ⟨rfl, rfl, rfl⟩, (by trivial), ⟨rfl, rfl, rfl⟩, ⟨rfl, rfl, rfl⟩, trivial⟩ ⟨rfl, rfl, trivial⟩
    rw [List.take_succ_eq_append_getElem hlt, List.map_append, List.map_append]
    rfl
   have hke : k = l.length := by simp at hb; omega
   subst hke
   rw [List.take_length]
   conv=>whnf
   have hml : (l.map (·.arm)).length ≤ 512 := by rw [List.length_map]; omega
   (refine acallF [7] (by kernel_rfl) (AFn.up (intsA (l.map (·.arm)) (all_map fun e he => (h.ok e he).arm) hml) GS) ?_ ?_; (focus trivial))
   rintro _ _ _ ⟨rfl, rfl, rfl⟩
   conv=>whnf
   have hx := ints_short (l.map (·.arm)) hml
   refine VReq.mk (app_ok (by simp only [List.length_map, List.length_append]; omega) (by kernel_rfl)) ?_
   conv=>whnf
   refine AAr.i64 (by decide) ?_
   conv=>whnf
   exact aback (1 + 1) [(6, .lab 8)] [] rfl (by decide) (by decide) ⟨⟨rfl, rfl, List.map_append.symm⟩, (by trivial), ⟨rfl, rfl, rfl⟩, ⟨rfl, rfl, rfl⟩, trivial⟩ ⟨rfl, rfl, trivial⟩
  ·conv=>whnf
   refine AIn.mk' 2 rfl (by decide) ?_
   conv=>whnf
   refine ARd.at rfl ?_
   conv=>whnf
   refine aloop ws87_4 8 [10, 52] (fun k : Nat => [(10, .own 7), (52, iv k)]) (fun k => [(7, .rows 3 1 (((l.take k).map (·.val)).map enI)), (6, .rows 5 1 ((bdA l 3 ++ txs (l.map (·.other)) ++ ints (l.map (·.ver)) ++ ints (l.map (·.arm))).map enB)), (3, .var 160 ((colsL.getD 3 []).map FV.up)), (1, .rows 160 2 colsL), (0, .rows 95 10 (l.map enE))]) (fun k => k ≤ l.length) (fun k => l.length - k) [(7, .nil)] [] 0 (by kernel_rfl) (fun _ => rfl) rfl (Nat.zero_le _) ⟨rfl, ⟨rfl, rfl, rfl⟩, (by trivial), ⟨rfl, rfl, rfl⟩, ⟨rfl, rfl, rfl⟩, trivial⟩ ⟨trivial, rfl, trivial⟩ ?_
   intro k hk
   conv=>whnf
   refine vif_split (fun hb => ?_) (fun hb => ?_)
   ·have hlt : k < l.length := by simp at hb; omega
    conv=>whnf
    refine AIn.mk' k rfl (lmZ hlt) ?_
    conv=>whnf
    (refine acallI (by kernel_rfl) (afn_of Tryz.func152 rfl mixed (by kernel_rfl) ?_); (conv=>whnf))
    refine aendE (.ep 0 k 9) ?_ rfl ?_ ?_
    rotate_left 1
    ·exact ⟨⟨rfl, rfl, rfl⟩, ⟨rfl, rfl, rfl⟩, (by trivial), ⟨rfl, rfl, rfl⟩, ⟨rfl, rfl, rfl⟩, trivial⟩
    ·trivial
    conv=>whnf
    refine ARd.mapAt (List.getElem?_eq_getElem hlt) ?_
    conv=>whnf
    refine VReq.mk (app_ok (by simp only [List.length_map, List.length_append, List.length_cons, List.length_nil, List.length_take]; omega) (by kernel_rfl)) ?_
    conv=>whnf
    refine AAr.i64 (by omega) ?_
    conv=>whnf
    refine aback (k + 1) [(7, .lab 9)] [] rfl (by show l.length - (k + 1) < l.length - k; omega) hlt ⟨⟨rfl, rfl, ?_⟩, ⟨rfl, rfl, rfl⟩, (by trivial), ⟨rfl, rfl, rfl⟩, ⟨rfl, rfl, rfl⟩, trivial⟩ ⟨rfl, rfl, trivial⟩
    rw [List.take_succ_eq_append_getElem hlt, List.map_append, List.map_append]
    rfl
   have hke : k = l.length := by simp at hb; omega
   subst hke
   rw [List.take_length]
   conv=>whnf
   have hml : (l.map (·.val)).length ≤ 512 := by rw [List.length_map]; omega
   (refine acallF [7] (by kernel_rfl) (AFn.up (intsA (l.map (·.val)) (all_map fun e he => (h.ok e he).val) hml) GS) ?_ ?_; (focus trivial))
   rintro _ _ _ ⟨rfl, rfl, rfl⟩
   conv=>whnf
   have hx := ints_short (l.map (·.val)) hml
   refine VReq.mk (app_ok (by simp only [List.length_map, List.length_append]; omega) (by kernel_rfl)) ?_
   conv=>whnf
   refine AAr.i64 (by decide) ?_
   conv=>whnf
   exact aback (2 + 1) [(6, .lab 8)] [] rfl (by decide) (by decide) ⟨⟨rfl, rfl, List.map_append.symm⟩, (by trivial), ⟨rfl, rfl, rfl⟩, ⟨rfl, rfl, rfl⟩, trivial⟩ ⟨rfl, rfl, trivial⟩
  ·conv=>whnf
   refine AAr.i64 (by decide) ?_
   conv=>whnf
   exact aback 4 [(2, .lab 6)] [] rfl (by decide) (by decide) ⟨⟨rfl, rfl, rfl⟩, ⟨rfl, rfl, rfl⟩, ⟨rfl, rfl, rfl⟩, trivial⟩ ⟨rfl, rfl, trivial⟩
 ·conv=>whnf
  have hr := lims_rng h
  have hbl := bdA_len h 4
  have n1 := num_len (lims l).1
  have n2 := num_len (lims l).2
  have n3 := num_len ((bdy l).length : Int)
  change (bdy l).length ≤ 70000 at hbl
  (refine acallF [0] (by kernel_rfl) (limits1LA l h) ?_ ?_; (focus trivial))
  rintro _ _ _ ⟨rfl, rfl, rfl⟩
  conv=>whnf
  (refine acallF [] (by kernel_rfl) (AFn.up (putA [] (lims l).1 hr.1 (by simp)) GS) ?_ ?_; (focus trivial))
  rintro _ _ _ ⟨rfl, rfl, rfl⟩
  conv=>whnf
  (refine acallF [3] (by kernel_rfl) (AFn.up (putA (num (lims l).1) (lims l).2 hr.2 (by omega)) GS) ?_ ?_; (focus trivial))
  rintro _ _ _ ⟨rfl, rfl, rfl⟩
  conv=>whnf
  have e4 : ((bdA l 4).map enB).length = (bdy l).length := List.length_map _
  rw [e4]
  (refine acallF [4] (by kernel_rfl) (AFn.up (putA (num (lims l).1 ++ num (lims l).2) ((bdy l).length : Int) (i64_nat (by omega)) (by rw [List.length_append]; omega)) GS) ?_ ?_; (focus trivial))
  rintro _ _ _ ⟨rfl, rfl, rfl⟩
  conv=>whnf
  refine VReq.mk (app_ok (by rw [e4]; simp only [List.length_map, List.length_append]; omega) (by kernel_rfl)) ?_
  conv=>whnf
  refine aend (bs (chb l)) 0 [] [] [6] ⟨rfl, rfl, rfl⟩ rfl trivial ⟨rfl, rfl, ?_⟩
  show (num (lims l).1 ++ num (lims l).2 ++ num ((bdy l).length : Int)).map enB ++ (bdy l).map enB = (chb l).map enB
  rw [← List.map_append]
  rfl
end
end Go.Proofs.YtocckceefcmeaaaGreatDoor.Cl
namespace Go.Proofs.YtocckceefcmeaaaGreatDoor.Ax
open Go Go.RowKit Go.Proofs Go.Proofs.YtocckceefcmeaaaGreatDoor.Vc
attribute [local irreducible] loadVar storeVar Instr.indexAt Instr.index Instr.sliceAt Instr.makeSlice Instr.lookup Instr.mapUpdate Instr.range Instr.next Instr.entry Instr.makeMap Builtin.append_ Builtin.copy_ Builtin.len_ Builtin.min_ Builtin.max_ Builtin.cap_ Builtin.delete_ Builtin.clear_ convert binOp eqGuard Op.unary Calls
def chN (l : List (List FV)) (i : Nat) : List (List FV) := (l.drop (16 * i)).take 16
def nCh (l : List (List FV)) : Nat := (l.length + 15) / 16
def chsN (l : List (List FV)) : List (List AV) := (List.range (nCh l)).map fun i => [.lst 10 (chN l i)]
theorem chunkI (G : Glob) (l : List (List FV)) (hl : l.length ≤ 1000000) : AIt Tryz.prog G 119 [.fp [.lst 10 l] 0, .fp [.v (.int .i64 16)] 0] (chsN l) := by
 intro n σ F vs W lp J hG hF hr hst hkp hy h0
 match vs, hr with
 | [v1, v2], ⟨r1, r2, _⟩ =>
 cases r1 with
 | fp f1 =>
 cases r2 with
 | fp f2 =>
 cases f1 with
 | fp _ _ b1 o1 hb1 hex1 hrep1 =>
 cases f2 with
 | fp _ _ b2 o2 hb2 hex2 hrep2 =>
 obtain ⟨x1, hc1, _⟩ := hex1 0 Nat.zero_lt_one
 obtain ⟨x2, hc2, _⟩ := hex2 0 Nat.zero_lt_one
 have hx1 := hrep1 0 _ x1 rfl hc1
 have hx2 := hrep2 0 _ x2 rfl hc2
 cases hx2
 obtain ⟨oa, m, c, rfl⟩ : ∃ oa m c, x1 = .slice oa m c := by cases hx1; exact ⟨_, _, _, rfl⟩
 have hm : m = l.length := by cases hx1; assumption
 subst hm
 refine calls_of_vy Tryz.func119 rfl (by kernel_rfl) (Nat.le_of_ble_eq_true rfl) rfl (by kernel_rfl) ?_
 conv=>whnf
 refine vloop (X := Nat) ws119_1 (fun i => [(4, .int .i64 (16 * i : Nat))]) (fun i w' => i ≤ nCh l ∧ J i w') (fun i => nCh l - i) 0 (by kernel_rfl) ⟨rfl, trivial⟩ ⟨Nat.zero_le _, h0⟩ ?_
 rintro i w' j ⟨hi, hJ⟩
 obtain ⟨k1, k2, k3⟩ := hkp i w' hJ
 have c1 : w'.cell? ⟨b1, o1 + 0, none⟩ = some (.slice oa l.length c) := by rw [cell_heap (k3 b1 hb1)]; exact hc1
 have c2 : w'.cell? ⟨b2, o2 + 0, none⟩ = some (.int .i64 16) := by rw [cell_heap (k3 b2 hb2)]; exact hc2
 conv=>whnf
 refine vs_load1 rfl c1 ?_
 conv=>whnf
 apply vif_split <;> intro h
 ·have hlt : 16 * i < l.length := by simp at h; omega
  have hin : i < nCh l := by unfold nCh; omega
  conv=>whnf
  have c1d : w'.drew.cell? ⟨b1, o1 + 0, none⟩ = some (.slice oa l.length c) := c1
  have c2d : w'.drew.cell? ⟨b2, o2 + 0, none⟩ = some (.int .i64 16) := c2
  have hlc : l.length ≤ c := by cases hx1; assumption
  (refine vdrawAt plan119 (by kernel_rfl) ?_; conv=>whnf)
  repeat (first
   | (refine vs_load1 rfl c1d ?_; conv=>whnf)
   | (refine vs_load1 rfl c2d ?_; conv=>whnf)
   | (refine VPend.mk rfl ?_; conv=>whnf)
   | (refine vs_sliceLo (sz := 10) (lo := 16 * i) rfl rfl rfl (Nat.le_of_lt hlt) ?_; conv=>whnf))
  have we : IntKind.i64.wrap (((16 * i : Nat) : Int) + min 16 ((l.length - 16 * i : Nat) : Int)) = ((16 * i + min 16 (l.length - 16 * i) : Nat) : Int) := by
   have e1 : (min 16 ((l.length - 16 * i : Nat) : Int)) = ((min 16 (l.length - 16 * i) : Nat) : Int) := by omega
   rw [e1, ← Int.natCast_add]
   exact IntWalk.i64_in _ (by omega)
  rw [we]
  refine vsem (run_sliceAt (E := 95) (sz := 10) (i := 16 * i) (j := 16 * i + min 16 (l.length - 16 * i)) (m := 16 * i + min 16 (l.length - 16 * i)) rfl rfl (.inr ⟨_, rfl⟩) (.inr ⟨_, rfl⟩) (.inr ⟨_, rfl⟩) (by omega) (Nat.le_refl _) (by omega)) ?_
  have hJd : J i w'.drew := hst i w' _ hJ (belowDrew (Below.refl _ _))
  have hch : chN l i = (l.take (16 * i + min 16 (l.length - 16 * i))).drop (16 * i) := by
   unfold chN
   rw [List.drop_take, show 16 * i + min 16 (l.length - 16 * i) - 16 * i = min 16 (l.length - 16 * i) by omega]
   rcases Nat.le_total 16 (l.length - 16 * i) with h | h
   ·rw [Nat.min_eq_left h]
   ·rw [Nat.min_eq_right h, List.take_of_length_le (by rw [List.length_drop]; exact h), List.take_of_length_le (by rw [List.length_drop]; exact Nat.le_refl _)]
  have hfr : FRep F w'.drew (.lst 10 (chN l i)) (.slice (hdrS oa (16 * i) 10 (16 * i + min 16 (l.length - 16 * i))) (16 * i + min 16 (l.length - 16 * i) - 16 * i) (16 * i + min 16 (l.length - 16 * i) - 16 * i)) := by
   rw [hch]
   exact FRep.part (FRep.mono (w' := w'.drew) (fun b hb => ⟨hb, k3 b hb⟩) hx1) (by omega) (by omega) (Nat.le_refl _) (by omega)
  obtain ⟨fn, tmps, assign, body, hyr, hR⟩ := hy i [.lst 10 (chN l i)] w'.drew [.slice (hdrS oa (16 * i) 10 (16 * i + min 16 (l.length - 16 * i))) (16 * i + min 16 (l.length - 16 * i) - 16 * i) (16 * i + min 16 (l.length - 16 * i) - 16 * i)] (by unfold chsN; rw [List.getElem?_map, List.getElem?_range hin]; rfl) hJd ⟨.lst hfr, trivial⟩
  conv=>whnf
  refine ⟨⟨fn, tmps, assign, body, hyr, RoundIn.mono hR ?_⟩⟩
  rintro e W2 ⟨rfl, hJ2⟩
  refine ⟨_, rfl, ?_⟩
  obtain ⟨m1, m2, m3⟩ := hkp (i + 1) W2 hJ2
  have c3 : W2.cell? ⟨b2, o2 + 0, none⟩ = some (.int .i64 16) := by rw [cell_heap (m3 b2 hb2)]; exact hc2
  conv=>whnf
  refine vs_load1 rfl c3 ?_
  conv=>whnf
  refine VBack.mk ⟨_, ?_, (i + 1), rfl, ⟨?_, trivial⟩, hin, hJ2⟩
  ·show nCh l - (i + 1) < nCh l - i; omega
  show Value.int .i64 (IntKind.i64.wrap (((16 * i : Nat) : Int) + 16)) = .int .i64 ((16 * (i + 1) : Nat) : Int)
  congr 1
  rw [show ((16 * i : Nat) : Int) + 16 = ((16 * (i + 1) : Nat) : Int) by omega]
  exact IntWalk.i64_in _ (by omega)
 ·have hge : l.length ≤ 16 * i := by simp at h; omega
  have hie : i = nCh l := by unfold nCh at hi ⊢; omega
  subst hie
  conv=>whnf
  refine ⟨?_⟩
  have : (chsN l).length = nCh l := by unfold chsN; simp
  rw [this]
  exact hJ
theorem chunkA (G : Glob) (l : List (List FV)) : AFn Tryz.prog G 86 [.lst 10 l, .v (.int .i64 16)] 0 [] (Is (.fn (.func 119) [] [.fp [.lst 10 l] 0, .fp [.v (.int .i64 16)] 0])) := by
 refine afn_of Tryz.func86 rfl (by kernel_rfl) (by kernel_rfl) ?_
 conv=>whnf
 exact aendClo [(0, 41, [.lst 10 l]), (1, 3, [.v (.int .i64 16)])] ⟨rfl, rfl, rfl⟩ (fun p hp => by
  rcases List.mem_cons.1 hp with rfl | hp
  ·rfl
  ·rw [List.mem_singleton.1 hp]; rfl)
end Go.Proofs.YtocckceefcmeaaaGreatDoor.Ax
namespace Go.Proofs.YtocckceefcmeaaaGreatDoor.Cl
open Go Go.RowKit Go.Proofs Go.Proofs.YtocckceefcmeaaaGreatDoor.Vc Go.Proofs.YtocckceefcmeaaaGreatDoor.Ax Go.Proofs.YtocckceefcmeaaaGreatDoor.Ky
attribute [local irreducible] loadVar storeVar Instr.indexAt Instr.index Instr.sliceAt Instr.makeSlice Instr.lookup Instr.mapUpdate Instr.range Instr.next Instr.entry Instr.makeMap Builtin.append_ Builtin.copy_ Builtin.len_ Builtin.min_ Builtin.max_ Builtin.cap_ Builtin.delete_ Builtin.clear_ convert binOp eqGuard Op.unary Calls
section
attribute [local irreducible] best ints en bd txs dsT
structure EvV (e : Ev) : Prop where
 s1 : e.client.length ≤ 200
 s2 : e.id.length ≤ 200
 s3 : e.name.length ≤ 200
 s4 : e.other.length ≤ 200
 tm : -4611686018427387904 ≤ e.time ∧ e.time ≤ 4611686018427387904
theorem evC_V {e : Ev} (h : evC e = 0) : EvV e := by
 have key : ∀ s : By, kyB s = true → s.length ≤ 200 := fun s hs => by
  have : (⟨s.toArray⟩ : ByteArray).size ≤ 32 := key_short hs
  have e : (⟨s.toArray⟩ : ByteArray).size = s.length := rfl
  omega
 unfold evC at h
 split at h
 ·simp at h
 rename_i h1
 split at h
 ·simp at h
 rename_i h2
 split at h
 ·simp at h
 rename_i h3
 split at h
 ·simp at h
 split at h
 ·simp at h
 split at h
 ·simp at h
 rename_i h4
 have h1 : e.kind = 1 ∨ e.kind = 2 ∨ e.kind = 3 := Classical.byContradiction h1
 have k1 : kyB e.client = true := by cases hk : kyB e.client <;> simp_all
 have k2 : kyB e.id = true := by cases hk : kyB e.id <;> simp_all
 refine ⟨key _ k1, key _ k2, ?_, ?_, by omega⟩
 ·rcases h1 with c | c | c
  ·exact key _ (by cases hk : kyB e.name <;> simp_all)
  ·exact key _ (by cases hk : kyB e.name <;> simp_all)
  ·have : e.name = [] := Classical.byContradiction fun hn => h4 (.inr (.inr ⟨c, .inl hn⟩))
   rw [this]; simp
 ·rcases h1 with c | c | c
  ·have : e.other = [] := Classical.byContradiction fun hn => h4 (.inl ⟨c, .inl hn⟩)
   rw [this]; simp
  ·have : e.other = [] := Classical.byContradiction fun hn => h4 (.inr (.inl ⟨c, .inl hn⟩))
   rw [this]; simp
  ·exact key _ (by cases hk : kyB e.other <;> simp_all)
def ch (l : List Ev) (i : Nat) : List Ev := (l.drop (16 * i)).take 16
def nC (l : List Ev) : Nat := (l.length + 15) / 16
def tabA (l : List Ev) (i : Nat) : By := num (l.length : Int) ++ (List.range i).flatMap fun j => chb (ch l j)
def tab (l : List Ev) : By := tabA l (nC l)
def evsC (l : List Ev) : Int := match l with | [] => 0 | e :: r => if evC e ≠ 0 then evC e else evsC r
def tbE (l : List Ev) : Int := if 512 < l.length then 5 else evsC l
def tbB (l : List Ev) : By := if tbE l = 0 then tab l else []
theorem evsC_take {l : List Ev} {i : Nat} (hi : i < l.length) (h : evsC (l.take i) = 0) : evsC (l.take (i + 1)) = evC l[i] ∧ (evC l[i] ≠ 0 → evsC l = evC l[i]) := by
 induction l generalizing i with
 | nil => simp at hi
 | cons e r ih =>
  cases i with
  | zero =>
   simp only [List.take_succ_cons, List.take_zero, evsC, List.getElem_cons_zero]
   by_cases hc : evC e = 0
   ·simp [hc]
   ·simp [hc]
  | succ i =>
   simp only [List.take_succ_cons, evsC, List.getElem_cons_succ] at h ⊢
   by_cases hc : evC e = 0
   ·simp only [hc, ne_eq, not_true, if_false] at h ⊢
    exact ih (by simpa using hi) h
   ·simp only [hc, ne_eq, not_false_eq_true, if_true] at h
theorem evsC_all {l : List Ev} (h : evsC l = 0) : ∀ e ∈ l, evC e = 0 := by
 induction l with
 | nil => intro e he; cases he
 | cons x r ih =>
  unfold evsC at h
  by_cases hc : evC x = 0
  ·rw [if_neg (by simp [hc])] at h
   intro e he
   rcases List.mem_cons.1 he with rfl | he
   ·exact hc
   ·exact ih h e he
  ·rw [if_pos hc] at h; exact absurd h hc
theorem ch_lok {l : List Ev} (hok : ∀ e ∈ l, e.ok) (hv : ∀ e ∈ l, evC e = 0) {i : Nat} (hi : i < nC l) : LOK (ch l i) := by
 have sub : ∀ e ∈ ch l i, e ∈ l := fun e he => List.mem_of_mem_drop (List.mem_of_mem_take he)
 have hV : ∀ e ∈ ch l i, EvV e := fun e he => evC_V (hv e (sub e he))
 refine ⟨fun h0 => ?_, by unfold ch; rw [List.length_take]; omega, fun e he => hok e (sub e he), fun e he => (hV e he).s1, fun e he => (hV e he).s2, fun e he => (hV e he).s3, fun e he => (hV e he).s4, fun e he => (hV e he).tm⟩
 have := congrArg List.length h0
 unfold ch at this
 rw [List.length_take, List.length_drop] at this
 unfold nC at hi
 simp at this
 omega
theorem chN_map (l : List Ev) (i : Nat) : chN (l.map enE) i = (ch l i).map enE := by unfold chN ch; rw [List.map_take, List.map_drop]
theorem tabA_succ (l : List Ev) (i : Nat) : tabA l (i + 1) = tabA l i ++ chb (ch l i) := by
 unfold tabA; rw [List.range_succ, List.flatMap_append]; simp
theorem chb_len {l : List Ev} (h : LOK l) : (chb l).length ≤ 70040 := by
 have := bdA_len h 4
 change (bdy l).length ≤ 70000 at this
 have n1 := num_len (lims l).1
 have n2 := num_len (lims l).2
 have n3 := num_len ((bdy l).length : Int)
 unfold chb
 simp only [List.length_append]
 omega
theorem tabA_len {l : List Ev} (hok : ∀ e ∈ l, e.ok) (hv : ∀ e ∈ l, evC e = 0) : ∀ i, i ≤ nC l → (tabA l i).length ≤ 10 + 70040 * i := by
 intro i
 induction i with
 | zero => intro _; have := num_len (l.length : Int); unfold tabA; simp; omega
 | succ i ih =>
  intro hi
  have h1 := ih (by omega)
  have h2 := chb_len (ch_lok hok hv (show i < nC l by omega))
  rw [tabA_succ, List.length_append]
  omega
theorem table1A (l : List Ev) (hok : ∀ e ∈ l, e.ok) (hl : l.length ≤ 1000000) : AFn Tryz.prog GS 56 [el l] 0 [] (Is (.tup [bs (tbB l), iv (tbE l)])) := by
 refine afnY_of Tryz.func56 rfl mixed (by kernel_rfl) ?_
 conv=>whnf
 apply vif_split <;> intro h
 ·have h5 : 512 < l.length := by simp at h; omega
  conv=>whnf
  refine aend (.tup [bs (tbB l), iv (tbE l)]) 0 [] [] [] ⟨rfl, rfl, rfl⟩ rfl trivial ?_
  unfold tbB tbE
  simp only [h5, if_true]
  exact ⟨rfl, rfl, trivial⟩
 have h5 : l.length ≤ 512 := by simp at h; omega
 have e5 : tbE l = evsC l := by unfold tbE; rw [if_neg (by omega)]
 conv=>whnf
 refine aloop ws56_1 0 [14] (fun i : Nat => [(14, iv i)]) (fun _ => []) (fun i => i ≤ l.length ∧ evsC (l.take i) = 0) (fun i => l.length - i) [] [] 0 (by kernel_rfl) (fun _ => rfl) rfl ⟨Nat.zero_le _, rfl⟩ trivial ⟨rfl, trivial⟩ ?_
 rintro i ⟨hi, hz⟩
 conv=>whnf
 apply vif_split <;> intro h
 ·have hlt : i < l.length := by simp at h; omega
  have hk := evsC_take hlt hz
  conv=>whnf
  refine AIn.mk' i rfl (lmZ hlt) ?_
  conv=>whnf
  refine ARd.mapAt (List.getElem?_eq_getElem hlt) ?_
  conv=>whnf
  (refine acall [] (by kernel_rfl) (check1A l[i] (hok _ (List.getElem_mem hlt))) rfl ?_ ?_; (focus trivial))
  generalize evC l[i] = c at *
  conv=>whnf
  apply vif_split <;> intro h
  ·have hc : c ≠ 0 := by simpa using h
   conv=>whnf
   refine aend (.tup [bs (tbB l), iv (tbE l)]) 0 [] [] [] ⟨rfl, rfl, rfl⟩ rfl trivial ?_
   have e6 : tbE l = c := by rw [e5]; exact hk.2 hc
   unfold tbB
   rw [e6, if_neg hc]
   exact ⟨rfl, rfl, trivial⟩
  ·have hc : c = 0 := by simpa using h
   conv=>whnf
   refine AAr.i64 (by omega) ?_
   conv=>whnf
   exact aback (i + 1) [] [] rfl (by show l.length - (i + 1) < l.length - i; omega) ⟨hlt, hk.1.trans hc⟩ trivial ⟨rfl, trivial⟩
 have hie : i = l.length := by simp at h; omega
 subst hie
 rw [List.take_length] at hz
 have hv := evsC_all hz
 rw [hz] at e5
 have etb : tbB l = tab l := by unfold tbB; rw [if_pos e5]
 rw [etb, e5]
 conv=>whnf
 rw [List.length_map]
 (refine acallF [] (by kernel_rfl) (AFn.up (putA [] (l.length : Int) (i64_nat (by omega)) (by simp)) GS) ?_ ?_; (focus trivial))
 rintro _ _ _ ⟨rfl, rfl, rfl⟩
 conv=>whnf
 (refine acallF [] (by kernel_rfl) (chunkA GS (l.map enE)) ?_ ?_; (focus trivial))
 rintro _ _ _ ⟨rfl, rfl, rfl⟩
 conv=>whnf
 have hnC : (chsN (l.map enE)).length = nC l := by unfold chsN nCh nC; simp
 refine arange (chunkI GS (l.map enE) (by rw [List.length_map]; omega)) 3 (fun i => [(1, .var 22 [.own 2]), (2, .rows 5 1 ((tabA l i).map enB))]) [(2, .lab 0)] [] rfl (by kernel_rfl) rfl (fun x hx => ?_) rfl ⟨⟨rfl, rfl, trivial⟩, ⟨rfl, rfl, ?_⟩, trivial⟩ (fun i x hx => ?_) ?_
 ·obtain ⟨j, _, rfl⟩ := List.mem_map.1 hx
  rfl
 ·show ([] ++ num (l.length : Int)).map enB = (tabA l 0).map enB
  unfold tabA
  simp
 ·have hlt : i < nC l := by
   rw [← hnC]
   exact (List.getElem?_eq_some_iff.1 hx).1
  have hx' : x = [.lst 10 ((ch l i).map enE)] := by
   unfold chsN at hx
   rw [List.getElem?_map, List.getElem?_range (by unfold nCh; rw [List.length_map]; exact hlt)] at hx
   injection hx with hx
   rw [← hx]; show [AV.lst 10 (chN (l.map enE) i)] = _; rw [chN_map]
  subst hx'
  conv=>whnf
  have hlok := ch_lok hok hv hlt
  have hcl := chb_len hlok
  have hta := tabA_len hok hv i (by omega)
  have hnc : nC l ≤ 32 := by unfold nC; omega
  (refine adraw pln56 [] (by kernel_rfl) ?_; conv=>whnf)
  repeat' (first
   | (refine And.intro ?_ ?_ <;> (conv=>whnf))
   | ((refine acallF [] (by kernel_rfl) (chunkBA (ch l i) hlok) ?_ ?_; (focus trivial)); rintro _ _ _ ⟨rfl, rfl, rfl⟩; conv=>whnf)
   | (refine VReq.mk (app_ok (by simp only [List.length_map]; omega) (by kernel_rfl)) ?_; conv=>whnf))
  refine arback [(2, .lab 3)] [] rfl ⟨⟨rfl, rfl, trivial⟩, ⟨rfl, rfl, ?_⟩, trivial⟩
  rw [tabA_succ, List.map_append]
 ·rw [hnC]
  conv=>whnf
  exact aend (.tup [bs (tab l), iv 0]) 0 [] [] [2] ⟨rfl, rfl, rfl⟩ rfl trivial ⟨⟨rfl, rfl, rfl⟩, rfl, trivial⟩
end
end Go.Proofs.YtocckceefcmeaaaGreatDoor.Cl
