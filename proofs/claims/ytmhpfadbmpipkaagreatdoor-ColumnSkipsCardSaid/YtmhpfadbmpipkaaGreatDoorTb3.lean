/- The walk of column's chunk. Condition: sizes. -/
import Derived.Test.YtmhpfadbmpipkaaGreatDoorTb2
import Derived.Test.YtmhpfadbmpipkaaGreatDoorCt3
set_option linter.unusedVariables false
set_option linter.unusedSimpArgs false
namespace Go.Proofs.YtmhpfadbmpipkaaGreatDoor.Cl
open Go Go.RowKit Go.Proofs Go.Proofs.YtmhpfadbmpipkaaGreatDoor.Vc Go.Proofs.YtmhpfadbmpipkaaGreatDoor.Ax
attribute [local irreducible] loadVar storeVar Instr.indexAt Instr.index Instr.sliceAt Instr.makeSlice Instr.lookup Instr.mapUpdate Instr.range Instr.next Instr.entry Instr.makeMap Builtin.append_ Builtin.copy_ Builtin.len_ Builtin.min_ Builtin.max_ Builtin.cap_ Builtin.delete_ Builtin.clear_ convert binOp eqGuard Op.unary Calls
attribute [local irreducible] best ints en bd txs dsT
/-- the columns of a chunk -/
def bdy (l : List Ev) : By := txs (l.map (·.client)) ++ ints (l.map (·.seq)) ++ ints (l.map (·.kind)) ++ ints (l.map (·.time)) ++ txs (l.map (·.id)) ++ txs (l.map (·.name)) ++ txs (l.map (·.other)) ++ ints (l.map (·.ver)) ++ ints (l.map (·.arm)) ++ ints (l.map (·.val))
/-- a chunk -/
def chb (l : List Ev) : By := num (lims l).1 ++ num (lims l).2 ++ num ((bdy l).length : Int) ++ bdy l
def bdA (l : List Ev) (i : Nat) : By :=
  match i with
  | 0 => []
  | 1 => txs (l.map (·.client)) ++ ints (l.map (·.seq)) ++ ints (l.map (·.kind)) ++ ints (l.map (·.time))
  | 2 => txs (l.map (·.client)) ++ ints (l.map (·.seq)) ++ ints (l.map (·.kind)) ++ ints (l.map (·.time)) ++ txs (l.map (·.id))
  | 3 => txs (l.map (·.client)) ++ ints (l.map (·.seq)) ++ ints (l.map (·.kind)) ++ ints (l.map (·.time)) ++ txs (l.map (·.id)) ++ txs (l.map (·.name))
  | _ => bdy l
def pfN (b x y z : By) (j : Nat) : By :=
  match j with
  | 0 => b
  | 1 => b ++ x
  | 2 => b ++ x ++ y
  | _ => b ++ x ++ y ++ z
abbrev colsL : List (List FV) := [[fV 73, .lst 1 [[fV 74], [fV 75], [fV 76]]],
    [fV 77, .v (.slice none 0 0)], [fV 78, .v (.slice none 0 0)], [fV 79, .lst 1 [[fV 80], [fV 81], [fV 82]]]]
structure LOK (l : List Ev) : Prop where
  ne : l ≠ []
  len : l.length ≤ 16
  ok : ∀ e ∈ l, e.ok
  s1 : ∀ e ∈ l, e.client.length ≤ 200
  s2 : ∀ e ∈ l, e.id.length ≤ 200
  s3 : ∀ e ∈ l, e.name.length ≤ 200
  s4 : ∀ e ∈ l, e.other.length ≤ 200
  tm : ∀ e ∈ l, -4611686018427387904 ≤ e.time ∧ e.time ≤ 4611686018427387904
theorem tok_map {l : List Ev} {f : Ev → By} (h : ∀ e ∈ l, (f e).length ≤ 200) : TOK (l.map f) := fun s hs => by
  obtain ⟨e, he, rfl⟩ := List.mem_map.1 hs
  exact h e he
theorem all_map {l : List Ev} {f : Ev → Int} (h : ∀ e ∈ l, I64 (f e)) : AllI (l.map f) := fun s hs => by
  obtain ⟨e, he, rfl⟩ := List.mem_map.1 hs
  exact h e he
theorem bdA_len {l : List Ev} (h : LOK l) (i : Nat) : (bdA l i).length ≤ 70000 := by
  have hl := h.len
  have t1 := txs_len (l.map (·.client)) (tok_map h.s1) (by rw [List.length_map]; omega)
  have t2 := txs_len (l.map (·.id)) (tok_map h.s2) (by rw [List.length_map]; omega)
  have t3 := txs_len (l.map (·.name)) (tok_map h.s3) (by rw [List.length_map]; omega)
  have t4 := txs_len (l.map (·.other)) (tok_map h.s4) (by rw [List.length_map]; omega)
  have i1 := ints_short (l.map (·.seq)) (by rw [List.length_map]; omega)
  have i2 := ints_short (l.map (·.kind)) (by rw [List.length_map]; omega)
  have i3 := ints_short (l.map (·.time)) (by rw [List.length_map]; omega)
  have i4 := ints_short (l.map (·.ver)) (by rw [List.length_map]; omega)
  have i5 := ints_short (l.map (·.arm)) (by rw [List.length_map]; omega)
  have i6 := ints_short (l.map (·.val)) (by rw [List.length_map]; omega)
  simp only [List.length_map] at t1 t2 t3 t4
  match i with
  | 0 => simp [bdA]
  | 1 => simp only [bdA, List.length_append]; omega
  | 2 => simp only [bdA, List.length_append]; omega
  | 3 => simp only [bdA, List.length_append]; omega
  | n + 4 => simp only [bdA, bdy, List.length_append]; omega
theorem lims_rng {l : List Ev} (h : LOK l) : I64 (lims l).1 ∧ I64 (lims l).2 := by
  cases l with
  | nil => exact absurd rfl h.ne
  | cons e r =>
    have := loT_rng (a := e.time) (h.tm e List.mem_cons_self) h.tm
    unfold lims I64
    simp only
    omega
theorem limits1LA (l : List Ev) (h : LOK l) : AFn Tryz.prog GS 42 [el l] 0 [] (Is (.tup [iv (lims l).1, iv (lims l).2])) := by
  cases l with
  | nil => exact absurd rfl h.ne
  | cons e r => exact limits1A e r (by have := h.len; omega)
theorem limits2LA (l : List Ev) (h : LOK l) : AFn Tryz.prog GS 25 [el l] 0 [] (Is (.tup [iv (lims l).1, iv (lims l).2])) := by
  cases l with
  | nil => exact absurd rfl h.ne
  | cons e r => exact limits2A e r (by have := h.len; omega)
set_option maxHeartbeats 16000000 in
set_option maxRecDepth 100000 in
theorem chunkBA (l : List Ev) (h : LOK l) : AFn Tryz.prog GS 22 [el l] 0 [] (Is (bs (chb l))) := by
  have hlen := h.len
  refine afn_of Tryz.func22 rfl mixed (by kernel_rfl) ?_
  conv => whnf
  (refine acallF [] (by kernel_rfl) (cloneEA l h.ne (by omega)) ?_ ?_; (focus (repeat' (first | rfl | trivial | apply And.intro))))
  rintro _ _ _ ⟨rfl, rfl, rfl⟩
  conv => whnf
  (refine acallF [] (by kernel_rfl) (columnsA) ?_ ?_; (focus (repeat' (first | rfl | trivial | apply And.intro))))
  rintro _ _ _ ⟨rfl, rfl, rfl⟩
  conv => whnf
  refine aloop ws22_1 3 [3, 18] (fun i : Nat => [(3, .own 2), (18, iv i)]) (fun i => [(2, .rows 5 1 ((bdA l i).map enB)), (1, .rows 93 2 colsL), (0, .rows 38 10 (l.map enE))]) (fun i => i ≤ 4) (fun i => 4 - i) [(2, .nil)] [] 0 (by kernel_rfl) (fun _ => rfl) rfl (Nat.zero_le _) ⟨rfl, ⟨rfl, rfl, rfl⟩, ⟨rfl, rfl, rfl⟩, trivial⟩ ⟨trivial, rfl, trivial⟩ ?_
  intro i hi
  have hcs : i = 0 ∨ i = 1 ∨ i = 2 ∨ i = 3 ∨ i = 4 := by omega
  rcases hcs with rfl | rfl | rfl | rfl | rfl
  · conv => whnf
    refine AIn.mk' 0 rfl (by decide) ?_
    conv => whnf
    refine ARd.at rfl ?_
    conv => whnf
    refine aloop ws22_2 5 [6, 24] (fun k : Nat => [(6, .own 4), (24, iv k)]) (fun k => [(4, .rows 9 1 (((l.take k).map (·.client)).map enT)), (3, .var 93 ((colsL.getD 0 []).map FV.up)), (2, .rows 5 1 ((bdA l 0).map enB)), (1, .rows 93 2 colsL), (0, .rows 38 10 (l.map enE))]) (fun k => k ≤ l.length) (fun k => l.length - k) [(4, .nil)] [] 0 (by kernel_rfl) (fun _ => rfl) rfl (Nat.zero_le _) ⟨rfl, (by repeat' (first | rfl | trivial | apply And.intro)), ⟨rfl, rfl, rfl⟩, ⟨rfl, rfl, rfl⟩, ⟨rfl, rfl, rfl⟩, trivial⟩ ⟨trivial, rfl, trivial⟩ ?_
    intro k hk
    conv => whnf
    refine vif_split (fun hb => ?_) (fun hb => ?_)
    · have hlt : k < l.length := by simp at hb; omega
      conv => whnf
      (refine adraw pln22 [4, 5, 6] (by kernel_rfl) ?_; conv => whnf)
      refine AIn.mk' k rfl (by rw [List.length_map]; exact hlt) ?_
      conv => whnf
      (refine acallI (by kernel_rfl) (afn_of Tryz.func73 rfl mixed (by kernel_rfl) ?_); (conv => whnf))
      refine aendE (.ep 0 k 0) ?_ rfl ?_ ?_
      rotate_left 1
      · repeat' (first | rfl | trivial | apply And.intro)
      · repeat' (first | rfl | trivial | apply And.intro)
      conv => whnf
      refine ARd.mapAt (List.getElem?_eq_getElem hlt) ?_
      conv => whnf
      refine VReq.mk (app_ok (by simp only [List.length_map, List.length_append, List.length_cons, List.length_nil, List.length_take]; omega) (by kernel_rfl)) ?_
      conv => whnf
      refine AAr.i64 (by omega) ?_
      conv => whnf
      refine aback (k + 1) [(4, .lab 6)] [] rfl (by show l.length - (k + 1) < l.length - k; omega) hlt ⟨⟨rfl, rfl, ?_⟩, (by repeat' (first | rfl | trivial | apply And.intro)), ⟨rfl, rfl, rfl⟩, ⟨rfl, rfl, rfl⟩, ⟨rfl, rfl, rfl⟩, trivial⟩ ⟨rfl, rfl, trivial⟩
      rw [List.take_succ_eq_append_getElem hlt, List.map_append]
      exact (enT_snoc _ _).symm
    have hke : k = l.length := by simp at hb; omega
    subst hke
    rw [List.take_length]
    conv => whnf
    have hml : (l.map (·.client)).length ≤ 512 := by rw [List.length_map]; omega
    (refine acallF [4] (by kernel_rfl) (AFn.up (textsA (l.map (·.client)) hml (tok_map h.s1)) GS) ?_ ?_; (focus (repeat' (first | rfl | trivial | apply And.intro))))
    rintro _ _ _ ⟨rfl, rfl, rfl⟩
    conv => whnf
    have hx0 : (txs (l.map (·.client))).length ≤ 8500 := by have := txs_len (l.map (·.client)) (tok_map h.s1) hml; rw [List.length_map] at this; omega
    have hbd := bdA_len h 0
    refine VReq.mk (app_ok (by simp only [List.length_map]; omega) (by kernel_rfl)) ?_
    conv => whnf
    refine aloop ws22_3 7 [3, 46] (fun j : Nat => [(3, .own 6), (46, iv j)]) (fun j => [(6, .rows 5 1 ((pfN (bdA l 0 ++ txs (l.map (·.client))) (ints (l.map (·.seq))) (ints (l.map (·.kind))) (ints (l.map (·.time))) j).map enB)), (3, .var 93 ((colsL.getD 0 []).map FV.up)), (1, .rows 93 2 colsL), (0, .rows 38 10 (l.map enE))]) (fun j => j ≤ 3) (fun j => 3 - j) [(6, .lab 5)] [] 0 (by kernel_rfl) (fun _ => rfl) rfl (Nat.zero_le _) ⟨⟨rfl, rfl, List.map_append.symm⟩, (by repeat' (first | rfl | trivial | apply And.intro)), ⟨rfl, rfl, rfl⟩, ⟨rfl, rfl, rfl⟩, trivial⟩ ⟨rfl, rfl, trivial⟩ ?_
    have hy1 := ints_short (l.map (·.seq)) (by rw [List.length_map]; omega)
    have hy2 := ints_short (l.map (·.kind)) (by rw [List.length_map]; omega)
    intro j hj
    have hcj : j = 0 ∨ j = 1 ∨ j = 2 ∨ j = 3 := by omega
    rcases hcj with rfl | rfl | rfl | rfl
    · conv => whnf
      refine AIn.mk' 0 rfl (by decide) ?_
      conv => whnf
      refine ARd.at rfl ?_
      conv => whnf
      refine aloop ws22_4 8 [10, 52] (fun k : Nat => [(10, .own 7), (52, iv k)]) (fun k => [(7, .rows 3 1 (((l.take k).map (·.seq)).map enI)), (6, .rows 5 1 ((bdA l 0 ++ txs (l.map (·.client))).map enB)), (3, .var 93 ((colsL.getD 0 []).map FV.up)), (1, .rows 93 2 colsL), (0, .rows 38 10 (l.map enE))]) (fun k => k ≤ l.length) (fun k => l.length - k) [(7, .nil)] [] 0 (by kernel_rfl) (fun _ => rfl) rfl (Nat.zero_le _) ⟨rfl, ⟨rfl, rfl, rfl⟩, (by repeat' (first | rfl | trivial | apply And.intro)), ⟨rfl, rfl, rfl⟩, ⟨rfl, rfl, rfl⟩, trivial⟩ ⟨trivial, rfl, trivial⟩ ?_
      intro k hk
      conv => whnf
      refine vif_split (fun hb => ?_) (fun hb => ?_)
      · have hlt : k < l.length := by simp at hb; omega
        conv => whnf
        refine AIn.mk' k rfl (by rw [List.length_map]; exact hlt) ?_
        conv => whnf
        (refine acallI (by kernel_rfl) (afn_of Tryz.func74 rfl mixed (by kernel_rfl) ?_); (conv => whnf))
        refine aendE (.ep 0 k 1) ?_ rfl ?_ ?_
        rotate_left 1
        · exact ⟨⟨rfl, rfl, rfl⟩, ⟨rfl, rfl, rfl⟩, (by repeat' (first | rfl | trivial | apply And.intro)), ⟨rfl, rfl, rfl⟩, ⟨rfl, rfl, rfl⟩, trivial⟩
        · repeat' (first | rfl | trivial | apply And.intro)
        conv => whnf
        refine ARd.mapAt (List.getElem?_eq_getElem hlt) ?_
        conv => whnf
        refine VReq.mk (app_ok (by simp only [List.length_map, List.length_append, List.length_cons, List.length_nil, List.length_take]; omega) (by kernel_rfl)) ?_
        conv => whnf
        refine AAr.i64 (by omega) ?_
        conv => whnf
        refine aback (k + 1) [(7, .lab 9)] [] rfl (by show l.length - (k + 1) < l.length - k; omega) hlt ⟨⟨rfl, rfl, ?_⟩, ⟨rfl, rfl, rfl⟩, (by repeat' (first | rfl | trivial | apply And.intro)), ⟨rfl, rfl, rfl⟩, ⟨rfl, rfl, rfl⟩, trivial⟩ ⟨rfl, rfl, trivial⟩
        rw [List.take_succ_eq_append_getElem hlt, List.map_append, List.map_append]
        rfl
      have hke : k = l.length := by simp at hb; omega
      subst hke
      rw [List.take_length]
      conv => whnf
      have hml : (l.map (·.seq)).length ≤ 512 := by rw [List.length_map]; omega
      (refine acallF [7] (by kernel_rfl) (AFn.up (intsA (l.map (·.seq)) (all_map fun e he => (h.ok e he).seq) hml) GS) ?_ ?_; (focus (repeat' (first | rfl | trivial | apply And.intro))))
      rintro _ _ _ ⟨rfl, rfl, rfl⟩
      conv => whnf
      have hx := ints_short (l.map (·.seq)) hml
      refine VReq.mk (app_ok (by simp only [List.length_map, List.length_append]; omega) (by kernel_rfl)) ?_
      conv => whnf
      refine AAr.i64 (by decide) ?_
      conv => whnf
      exact aback (0 + 1) [(6, .lab 8)] [] rfl (by decide) (by decide) ⟨⟨rfl, rfl, List.map_append.symm⟩, (by repeat' (first | rfl | trivial | apply And.intro)), ⟨rfl, rfl, rfl⟩, ⟨rfl, rfl, rfl⟩, trivial⟩ ⟨rfl, rfl, trivial⟩
    · conv => whnf
      refine AIn.mk' 1 rfl (by decide) ?_
      conv => whnf
      refine ARd.at rfl ?_
      conv => whnf
      refine aloop ws22_4 8 [10, 52] (fun k : Nat => [(10, .own 7), (52, iv k)]) (fun k => [(7, .rows 3 1 (((l.take k).map (·.kind)).map enI)), (6, .rows 5 1 ((bdA l 0 ++ txs (l.map (·.client)) ++ ints (l.map (·.seq))).map enB)), (3, .var 93 ((colsL.getD 0 []).map FV.up)), (1, .rows 93 2 colsL), (0, .rows 38 10 (l.map enE))]) (fun k => k ≤ l.length) (fun k => l.length - k) [(7, .nil)] [] 0 (by kernel_rfl) (fun _ => rfl) rfl (Nat.zero_le _) ⟨rfl, ⟨rfl, rfl, rfl⟩, (by repeat' (first | rfl | trivial | apply And.intro)), ⟨rfl, rfl, rfl⟩, ⟨rfl, rfl, rfl⟩, trivial⟩ ⟨trivial, rfl, trivial⟩ ?_
      intro k hk
      conv => whnf
      refine vif_split (fun hb => ?_) (fun hb => ?_)
      · have hlt : k < l.length := by simp at hb; omega
        conv => whnf
        refine AIn.mk' k rfl (by rw [List.length_map]; exact hlt) ?_
        conv => whnf
        (refine acallI (by kernel_rfl) (afn_of Tryz.func75 rfl mixed (by kernel_rfl) ?_); (conv => whnf))
        refine aendE (.ep 0 k 2) ?_ rfl ?_ ?_
        rotate_left 1
        · exact ⟨⟨rfl, rfl, rfl⟩, ⟨rfl, rfl, rfl⟩, (by repeat' (first | rfl | trivial | apply And.intro)), ⟨rfl, rfl, rfl⟩, ⟨rfl, rfl, rfl⟩, trivial⟩
        · repeat' (first | rfl | trivial | apply And.intro)
        conv => whnf
        refine ARd.mapAt (List.getElem?_eq_getElem hlt) ?_
        conv => whnf
        refine VReq.mk (app_ok (by simp only [List.length_map, List.length_append, List.length_cons, List.length_nil, List.length_take]; omega) (by kernel_rfl)) ?_
        conv => whnf
        refine AAr.i64 (by omega) ?_
        conv => whnf
        refine aback (k + 1) [(7, .lab 9)] [] rfl (by show l.length - (k + 1) < l.length - k; omega) hlt ⟨⟨rfl, rfl, ?_⟩, ⟨rfl, rfl, rfl⟩, (by repeat' (first | rfl | trivial | apply And.intro)), ⟨rfl, rfl, rfl⟩, ⟨rfl, rfl, rfl⟩, trivial⟩ ⟨rfl, rfl, trivial⟩
        rw [List.take_succ_eq_append_getElem hlt, List.map_append, List.map_append]
        rfl
      have hke : k = l.length := by simp at hb; omega
      subst hke
      rw [List.take_length]
      conv => whnf
      have hml : (l.map (·.kind)).length ≤ 512 := by rw [List.length_map]; omega
      (refine acallF [7] (by kernel_rfl) (AFn.up (intsA (l.map (·.kind)) (all_map fun e he => (h.ok e he).kind) hml) GS) ?_ ?_; (focus (repeat' (first | rfl | trivial | apply And.intro))))
      rintro _ _ _ ⟨rfl, rfl, rfl⟩
      conv => whnf
      have hx := ints_short (l.map (·.kind)) hml
      refine VReq.mk (app_ok (by simp only [List.length_map, List.length_append]; omega) (by kernel_rfl)) ?_
      conv => whnf
      refine AAr.i64 (by decide) ?_
      conv => whnf
      exact aback (1 + 1) [(6, .lab 8)] [] rfl (by decide) (by decide) ⟨⟨rfl, rfl, List.map_append.symm⟩, (by repeat' (first | rfl | trivial | apply And.intro)), ⟨rfl, rfl, rfl⟩, ⟨rfl, rfl, rfl⟩, trivial⟩ ⟨rfl, rfl, trivial⟩
    · conv => whnf
      refine AIn.mk' 2 rfl (by decide) ?_
      conv => whnf
      refine ARd.at rfl ?_
      conv => whnf
      refine aloop ws22_4 8 [10, 52] (fun k : Nat => [(10, .own 7), (52, iv k)]) (fun k => [(7, .rows 3 1 (((l.take k).map (·.time)).map enI)), (6, .rows 5 1 ((bdA l 0 ++ txs (l.map (·.client)) ++ ints (l.map (·.seq)) ++ ints (l.map (·.kind))).map enB)), (3, .var 93 ((colsL.getD 0 []).map FV.up)), (1, .rows 93 2 colsL), (0, .rows 38 10 (l.map enE))]) (fun k => k ≤ l.length) (fun k => l.length - k) [(7, .nil)] [] 0 (by kernel_rfl) (fun _ => rfl) rfl (Nat.zero_le _) ⟨rfl, ⟨rfl, rfl, rfl⟩, (by repeat' (first | rfl | trivial | apply And.intro)), ⟨rfl, rfl, rfl⟩, ⟨rfl, rfl, rfl⟩, trivial⟩ ⟨trivial, rfl, trivial⟩ ?_
      intro k hk
      conv => whnf
      refine vif_split (fun hb => ?_) (fun hb => ?_)
      · have hlt : k < l.length := by simp at hb; omega
        conv => whnf
        refine AIn.mk' k rfl (by rw [List.length_map]; exact hlt) ?_
        conv => whnf
        (refine acallI (by kernel_rfl) (afn_of Tryz.func76 rfl mixed (by kernel_rfl) ?_); (conv => whnf))
        refine aendE (.ep 0 k 3) ?_ rfl ?_ ?_
        rotate_left 1
        · exact ⟨⟨rfl, rfl, rfl⟩, ⟨rfl, rfl, rfl⟩, (by repeat' (first | rfl | trivial | apply And.intro)), ⟨rfl, rfl, rfl⟩, ⟨rfl, rfl, rfl⟩, trivial⟩
        · repeat' (first | rfl | trivial | apply And.intro)
        conv => whnf
        refine ARd.mapAt (List.getElem?_eq_getElem hlt) ?_
        conv => whnf
        refine VReq.mk (app_ok (by simp only [List.length_map, List.length_append, List.length_cons, List.length_nil, List.length_take]; omega) (by kernel_rfl)) ?_
        conv => whnf
        refine AAr.i64 (by omega) ?_
        conv => whnf
        refine aback (k + 1) [(7, .lab 9)] [] rfl (by show l.length - (k + 1) < l.length - k; omega) hlt ⟨⟨rfl, rfl, ?_⟩, ⟨rfl, rfl, rfl⟩, (by repeat' (first | rfl | trivial | apply And.intro)), ⟨rfl, rfl, rfl⟩, ⟨rfl, rfl, rfl⟩, trivial⟩ ⟨rfl, rfl, trivial⟩
        rw [List.take_succ_eq_append_getElem hlt, List.map_append, List.map_append]
        rfl
      have hke : k = l.length := by simp at hb; omega
      subst hke
      rw [List.take_length]
      conv => whnf
      have hml : (l.map (·.time)).length ≤ 512 := by rw [List.length_map]; omega
      (refine acallF [7] (by kernel_rfl) (AFn.up (intsA (l.map (·.time)) (all_map fun e he => (h.ok e he).time) hml) GS) ?_ ?_; (focus (repeat' (first | rfl | trivial | apply And.intro))))
      rintro _ _ _ ⟨rfl, rfl, rfl⟩
      conv => whnf
      have hx := ints_short (l.map (·.time)) hml
      refine VReq.mk (app_ok (by simp only [List.length_map, List.length_append]; omega) (by kernel_rfl)) ?_
      conv => whnf
      refine AAr.i64 (by decide) ?_
      conv => whnf
      exact aback (2 + 1) [(6, .lab 8)] [] rfl (by decide) (by decide) ⟨⟨rfl, rfl, List.map_append.symm⟩, (by repeat' (first | rfl | trivial | apply And.intro)), ⟨rfl, rfl, rfl⟩, ⟨rfl, rfl, rfl⟩, trivial⟩ ⟨rfl, rfl, trivial⟩
    · conv => whnf
      refine AAr.i64 (by decide) ?_
      conv => whnf
      exact aback 1 [(2, .lab 6)] [] rfl (by decide) (by decide) ⟨⟨rfl, rfl, rfl⟩, ⟨rfl, rfl, rfl⟩, ⟨rfl, rfl, rfl⟩, trivial⟩ ⟨rfl, rfl, trivial⟩
  · conv => whnf
    refine AIn.mk' 1 rfl (by decide) ?_
    conv => whnf
    refine ARd.at rfl ?_
    conv => whnf
    refine aloop ws22_2 5 [6, 24] (fun k : Nat => [(6, .own 4), (24, iv k)]) (fun k => [(4, .rows 9 1 (((l.take k).map (·.id)).map enT)), (3, .var 93 ((colsL.getD 1 []).map FV.up)), (2, .rows 5 1 ((bdA l 1).map enB)), (1, .rows 93 2 colsL), (0, .rows 38 10 (l.map enE))]) (fun k => k ≤ l.length) (fun k => l.length - k) [(4, .nil)] [] 0 (by kernel_rfl) (fun _ => rfl) rfl (Nat.zero_le _) ⟨rfl, (by repeat' (first | rfl | trivial | apply And.intro)), ⟨rfl, rfl, rfl⟩, ⟨rfl, rfl, rfl⟩, ⟨rfl, rfl, rfl⟩, trivial⟩ ⟨trivial, rfl, trivial⟩ ?_
    intro k hk
    conv => whnf
    refine vif_split (fun hb => ?_) (fun hb => ?_)
    · have hlt : k < l.length := by simp at hb; omega
      conv => whnf
      (refine adraw pln22 [4, 5, 6] (by kernel_rfl) ?_; conv => whnf)
      refine AIn.mk' k rfl (by rw [List.length_map]; exact hlt) ?_
      conv => whnf
      (refine acallI (by kernel_rfl) (afn_of Tryz.func77 rfl mixed (by kernel_rfl) ?_); (conv => whnf))
      refine aendE (.ep 0 k 4) ?_ rfl ?_ ?_
      rotate_left 1
      · repeat' (first | rfl | trivial | apply And.intro)
      · repeat' (first | rfl | trivial | apply And.intro)
      conv => whnf
      refine ARd.mapAt (List.getElem?_eq_getElem hlt) ?_
      conv => whnf
      refine VReq.mk (app_ok (by simp only [List.length_map, List.length_append, List.length_cons, List.length_nil, List.length_take]; omega) (by kernel_rfl)) ?_
      conv => whnf
      refine AAr.i64 (by omega) ?_
      conv => whnf
      refine aback (k + 1) [(4, .lab 6)] [] rfl (by show l.length - (k + 1) < l.length - k; omega) hlt ⟨⟨rfl, rfl, ?_⟩, (by repeat' (first | rfl | trivial | apply And.intro)), ⟨rfl, rfl, rfl⟩, ⟨rfl, rfl, rfl⟩, ⟨rfl, rfl, rfl⟩, trivial⟩ ⟨rfl, rfl, trivial⟩
      rw [List.take_succ_eq_append_getElem hlt, List.map_append]
      exact (enT_snoc _ _).symm
    have hke : k = l.length := by simp at hb; omega
    subst hke
    rw [List.take_length]
    conv => whnf
    have hml : (l.map (·.id)).length ≤ 512 := by rw [List.length_map]; omega
    (refine acallF [4] (by kernel_rfl) (AFn.up (textsA (l.map (·.id)) hml (tok_map h.s2)) GS) ?_ ?_; (focus (repeat' (first | rfl | trivial | apply And.intro))))
    rintro _ _ _ ⟨rfl, rfl, rfl⟩
    conv => whnf
    have hx1 : (txs (l.map (·.id))).length ≤ 8500 := by have := txs_len (l.map (·.id)) (tok_map h.s2) hml; rw [List.length_map] at this; omega
    have hbd := bdA_len h 1
    refine VReq.mk (app_ok (by simp only [List.length_map]; omega) (by kernel_rfl)) ?_
    conv => whnf
    refine aloop ws22_3 6 [3, 46] (fun j : Nat => [(3, .own 5), (46, iv 0)]) (fun j => [(5, .rows 5 1 ((bdA l 1 ++ txs (l.map (·.id))).map enB)), (1, .rows 93 2 colsL), (0, .rows 38 10 (l.map enE))]) (fun j => j = 0) (fun j => j) [] [] 0 (by kernel_rfl) (fun _ => rfl) rfl rfl ⟨⟨rfl, rfl, List.map_append.symm⟩, ⟨rfl, rfl, rfl⟩, ⟨rfl, rfl, rfl⟩, trivial⟩ ⟨⟨rfl, rfl⟩, rfl, trivial⟩ ?_
    intro j hj
    conv => whnf
    refine AAr.i64 (by decide) ?_
    conv => whnf
    exact aback (1 + 1) [(2, .lab 5)] [] rfl (by decide) (by decide) ⟨⟨rfl, rfl, rfl⟩, ⟨rfl, rfl, rfl⟩, ⟨rfl, rfl, rfl⟩, trivial⟩ ⟨rfl, rfl, trivial⟩
  · conv => whnf
    refine AIn.mk' 2 rfl (by decide) ?_
    conv => whnf
    refine ARd.at rfl ?_
    conv => whnf
    refine aloop ws22_2 5 [6, 24] (fun k : Nat => [(6, .own 4), (24, iv k)]) (fun k => [(4, .rows 9 1 (((l.take k).map (·.name)).map enT)), (3, .var 93 ((colsL.getD 2 []).map FV.up)), (2, .rows 5 1 ((bdA l 2).map enB)), (1, .rows 93 2 colsL), (0, .rows 38 10 (l.map enE))]) (fun k => k ≤ l.length) (fun k => l.length - k) [(4, .nil)] [] 0 (by kernel_rfl) (fun _ => rfl) rfl (Nat.zero_le _) ⟨rfl, (by repeat' (first | rfl | trivial | apply And.intro)), ⟨rfl, rfl, rfl⟩, ⟨rfl, rfl, rfl⟩, ⟨rfl, rfl, rfl⟩, trivial⟩ ⟨trivial, rfl, trivial⟩ ?_
    intro k hk
    conv => whnf
    refine vif_split (fun hb => ?_) (fun hb => ?_)
    · have hlt : k < l.length := by simp at hb; omega
      conv => whnf
      (refine adraw pln22 [4, 5, 6] (by kernel_rfl) ?_; conv => whnf)
      refine AIn.mk' k rfl (by rw [List.length_map]; exact hlt) ?_
      conv => whnf
      (refine acallI (by kernel_rfl) (afn_of Tryz.func78 rfl mixed (by kernel_rfl) ?_); (conv => whnf))
      refine aendE (.ep 0 k 5) ?_ rfl ?_ ?_
      rotate_left 1
      · repeat' (first | rfl | trivial | apply And.intro)
      · repeat' (first | rfl | trivial | apply And.intro)
      conv => whnf
      refine ARd.mapAt (List.getElem?_eq_getElem hlt) ?_
      conv => whnf
      refine VReq.mk (app_ok (by simp only [List.length_map, List.length_append, List.length_cons, List.length_nil, List.length_take]; omega) (by kernel_rfl)) ?_
      conv => whnf
      refine AAr.i64 (by omega) ?_
      conv => whnf
      refine aback (k + 1) [(4, .lab 6)] [] rfl (by show l.length - (k + 1) < l.length - k; omega) hlt ⟨⟨rfl, rfl, ?_⟩, (by repeat' (first | rfl | trivial | apply And.intro)), ⟨rfl, rfl, rfl⟩, ⟨rfl, rfl, rfl⟩, ⟨rfl, rfl, rfl⟩, trivial⟩ ⟨rfl, rfl, trivial⟩
      rw [List.take_succ_eq_append_getElem hlt, List.map_append]
      exact (enT_snoc _ _).symm
    have hke : k = l.length := by simp at hb; omega
    subst hke
    rw [List.take_length]
    conv => whnf
    have hml : (l.map (·.name)).length ≤ 512 := by rw [List.length_map]; omega
    (refine acallF [4] (by kernel_rfl) (AFn.up (textsA (l.map (·.name)) hml (tok_map h.s3)) GS) ?_ ?_; (focus (repeat' (first | rfl | trivial | apply And.intro))))
    rintro _ _ _ ⟨rfl, rfl, rfl⟩
    conv => whnf
    have hx2 : (txs (l.map (·.name))).length ≤ 8500 := by have := txs_len (l.map (·.name)) (tok_map h.s3) hml; rw [List.length_map] at this; omega
    have hbd := bdA_len h 2
    refine VReq.mk (app_ok (by simp only [List.length_map]; omega) (by kernel_rfl)) ?_
    conv => whnf
    refine aloop ws22_3 6 [3, 46] (fun j : Nat => [(3, .own 5), (46, iv 0)]) (fun j => [(5, .rows 5 1 ((bdA l 2 ++ txs (l.map (·.name))).map enB)), (1, .rows 93 2 colsL), (0, .rows 38 10 (l.map enE))]) (fun j => j = 0) (fun j => j) [] [] 0 (by kernel_rfl) (fun _ => rfl) rfl rfl ⟨⟨rfl, rfl, List.map_append.symm⟩, ⟨rfl, rfl, rfl⟩, ⟨rfl, rfl, rfl⟩, trivial⟩ ⟨⟨rfl, rfl⟩, rfl, trivial⟩ ?_
    intro j hj
    conv => whnf
    refine AAr.i64 (by decide) ?_
    conv => whnf
    exact aback (2 + 1) [(2, .lab 5)] [] rfl (by decide) (by decide) ⟨⟨rfl, rfl, rfl⟩, ⟨rfl, rfl, rfl⟩, ⟨rfl, rfl, rfl⟩, trivial⟩ ⟨rfl, rfl, trivial⟩
  · conv => whnf
    refine AIn.mk' 3 rfl (by decide) ?_
    conv => whnf
    refine ARd.at rfl ?_
    conv => whnf
    refine aloop ws22_2 5 [6, 24] (fun k : Nat => [(6, .own 4), (24, iv k)]) (fun k => [(4, .rows 9 1 (((l.take k).map (·.other)).map enT)), (3, .var 93 ((colsL.getD 3 []).map FV.up)), (2, .rows 5 1 ((bdA l 3).map enB)), (1, .rows 93 2 colsL), (0, .rows 38 10 (l.map enE))]) (fun k => k ≤ l.length) (fun k => l.length - k) [(4, .nil)] [] 0 (by kernel_rfl) (fun _ => rfl) rfl (Nat.zero_le _) ⟨rfl, (by repeat' (first | rfl | trivial | apply And.intro)), ⟨rfl, rfl, rfl⟩, ⟨rfl, rfl, rfl⟩, ⟨rfl, rfl, rfl⟩, trivial⟩ ⟨trivial, rfl, trivial⟩ ?_
    intro k hk
    conv => whnf
    refine vif_split (fun hb => ?_) (fun hb => ?_)
    · have hlt : k < l.length := by simp at hb; omega
      conv => whnf
      (refine adraw pln22 [4, 5, 6] (by kernel_rfl) ?_; conv => whnf)
      refine AIn.mk' k rfl (by rw [List.length_map]; exact hlt) ?_
      conv => whnf
      (refine acallI (by kernel_rfl) (afn_of Tryz.func79 rfl mixed (by kernel_rfl) ?_); (conv => whnf))
      refine aendE (.ep 0 k 6) ?_ rfl ?_ ?_
      rotate_left 1
      · repeat' (first | rfl | trivial | apply And.intro)
      · repeat' (first | rfl | trivial | apply And.intro)
      conv => whnf
      refine ARd.mapAt (List.getElem?_eq_getElem hlt) ?_
      conv => whnf
      refine VReq.mk (app_ok (by simp only [List.length_map, List.length_append, List.length_cons, List.length_nil, List.length_take]; omega) (by kernel_rfl)) ?_
      conv => whnf
      refine AAr.i64 (by omega) ?_
      conv => whnf
      refine aback (k + 1) [(4, .lab 6)] [] rfl (by show l.length - (k + 1) < l.length - k; omega) hlt ⟨⟨rfl, rfl, ?_⟩, (by repeat' (first | rfl | trivial | apply And.intro)), ⟨rfl, rfl, rfl⟩, ⟨rfl, rfl, rfl⟩, ⟨rfl, rfl, rfl⟩, trivial⟩ ⟨rfl, rfl, trivial⟩
      rw [List.take_succ_eq_append_getElem hlt, List.map_append]
      exact (enT_snoc _ _).symm
    have hke : k = l.length := by simp at hb; omega
    subst hke
    rw [List.take_length]
    conv => whnf
    have hml : (l.map (·.other)).length ≤ 512 := by rw [List.length_map]; omega
    (refine acallF [4] (by kernel_rfl) (AFn.up (textsA (l.map (·.other)) hml (tok_map h.s4)) GS) ?_ ?_; (focus (repeat' (first | rfl | trivial | apply And.intro))))
    rintro _ _ _ ⟨rfl, rfl, rfl⟩
    conv => whnf
    have hx3 : (txs (l.map (·.other))).length ≤ 8500 := by have := txs_len (l.map (·.other)) (tok_map h.s4) hml; rw [List.length_map] at this; omega
    have hbd := bdA_len h 3
    refine VReq.mk (app_ok (by simp only [List.length_map]; omega) (by kernel_rfl)) ?_
    conv => whnf
    refine aloop ws22_3 7 [3, 46] (fun j : Nat => [(3, .own 6), (46, iv j)]) (fun j => [(6, .rows 5 1 ((pfN (bdA l 3 ++ txs (l.map (·.other))) (ints (l.map (·.ver))) (ints (l.map (·.arm))) (ints (l.map (·.val))) j).map enB)), (3, .var 93 ((colsL.getD 3 []).map FV.up)), (1, .rows 93 2 colsL), (0, .rows 38 10 (l.map enE))]) (fun j => j ≤ 3) (fun j => 3 - j) [(6, .lab 5)] [] 0 (by kernel_rfl) (fun _ => rfl) rfl (Nat.zero_le _) ⟨⟨rfl, rfl, List.map_append.symm⟩, (by repeat' (first | rfl | trivial | apply And.intro)), ⟨rfl, rfl, rfl⟩, ⟨rfl, rfl, rfl⟩, trivial⟩ ⟨rfl, rfl, trivial⟩ ?_
    have hy1 := ints_short (l.map (·.ver)) (by rw [List.length_map]; omega)
    have hy2 := ints_short (l.map (·.arm)) (by rw [List.length_map]; omega)
    intro j hj
    have hcj : j = 0 ∨ j = 1 ∨ j = 2 ∨ j = 3 := by omega
    rcases hcj with rfl | rfl | rfl | rfl
    · conv => whnf
      refine AIn.mk' 0 rfl (by decide) ?_
      conv => whnf
      refine ARd.at rfl ?_
      conv => whnf
      refine aloop ws22_4 8 [10, 52] (fun k : Nat => [(10, .own 7), (52, iv k)]) (fun k => [(7, .rows 3 1 (((l.take k).map (·.ver)).map enI)), (6, .rows 5 1 ((bdA l 3 ++ txs (l.map (·.other))).map enB)), (3, .var 93 ((colsL.getD 3 []).map FV.up)), (1, .rows 93 2 colsL), (0, .rows 38 10 (l.map enE))]) (fun k => k ≤ l.length) (fun k => l.length - k) [(7, .nil)] [] 0 (by kernel_rfl) (fun _ => rfl) rfl (Nat.zero_le _) ⟨rfl, ⟨rfl, rfl, rfl⟩, (by repeat' (first | rfl | trivial | apply And.intro)), ⟨rfl, rfl, rfl⟩, ⟨rfl, rfl, rfl⟩, trivial⟩ ⟨trivial, rfl, trivial⟩ ?_
      intro k hk
      conv => whnf
      refine vif_split (fun hb => ?_) (fun hb => ?_)
      · have hlt : k < l.length := by simp at hb; omega
        conv => whnf
        refine AIn.mk' k rfl (by rw [List.length_map]; exact hlt) ?_
        conv => whnf
        (refine acallI (by kernel_rfl) (afn_of Tryz.func80 rfl mixed (by kernel_rfl) ?_); (conv => whnf))
        refine aendE (.ep 0 k 7) ?_ rfl ?_ ?_
        rotate_left 1
        · exact ⟨⟨rfl, rfl, rfl⟩, ⟨rfl, rfl, rfl⟩, (by repeat' (first | rfl | trivial | apply And.intro)), ⟨rfl, rfl, rfl⟩, ⟨rfl, rfl, rfl⟩, trivial⟩
        · repeat' (first | rfl | trivial | apply And.intro)
        conv => whnf
        refine ARd.mapAt (List.getElem?_eq_getElem hlt) ?_
        conv => whnf
        refine VReq.mk (app_ok (by simp only [List.length_map, List.length_append, List.length_cons, List.length_nil, List.length_take]; omega) (by kernel_rfl)) ?_
        conv => whnf
        refine AAr.i64 (by omega) ?_
        conv => whnf
        refine aback (k + 1) [(7, .lab 9)] [] rfl (by show l.length - (k + 1) < l.length - k; omega) hlt ⟨⟨rfl, rfl, ?_⟩, ⟨rfl, rfl, rfl⟩, (by repeat' (first | rfl | trivial | apply And.intro)), ⟨rfl, rfl, rfl⟩, ⟨rfl, rfl, rfl⟩, trivial⟩ ⟨rfl, rfl, trivial⟩
        rw [List.take_succ_eq_append_getElem hlt, List.map_append, List.map_append]
        rfl
      have hke : k = l.length := by simp at hb; omega
      subst hke
      rw [List.take_length]
      conv => whnf
      have hml : (l.map (·.ver)).length ≤ 512 := by rw [List.length_map]; omega
      (refine acallF [7] (by kernel_rfl) (AFn.up (intsA (l.map (·.ver)) (all_map fun e he => (h.ok e he).ver) hml) GS) ?_ ?_; (focus (repeat' (first | rfl | trivial | apply And.intro))))
      rintro _ _ _ ⟨rfl, rfl, rfl⟩
      conv => whnf
      have hx := ints_short (l.map (·.ver)) hml
      refine VReq.mk (app_ok (by simp only [List.length_map, List.length_append]; omega) (by kernel_rfl)) ?_
      conv => whnf
      refine AAr.i64 (by decide) ?_
      conv => whnf
      exact aback (0 + 1) [(6, .lab 8)] [] rfl (by decide) (by decide) ⟨⟨rfl, rfl, List.map_append.symm⟩, (by repeat' (first | rfl | trivial | apply And.intro)), ⟨rfl, rfl, rfl⟩, ⟨rfl, rfl, rfl⟩, trivial⟩ ⟨rfl, rfl, trivial⟩
    · conv => whnf
      refine AIn.mk' 1 rfl (by decide) ?_
      conv => whnf
      refine ARd.at rfl ?_
      conv => whnf
      refine aloop ws22_4 8 [10, 52] (fun k : Nat => [(10, .own 7), (52, iv k)]) (fun k => [(7, .rows 3 1 (((l.take k).map (·.arm)).map enI)), (6, .rows 5 1 ((bdA l 3 ++ txs (l.map (·.other)) ++ ints (l.map (·.ver))).map enB)), (3, .var 93 ((colsL.getD 3 []).map FV.up)), (1, .rows 93 2 colsL), (0, .rows 38 10 (l.map enE))]) (fun k => k ≤ l.length) (fun k => l.length - k) [(7, .nil)] [] 0 (by kernel_rfl) (fun _ => rfl) rfl (Nat.zero_le _) ⟨rfl, ⟨rfl, rfl, rfl⟩, (by repeat' (first | rfl | trivial | apply And.intro)), ⟨rfl, rfl, rfl⟩, ⟨rfl, rfl, rfl⟩, trivial⟩ ⟨trivial, rfl, trivial⟩ ?_
      intro k hk
      conv => whnf
      refine vif_split (fun hb => ?_) (fun hb => ?_)
      · have hlt : k < l.length := by simp at hb; omega
        conv => whnf
        refine AIn.mk' k rfl (by rw [List.length_map]; exact hlt) ?_
        conv => whnf
        (refine acallI (by kernel_rfl) (afn_of Tryz.func81 rfl mixed (by kernel_rfl) ?_); (conv => whnf))
        refine aendE (.ep 0 k 8) ?_ rfl ?_ ?_
        rotate_left 1
        · exact ⟨⟨rfl, rfl, rfl⟩, ⟨rfl, rfl, rfl⟩, (by repeat' (first | rfl | trivial | apply And.intro)), ⟨rfl, rfl, rfl⟩, ⟨rfl, rfl, rfl⟩, trivial⟩
        · repeat' (first | rfl | trivial | apply And.intro)
        conv => whnf
        refine ARd.mapAt (List.getElem?_eq_getElem hlt) ?_
        conv => whnf
        refine VReq.mk (app_ok (by simp only [List.length_map, List.length_append, List.length_cons, List.length_nil, List.length_take]; omega) (by kernel_rfl)) ?_
        conv => whnf
        refine AAr.i64 (by omega) ?_
        conv => whnf
        refine aback (k + 1) [(7, .lab 9)] [] rfl (by show l.length - (k + 1) < l.length - k; omega) hlt ⟨⟨rfl, rfl, ?_⟩, ⟨rfl, rfl, rfl⟩, (by repeat' (first | rfl | trivial | apply And.intro)), ⟨rfl, rfl, rfl⟩, ⟨rfl, rfl, rfl⟩, trivial⟩ ⟨rfl, rfl, trivial⟩
        rw [List.take_succ_eq_append_getElem hlt, List.map_append, List.map_append]
        rfl
      have hke : k = l.length := by simp at hb; omega
      subst hke
      rw [List.take_length]
      conv => whnf
      have hml : (l.map (·.arm)).length ≤ 512 := by rw [List.length_map]; omega
      (refine acallF [7] (by kernel_rfl) (AFn.up (intsA (l.map (·.arm)) (all_map fun e he => (h.ok e he).arm) hml) GS) ?_ ?_; (focus (repeat' (first | rfl | trivial | apply And.intro))))
      rintro _ _ _ ⟨rfl, rfl, rfl⟩
      conv => whnf
      have hx := ints_short (l.map (·.arm)) hml
      refine VReq.mk (app_ok (by simp only [List.length_map, List.length_append]; omega) (by kernel_rfl)) ?_
      conv => whnf
      refine AAr.i64 (by decide) ?_
      conv => whnf
      exact aback (1 + 1) [(6, .lab 8)] [] rfl (by decide) (by decide) ⟨⟨rfl, rfl, List.map_append.symm⟩, (by repeat' (first | rfl | trivial | apply And.intro)), ⟨rfl, rfl, rfl⟩, ⟨rfl, rfl, rfl⟩, trivial⟩ ⟨rfl, rfl, trivial⟩
    · conv => whnf
      refine AIn.mk' 2 rfl (by decide) ?_
      conv => whnf
      refine ARd.at rfl ?_
      conv => whnf
      refine aloop ws22_4 8 [10, 52] (fun k : Nat => [(10, .own 7), (52, iv k)]) (fun k => [(7, .rows 3 1 (((l.take k).map (·.val)).map enI)), (6, .rows 5 1 ((bdA l 3 ++ txs (l.map (·.other)) ++ ints (l.map (·.ver)) ++ ints (l.map (·.arm))).map enB)), (3, .var 93 ((colsL.getD 3 []).map FV.up)), (1, .rows 93 2 colsL), (0, .rows 38 10 (l.map enE))]) (fun k => k ≤ l.length) (fun k => l.length - k) [(7, .nil)] [] 0 (by kernel_rfl) (fun _ => rfl) rfl (Nat.zero_le _) ⟨rfl, ⟨rfl, rfl, rfl⟩, (by repeat' (first | rfl | trivial | apply And.intro)), ⟨rfl, rfl, rfl⟩, ⟨rfl, rfl, rfl⟩, trivial⟩ ⟨trivial, rfl, trivial⟩ ?_
      intro k hk
      conv => whnf
      refine vif_split (fun hb => ?_) (fun hb => ?_)
      · have hlt : k < l.length := by simp at hb; omega
        conv => whnf
        refine AIn.mk' k rfl (by rw [List.length_map]; exact hlt) ?_
        conv => whnf
        (refine acallI (by kernel_rfl) (afn_of Tryz.func82 rfl mixed (by kernel_rfl) ?_); (conv => whnf))
        refine aendE (.ep 0 k 9) ?_ rfl ?_ ?_
        rotate_left 1
        · exact ⟨⟨rfl, rfl, rfl⟩, ⟨rfl, rfl, rfl⟩, (by repeat' (first | rfl | trivial | apply And.intro)), ⟨rfl, rfl, rfl⟩, ⟨rfl, rfl, rfl⟩, trivial⟩
        · repeat' (first | rfl | trivial | apply And.intro)
        conv => whnf
        refine ARd.mapAt (List.getElem?_eq_getElem hlt) ?_
        conv => whnf
        refine VReq.mk (app_ok (by simp only [List.length_map, List.length_append, List.length_cons, List.length_nil, List.length_take]; omega) (by kernel_rfl)) ?_
        conv => whnf
        refine AAr.i64 (by omega) ?_
        conv => whnf
        refine aback (k + 1) [(7, .lab 9)] [] rfl (by show l.length - (k + 1) < l.length - k; omega) hlt ⟨⟨rfl, rfl, ?_⟩, ⟨rfl, rfl, rfl⟩, (by repeat' (first | rfl | trivial | apply And.intro)), ⟨rfl, rfl, rfl⟩, ⟨rfl, rfl, rfl⟩, trivial⟩ ⟨rfl, rfl, trivial⟩
        rw [List.take_succ_eq_append_getElem hlt, List.map_append, List.map_append]
        rfl
      have hke : k = l.length := by simp at hb; omega
      subst hke
      rw [List.take_length]
      conv => whnf
      have hml : (l.map (·.val)).length ≤ 512 := by rw [List.length_map]; omega
      (refine acallF [7] (by kernel_rfl) (AFn.up (intsA (l.map (·.val)) (all_map fun e he => (h.ok e he).val) hml) GS) ?_ ?_; (focus (repeat' (first | rfl | trivial | apply And.intro))))
      rintro _ _ _ ⟨rfl, rfl, rfl⟩
      conv => whnf
      have hx := ints_short (l.map (·.val)) hml
      refine VReq.mk (app_ok (by simp only [List.length_map, List.length_append]; omega) (by kernel_rfl)) ?_
      conv => whnf
      refine AAr.i64 (by decide) ?_
      conv => whnf
      exact aback (2 + 1) [(6, .lab 8)] [] rfl (by decide) (by decide) ⟨⟨rfl, rfl, List.map_append.symm⟩, (by repeat' (first | rfl | trivial | apply And.intro)), ⟨rfl, rfl, rfl⟩, ⟨rfl, rfl, rfl⟩, trivial⟩ ⟨rfl, rfl, trivial⟩
    · conv => whnf
      refine AAr.i64 (by decide) ?_
      conv => whnf
      exact aback 4 [(2, .lab 6)] [] rfl (by decide) (by decide) ⟨⟨rfl, rfl, rfl⟩, ⟨rfl, rfl, rfl⟩, ⟨rfl, rfl, rfl⟩, trivial⟩ ⟨rfl, rfl, trivial⟩
  · conv => whnf
    have hr := lims_rng h
    have hbl := bdA_len h 4
    have n1 := num_len (lims l).1
    have n2 := num_len (lims l).2
    have n3 := num_len ((bdy l).length : Int)
    change (bdy l).length ≤ 70000 at hbl
    (refine acallF [0] (by kernel_rfl) (limits1LA l h) ?_ ?_; (focus (repeat' (first | rfl | trivial | apply And.intro))))
    rintro _ _ _ ⟨rfl, rfl, rfl⟩
    conv => whnf
    (refine acallF [] (by kernel_rfl) (AFn.up (putA [] (lims l).1 hr.1 (by simp)) GS) ?_ ?_; (focus (repeat' (first | rfl | trivial | apply And.intro))))
    rintro _ _ _ ⟨rfl, rfl, rfl⟩
    conv => whnf
    (refine acallF [3] (by kernel_rfl) (AFn.up (putA (num (lims l).1) (lims l).2 hr.2 (by omega)) GS) ?_ ?_; (focus (repeat' (first | rfl | trivial | apply And.intro))))
    rintro _ _ _ ⟨rfl, rfl, rfl⟩
    conv => whnf
    have e4 : ((bdA l 4).map enB).length = (bdy l).length := List.length_map _
    rw [e4]
    (refine acallF [4] (by kernel_rfl) (AFn.up (putA (num (lims l).1 ++ num (lims l).2) ((bdy l).length : Int) (i64_nat (by omega)) (by rw [List.length_append]; omega)) GS) ?_ ?_; (focus (repeat' (first | rfl | trivial | apply And.intro))))
    rintro _ _ _ ⟨rfl, rfl, rfl⟩
    conv => whnf
    refine VReq.mk (app_ok (by rw [e4]; simp only [List.length_map, List.length_append]; omega) (by kernel_rfl)) ?_
    conv => whnf
    refine aend (bs (chb l)) 0 [] [] [6] ⟨rfl, rfl, rfl⟩ rfl trivial ⟨rfl, rfl, ?_⟩
    show (num (lims l).1 ++ num (lims l).2 ++ num ((bdy l).length : Int)).map enB ++ (bdy l).map enB = (chb l).map enB
    rw [← List.map_append]
    rfl
end Go.Proofs.YtmhpfadbmpipkaaGreatDoor.Cl
