/- The walks of SameEvents and of ColumnLimits. Condition: sizes. -/
import Derived.Test.YtmhpfadbmpipkaaGreatDoorTb8
import Derived.Test.YtmhpfadbmpipkaaGreatDoorCid
import Derived.Test.YtmhpfadbmpipkaaGreatDoorCaw
set_option linter.unusedVariables false
set_option linter.unusedSimpArgs false
namespace Go.Proofs.YtmhpfadbmpipkaaGreatDoor.Cl
open Go Go.RowKit Go.Proofs Go.Proofs.YtmhpfadbmpipkaaGreatDoor.Vc Go.Proofs.YtmhpfadbmpipkaaGreatDoor.Ax Go.Proofs.YtmhpfadbmpipkaaGreatDoor.Ky
attribute [local irreducible] loadVar storeVar Instr.indexAt Instr.index Instr.sliceAt Instr.makeSlice Instr.lookup Instr.mapUpdate Instr.range Instr.next Instr.entry Instr.makeMap Builtin.append_ Builtin.copy_ Builtin.len_ Builtin.min_ Builtin.max_ Builtin.cap_ Builtin.delete_ Builtin.clear_ convert binOp eqGuard Op.unary Calls
attribute [local irreducible] best ints en bd txs dsT
set_option maxHeartbeats 4000000 in
set_option maxRecDepth 100000 in
theorem sameEvA (l : List Ev) (hl : l.length ≤ 1000000) : AFn Tryz.prog GS 14 [el l, el l] 0 [] (Is (bv true)) := by
  refine afn_of Tryz.func14 rfl mixed (by kernel_rfl) ?_
  conv => whnf
  refine vif_split (fun h => ?_) (fun h => ?_)
  · exfalso; simp at h
  conv => whnf
  refine aloop ws14_1 0 [5] (fun i : Nat => [(5, iv i)]) (fun _ => []) (fun i => i ≤ l.length) (fun i => l.length - i) [] [] 0 (by kernel_rfl) (fun _ => rfl) rfl (Nat.zero_le _) trivial ⟨rfl, trivial⟩ ?_
  intro i hi
  conv => whnf
  refine vif_split (fun h => ?_) (fun h => ?_)
  · have hlt : i < l.length := by simp at h; omega
    conv => whnf
    (refine adraw pln14 [] (by kernel_rfl) ?_; conv => whnf)
    repeat' (first
      | (refine And.intro ?_ ?_ <;> (conv => whnf))
      | (refine AIn.mk' i rfl (by rw [List.length_map]; exact hlt) ?_; conv => whnf)
      | (refine ARd.mapAt (List.getElem?_eq_getElem hlt) ?_; conv => whnf))
    refine AEq.mk (by kernel_rfl) rfl rfl ?_
    conv => whnf
    refine vif_split (fun h => ?_) (fun h => ?_)
    · exfalso
      simp [sEq_tx] at h
    conv => whnf
    refine AAr.i64 (by omega) ?_
    conv => whnf
    exact aback (i + 1) [] [] rfl (by show l.length - (i + 1) < l.length - i; omega) hlt trivial ⟨rfl, trivial⟩
  · conv => whnf
    exact aret [] (by repeat' (first | rfl | trivial | apply And.intro))
def webT : By := [119, 101, 98]
def buyT : By := [98, 117, 121]
def evL (t i : Nat) : Ev := ⟨webT, ((i + 1 : Nat) : Int), 2, ((i / (1 + t % 9) : Nat) : Int), idT i, buyT, [], 0, 0, ((i % 5 : Nat) : Int)⟩
theorem idT_mem (n : Nat) : idT n ∈ idsT := by
  have h : n % 6 < idsT.length := by have := idsT_len; omega
  unfold idT
  rw [List.getD_eq_getElem?_getD, List.getElem?_eq_getElem h]
  exact List.getElem_mem h
theorem ids_key : ∀ s ∈ idsT, kyB s = true ∧ s.length = 3 := by decide +kernel
theorem web_key : kyB webT = true ∧ kyB buyT = true := by decide +kernel
theorem evL_c (t i : Nat) (hi : i < 100000) : evC (evL t i) = 0 := by
  have h1 := ids_key _ (idT_mem i)
  have h2 := web_key
  have hd : i / (1 + t % 9) ≤ i := Nat.div_le_self _ _
  have hm : i % 5 < 5 := Nat.mod_lt _ (by decide)
  unfold evC evL
  generalize i / (1 + t % 9) = d at *
  generalize i % 5 = m at *
  simp only [h1.1, h2.1, h2.2]
  rw [if_neg (by simp), if_neg (by simp), if_neg (by omega), if_neg (by simp), if_neg (by omega), if_neg (by simp)]
theorem evL_ok (t i : Nat) (hi : i < 100000) : (evL t i).ok := by
  have h1 := ids_key _ (idT_mem i)
  have hd : i / (1 + t % 9) ≤ i := Nat.div_le_self _ _
  have hm : i % 5 < 5 := Nat.mod_lt _ (by decide)
  have z : ∀ k : Int, 0 ≤ k → k ≤ 1000000 → I64 k := fun k a b => by unfold I64; omega
  unfold evL
  generalize i / (1 + t % 9) = d at *
  generalize i % 5 = m at *
  refine ⟨i64_nat (by omega), z 2 (by omega) (by omega), i64_nat (by omega), z 0 (by omega) (by omega), z 0 (by omega) (by omega), i64_nat (by omega), by unfold webT; simp, by show (idT i).length ≤ _; omega, by unfold buyT; simp, by simp⟩
theorem txs_len5 (l : Tx) (h : ∀ s ∈ l, s.length ≤ 5) (hl : l.length ≤ 512) : (txs l).length ≤ 14 + 25 * l.length := by
  have h1 : ((dsT l).flatMap putT).length ≤ 15 * (dsT l).length := fm_len putT 15 (dsT l) fun s hs => by
    have := (num_len (s.length : Int)).2
    have h2 := h s ((dsT_mem l s).1 hs)
    unfold putT
    rw [List.length_append]; omega
  have h2 := dsT_len l
  have h3 := (num_len ((dsT l).length : Int)).2
  have h4 := ints_len (ixT (dsT l) l) (by rw [ixT_len]; exact hl)
  rw [ixT_len] at h4
  have e : txs l = num ((dsT l).length : Int) ++ (dsT l).flatMap putT ++ ints (ixT (dsT l) l) := by unfold txs; rfl
  rw [e]
  simp only [List.length_append]
  omega
/-- short texts -/
structure Sht (e : Ev) : Prop where
  s1 : e.client.length ≤ 5
  s2 : e.id.length ≤ 5
  s3 : e.name.length ≤ 5
  s4 : e.other.length ≤ 5
theorem chb_len5 {l : List Ev} (hl : l.length ≤ 16) (h : ∀ e ∈ l, Sht e) : (chb l).length ≤ 2700 := by
  have sh : ∀ f : Ev → By, (∀ e ∈ l, (f e).length ≤ 5) → (txs (l.map f)).length ≤ 414 := fun f hf => by
    have := txs_len5 (l.map f) (fun s hs => by obtain ⟨e, he, rfl⟩ := List.mem_map.1 hs; exact hf e he) (by rw [List.length_map]; omega)
    rw [List.length_map] at this
    omega
  have ih : ∀ f : Ev → Int, (ints (l.map f)).length ≤ 164 := fun f => by
    have := ints_len (l.map f) (by rw [List.length_map]; omega)
    rw [List.length_map] at this
    omega
  have t1 := sh (·.client) fun e he => (h e he).s1
  have t2 := sh (·.id) fun e he => (h e he).s2
  have t3 := sh (·.name) fun e he => (h e he).s3
  have t4 := sh (·.other) fun e he => (h e he).s4
  have i1 := ih (·.seq)
  have i2 := ih (·.kind)
  have i3 := ih (·.time)
  have i4 := ih (·.ver)
  have i5 := ih (·.arm)
  have i6 := ih (·.val)
  have n1 := num_len (lims l).1
  have n2 := num_len (lims l).2
  have n3 := num_len ((bdy l).length : Int)
  unfold chb
  generalize num ((bdy l).length : Int) = q at *
  unfold bdy
  simp only [List.length_append]
  omega
theorem tab_len5 {l : List Ev} (hl : l.length ≤ 512) (h : ∀ e ∈ l, Sht e) : (tab l).length ≤ 86500 := by
  have step : ∀ i, i ≤ nC l → (tabA l i).length ≤ 10 + 2700 * i := by
    intro i
    induction i with
    | zero => intro _; have := num_len (l.length : Int); unfold tabA; simp; omega
    | succ i ih =>
      intro hi
      have h1 := ih (by omega)
      have h2 := chb_len5 (l := ch l i) (by unfold ch; rw [List.length_take]; omega) fun e he => h e (List.mem_of_mem_drop (List.mem_of_mem_take he))
      rw [tabA_succ, List.length_append]
      omega
  have := step (nC l) (Nat.le_refl _)
  have hn : nC l ≤ 32 := by unfold nC; omega
  unfold tab
  omega
def lstL (t n : Nat) : List Ev := (List.range n).map (evL t)
theorem lstL_len (t n : Nat) : (lstL t n).length = n := by simp [lstL]
theorem lstL_succ (t n : Nat) : lstL t (n + 1) = lstL t n ++ [evL t n] := by simp [lstL, List.range_succ]
theorem lstL_all (t n : Nat) (hn : n ≤ 100000) : ∀ e ∈ lstL t n, e.ok ∧ evC e = 0 ∧ Sht e := fun e he => by
  obtain ⟨i, hi, rfl⟩ := List.mem_map.1 he
  have hi := List.mem_range.1 hi
  refine ⟨evL_ok t i (by omega), evL_c t i (by omega), by unfold evL webT; simp, ?_, by unfold evL buyT; simp, by unfold evL; simp⟩
  have := (ids_key _ (idT_mem i)).2
  show (idT i).length ≤ 5
  omega
theorem evsC_0 {l : List Ev} (h : ∀ e ∈ l, evC e = 0) : evsC l = 0 := by
  induction l with
  | nil => rfl
  | cons e r ih =>
    unfold evsC
    rw [if_neg (by simp [h e List.mem_cons_self])]
    exact ih fun x hx => h x (List.mem_cons_of_mem _ hx)
set_option maxHeartbeats 8000000 in
set_option maxRecDepth 100000 in
theorem lawLimitsA (over : Bool) (t : Nat) (ht : t < 256) : AFn Tryz.prog GS 4 [bv over, u8v t] 0 [] (Is (bv true)) := by
  refine afn_of Tryz.func4 rfl mixed (by kernel_rfl) ?_
  conv => whnf
  (refine acall [] (by kernel_rfl) (AFn.up awakeA GS) rfl ?_ ?_; (focus (repeat' (first | rfl | trivial | apply And.intro))))
  conv => whnf
  cases over
  · conv => whnf
    refine aloop ws4_1 1 [6, 7] (fun i : Nat => [(6, .own 0), (7, iv i)]) (fun i => [(0, .rows 38 10 ((lstL t i).map enE))]) (fun i => i ≤ 512) (fun i => 512 - i) [(0, .nil)] [] 0 (by kernel_rfl) (fun _ => rfl) rfl (Nat.zero_le _) ⟨rfl, trivial⟩ ⟨trivial, rfl, trivial⟩ ?_
    intro i hi
    conv => whnf
    refine vif_split (fun h => ?_) (fun h => ?_)
    · have hlt : i < 512 := by simp at h; omega
      have hll := lstL_len t i
      conv => whnf
      (refine adraw pln4 [0, 1, 2] (by kernel_rfl) ?_; conv => whnf)
      have em : Int.tmod (t : Int) 9 = ((t % 9 : Nat) : Int) := rfl
      have hm := Nat.mod_lt t (show 9 > 0 by decide)
      have hd : i / (1 + t % 9) ≤ i := Nat.div_le_self _ _
      have ed : Int.tdiv (i : Int) (1 + Int.tmod (t : Int) 9) = ((i / (1 + t % 9) : Nat) : Int) := by
        rw [em, show (1 : Int) + ((t % 9 : Nat) : Int) = ((1 + t % 9 : Nat) : Int) by omega]; rfl
      repeat' (first
        | (refine And.intro ?_ ?_ <;> (conv => whnf))
        | (refine VReq.mk (by first | decide | omega) ?_; conv => whnf)
        | (refine AAr.i64 (by omega) ?_; conv => whnf)
        | (refine AAr.to (y := ((i / (1 + t % 9) : Nat) : Int)) (by rw [ed]; exact IntWalk.i64_in _ (by generalize i / (1 + t % 9) = d at *; omega)) ?_; conv => whnf)
        | ((refine acall [] (by kernel_rfl) (AFn.up (idTA i (by omega)) GS) rfl ?_ ?_; (focus (repeat' (first | rfl | trivial | apply And.intro)))); conv => whnf)
        | (refine VReq.mk (app_e (by simp only [List.length_map, List.length_cons, List.length_nil]; omega)) ?_; conv => whnf))
      refine aback (i + 1) [(0, .lab 2)] [] rfl (by show 512 - (i + 1) < 512 - i; omega) hlt ⟨⟨rfl, rfl, ?_⟩, trivial⟩ ⟨rfl, rfl, trivial⟩
      rw [lstL_succ, List.map_append]
      rfl
    have hie : i = 512 := by simp at h; omega
    subst hie
    conv => whnf
    have hall := lstL_all t 512 (by decide)
    have hlen := lstL_len t 512
    have hsh := tab_len5 (l := lstL t 512) (by omega) fun e he => (hall e he).2.2
    generalize lstL t 512 = l at *
    have hT := table1A l (fun e he => (hall e he).1) (by omega)
    have e1 : tbE l = 0 := by unfold tbE; rw [if_neg (by omega)]; exact evsC_0 fun e he => (hall e he).2.1
    have e2 : tbB l = tab l := by unfold tbB; rw [if_pos e1]
    rw [e1, e2] at hT
    have hR := readTableA (tab l) (by omega)
    have hS := sameEvA l (by omega)
    (refine acallF [0] (by kernel_rfl) (hT) ?_ ?_; (focus (repeat' (first | rfl | trivial | apply And.intro))))
    rintro _ _ _ ⟨rfl, rfl, rfl⟩
    conv => whnf
    (refine acallF [] (by kernel_rfl) (hR) ?_ ?_; (focus (repeat' (first | rfl | trivial | apply And.intro))))
    rintro _ _ _ ⟨l2, f, hq, rfl, rfl, rfl⟩
    obtain ⟨rfl, rfl⟩ := hq.2.2.2 l (fun e he => (hall e he).1) e1 rfl
    conv => whnf
    (refine acall [] (by kernel_rfl) (hS) rfl ?_ ?_; (focus (repeat' (first | rfl | trivial | apply And.intro))))
    conv => whnf
    exact aret [] (by repeat' (first | rfl | trivial | apply And.intro))
  · conv => whnf
    refine AAr.i64 (by decide) ?_
    conv => whnf
    refine aloop ws4_1 1 [6, 7] (fun i : Nat => [(6, .own 0), (7, iv i)]) (fun i => [(0, .rows 38 10 ((lstL t i).map enE))]) (fun i => i ≤ 513) (fun i => 513 - i) [(0, .nil)] [] 0 (by kernel_rfl) (fun _ => rfl) rfl (Nat.zero_le _) ⟨rfl, trivial⟩ ⟨trivial, rfl, trivial⟩ ?_
    intro i hi
    conv => whnf
    refine vif_split (fun h => ?_) (fun h => ?_)
    · have hlt : i < 513 := by simp at h; omega
      have hll := lstL_len t i
      conv => whnf
      (refine adraw pln4 [0, 1, 2] (by kernel_rfl) ?_; conv => whnf)
      have em : Int.tmod (t : Int) 9 = ((t % 9 : Nat) : Int) := rfl
      have hm := Nat.mod_lt t (show 9 > 0 by decide)
      have hd : i / (1 + t % 9) ≤ i := Nat.div_le_self _ _
      have ed : Int.tdiv (i : Int) (1 + Int.tmod (t : Int) 9) = ((i / (1 + t % 9) : Nat) : Int) := by
        rw [em, show (1 : Int) + ((t % 9 : Nat) : Int) = ((1 + t % 9 : Nat) : Int) by omega]; rfl
      repeat' (first
        | (refine And.intro ?_ ?_ <;> (conv => whnf))
        | (refine VReq.mk (by first | decide | omega) ?_; conv => whnf)
        | (refine AAr.i64 (by omega) ?_; conv => whnf)
        | (refine AAr.to (y := ((i / (1 + t % 9) : Nat) : Int)) (by rw [ed]; exact IntWalk.i64_in _ (by generalize i / (1 + t % 9) = d at *; omega)) ?_; conv => whnf)
        | ((refine acall [] (by kernel_rfl) (AFn.up (idTA i (by omega)) GS) rfl ?_ ?_; (focus (repeat' (first | rfl | trivial | apply And.intro)))); conv => whnf)
        | (refine VReq.mk (app_e (by simp only [List.length_map, List.length_cons, List.length_nil]; omega)) ?_; conv => whnf))
      refine aback (i + 1) [(0, .lab 2)] [] rfl (by show 513 - (i + 1) < 513 - i; omega) hlt ⟨⟨rfl, rfl, ?_⟩, trivial⟩ ⟨rfl, rfl, trivial⟩
      rw [lstL_succ, List.map_append]
      rfl
    have hie : i = 513 := by simp at h; omega
    subst hie
    conv => whnf
    have hall := lstL_all t 513 (by decide)
    have hlen := lstL_len t 513
    generalize lstL t 513 = l at *
    have hT := table1A l (fun e he => (hall e he).1) (by omega)
    have e1 : tbE l = 5 := by unfold tbE; rw [if_pos (by omega)]
    have e2 : tbB l = [] := by unfold tbB; rw [e1]; rfl
    rw [e1, e2] at hT
    (refine acallF [0] (by kernel_rfl) (hT) ?_ ?_; (focus (repeat' (first | rfl | trivial | apply And.intro))))
    rintro _ _ _ ⟨rfl, rfl, rfl⟩
    conv => whnf
    exact aret [] (by repeat' (first | rfl | trivial | apply And.intro))
end Go.Proofs.YtmhpfadbmpipkaaGreatDoor.Cl
