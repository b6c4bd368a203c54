/- The walks of the made samples and of the law JoinTallies. Condition: the library's table of spaces (GS). -/
import Derived.Test.YtmnjmdajgilhiaaDoorJ7
set_option linter.unusedVariables false
set_option linter.unusedSimpArgs false
namespace Go.Proofs.YtmnjmdajgilhiaaDoor.Cl
open Go Go.RowKit Go.Proofs Go.Proofs.YtmnjmdajgilhiaaDoor.Vc Go.Proofs.YtmnjmdajgilhiaaDoor.Ax Go.Proofs.YtmnjmdajgilhiaaDoor.Ky Go.Proofs.YtmnjmdajgilhiaaDoor.Id
attribute [local irreducible] loadVar storeVar Instr.indexAt Instr.index Instr.sliceAt Instr.makeSlice Instr.lookup Instr.mapUpdate Instr.range Instr.next Instr.entry Instr.makeMap Builtin.append_ Builtin.copy_ Builtin.len_ Builtin.min_ Builtin.max_ Builtin.cap_ Builtin.delete_ Builtin.clear_ convert binOp eqGuard Op.unary Calls
/-- what a made sample is like -/
structure SmP (s : Sm) : Prop where
  arm : s.x.arm = 1 ∨ s.x.arm = 2
  val : 0 ≤ s.value ∧ s.value ≤ 255
  below : 0 ≤ s.below ∧ s.below ≤ 9
  bef : 0 ≤ s.before ∧ s.before ≤ 5
structure SmsP (l : List Sm) : Prop where
  len : l.length ≤ 40
  all : ∀ s ∈ l, SmP s
def NxD (L : By) (p n v q : Nat) : Prop := v < n ∧ q ≤ L.length ∧ q ≤ p + 1 ∧ AFn Tryd.prog GS 34 [.ptr 0 0, iv n] 1 [(0, srB L p)] (fun a m H => a = iv v ∧ m = 1 ∧ H = [(0, srB L q)])
theorem nxD {L : By} {p : Nat} (hp : p ≤ L.length) (h : p ≤ 100000) (n : Nat) (hn : 0 < n) (hn2 : n ≤ 256) : ∃ v q, NxD L p n v q := ⟨nxV L p n, nxA L p, nxV_lt L p n hn, nxA_le hp, by unfold nxA; split <;> omega, nextB L p n hn hn2 h hp⟩
structure SS where
  out : List Sm
  p : Nat
set_option maxHeartbeats 8000000 in
set_option maxRecDepth 100000 in
theorem datSA (L : By) : AFn Tryd.prog GS 32 [bs L, iv 10] 0 [] (fun a n H => ∃ s, SmsP s ∧ Own1 42 10 (s.map smF) a n H) := by
  refine afn_of Tryd.func32 rfl mixed (by kernel_rfl) ?_
  conv => whnf
  refine aloop ws32_1 2 [6] (fun x : SS => [(6, .own 1)]) (fun x => [(0, srB L x.p), (1, .rows 42 10 (x.out.map smF))]) (fun x => SmsP x.out ∧ x.p ≤ L.length ∧ x.p ≤ 5 * x.out.length) (fun x => 40 - x.out.length) [(1, .nil)] [] ⟨[], 0⟩ (by kernel_rfl) (fun _ => rfl) rfl ⟨⟨Nat.zero_le _, fun _ h => by cases h⟩, Nat.zero_le _, Nat.zero_le _⟩ (by repeat' (first | rfl | trivial | apply And.intro)) (by repeat' (first | rfl | trivial | apply And.intro)) ?_
  rintro ⟨out, p⟩ ⟨hP, hp, hp5⟩
  change SmsP out at hP
  change p ≤ L.length at hp
  change p ≤ 5 * out.length at hp5
  have hl := hP.len
  have fin : ∃ s, SmsP s ∧ s = out := ⟨out, hP, rfl⟩
  conv => whnf
  refine acallM [0] [] (by kernel_rfl) (moreA L p) rfl (by repeat' (first | rfl | trivial | apply And.intro)) (by repeat' (first | rfl | trivial | apply And.intro)) ?_
  rintro _ _ _ ⟨rfl, rfl, rfl⟩
  refine ⟨rfl, ?_⟩
  conv => whnf
  refine vif_split (fun h => ?_) (fun h => ?_)
  rotate_left 1
  · conv => whnf
    exact aend (.own 0) 1 _ [(0, .lab 1)] [] ⟨out, hP, rfl, rfl, rfl⟩ rfl (by repeat' (first | rfl | trivial | apply And.intro)) (by repeat' (first | rfl | trivial | apply And.intro))
  conv => whnf
  refine vif_split (fun h => ?_) (fun h => ?_)
  rotate_left 1
  · conv => whnf
    exact aend (.own 0) 1 _ [(0, .lab 1)] [] ⟨out, hP, rfl, rfl, rfl⟩ rfl (by repeat' (first | rfl | trivial | apply And.intro)) (by repeat' (first | rfl | trivial | apply And.intro))
  have hl4 : out.length < 40 := by simp at h; omega
  have hid : AFn Tryd.prog GS 35 [iv ((out.length : Nat) : Int)] 0 [] (Is (tv (idT out.length))) := AFn.up (idTA out.length (by omega)) GS
  obtain ⟨v1, q1, b1, e1, f1, c1⟩ := nxD hp (by omega) 2 (by decide) (by decide)
  obtain ⟨v2, q2, b2, e2, f2, c2⟩ := nxD e1 (by omega) 2 (by decide) (by decide)
  obtain ⟨v3, q3, b3, e3, f3, c3⟩ := nxD e2 (by omega) 256 (by decide) (by decide)
  obtain ⟨v4, q4, b4, e4, f4, c4⟩ := nxD e3 (by omega) 9 (by decide) (by decide)
  obtain ⟨v5, q5, b5, e5, f5, c5⟩ := nxD e4 (by omega) 5 (by decide) (by decide)
  conv => whnf
  rw [List.length_map]
  (refine acall [] (by kernel_rfl) (hid) rfl ?_ ?_; (focus (repeat' (first | rfl | trivial | apply And.intro))))
  conv => whnf
  refine AAr.i64 (by (try dsimp only); omega) ?_
  conv => whnf
  refine acallM [0] [] (by kernel_rfl) c1 rfl (by repeat' (first | rfl | trivial | apply And.intro)) (by repeat' (first | rfl | trivial | apply And.intro)) ?_
  rintro _ _ _ ⟨rfl, rfl, rfl⟩
  refine ⟨rfl, ?_⟩
  conv => whnf
  refine AAr.i64 (by (try dsimp only); omega) ?_
  conv => whnf
  refine acallM [0] [] (by kernel_rfl) c2 rfl (by repeat' (first | rfl | trivial | apply And.intro)) (by repeat' (first | rfl | trivial | apply And.intro)) ?_
  rintro _ _ _ ⟨rfl, rfl, rfl⟩
  refine ⟨rfl, ?_⟩
  conv => whnf
  refine AAr.i64 (by (try dsimp only); omega) ?_
  conv => whnf
  (refine adraw pln32 [0, 1] (by kernel_rfl) ?_; conv => whnf)
  repeat' (first
    | (refine And.intro ?_ ?_ <;> (conv => whnf))
    | (refine acallM [0] [] (by kernel_rfl) c3 rfl ?_ ?_ ?_; (focus ((repeat' (first | rfl | trivial | apply And.intro)); done)); (focus ((repeat' (first | rfl | trivial | apply And.intro)); done)); rintro _ _ _ ⟨rfl, rfl, rfl⟩; refine ⟨rfl, ?_⟩; conv => whnf)
    | (refine acallM [0] [] (by kernel_rfl) c4 rfl ?_ ?_ ?_; (focus ((repeat' (first | rfl | trivial | apply And.intro)); done)); (focus ((repeat' (first | rfl | trivial | apply And.intro)); done)); rintro _ _ _ ⟨rfl, rfl, rfl⟩; refine ⟨rfl, ?_⟩; conv => whnf)
    | (refine acallM [0] [] (by kernel_rfl) c5 rfl ?_ ?_ ?_; (focus ((repeat' (first | rfl | trivial | apply And.intro)); done)); (focus ((repeat' (first | rfl | trivial | apply And.intro)); done)); rintro _ _ _ ⟨rfl, rfl, rfl⟩; refine ⟨rfl, ?_⟩; conv => whnf)
    | (refine AAr.i64 (by (try dsimp only); omega) ?_; conv => whnf)
    | (refine VReq.mk (app_ok (by simp only [List.length_map, List.length_cons, List.length_nil]; omega) (by kernel_rfl)) ?_; conv => whnf)
    | (refine VReq.mk (by decide) ?_; conv => whnf))
  have hval : 0 ≤ (v3 : Int).tmod 11 ∧ (v3 : Int).tmod 11 ≤ 255 := by
    have h1 : (v3 : Int).tmod 11 = ((v3 % 11 : Nat) : Int) := rfl
    have h2 : v3 % 11 < 11 := Nat.mod_lt _ (by decide)
    omega
  refine aback ⟨out ++ [⟨⟨idT out.length, [97, 112, 112], (out.length : Int) + 1, out.length, 1 + (v1 : Int), 1 + (v2 : Int)⟩, (v3 : Int).tmod 11, v4, v5, false⟩], q5⟩ [(1, .lab 4)] [] rfl (by show 40 - (out ++ [_]).length < 40 - out.length; rw [List.length_append]; simp; omega) ⟨⟨by rw [List.length_append]; simp; omega, fun s hs => ?_⟩, e5, ?_⟩ ⟨(by repeat' (first | rfl | trivial | apply And.intro)), ⟨rfl, rfl, ?_⟩, trivial⟩ ⟨rfl, trivial⟩
  · rcases List.mem_append.1 hs with hs | hs
    · exact hP.all s hs
    · rw [List.mem_singleton.1 hs]
      exact ⟨by dsimp only; omega, hval, by dsimp only; omega, by dsimp only; omega⟩
  · rw [List.length_append]; simp; omega
  · rw [List.map_append]
    rfl
/-- the law's marks -/
def mxS (s : Sm) : Sm := ⟨s.x, s.value, s.below, s.before, decide (s.value.tmod 3 = 0)⟩
def mxL (i : Nat) (l : List Sm) : List Sm := (l.take i).map mxS ++ l.drop i
theorem mxL_len (i : Nat) (l : List Sm) : (mxL i l).length = l.length := by unfold mxL; simp; omega
theorem mxL_zero (l : List Sm) : mxL 0 l = l := by simp [mxL]
theorem mxL_at {i : Nat} {l : List Sm} {s : Sm} (h : l[i]? = some s) : (mxL i l)[i]? = some s := by
  have hi := (List.getElem?_eq_some_iff.1 h).1
  unfold mxL
  rw [List.getElem?_append_right (by simp; omega)]
  simp only [List.length_map, List.length_take]
  rw [List.getElem?_drop, show i + (i - min i l.length) = i by omega]
  exact h
theorem mxL_succ {i : Nat} {l : List Sm} {s : Sm} (h : l[i]? = some s) : mxL (i + 1) l = (mxL i l).set i (mxS s) := by
  obtain ⟨hi, rfl⟩ := List.getElem?_eq_some_iff.1 h
  unfold mxL
  rw [List.take_succ_eq_append_getElem hi, List.map_append, List.set_append_right _ _ (by simp; omega)]
  simp only [List.length_map, List.length_take]
  rw [List.drop_eq_getElem_cons hi, show i - min i l.length = 0 by omega, List.set_cons_zero]
  simp
theorem mxL_all (l : List Sm) : mxL l.length l = l.map mxS := by unfold mxL; simp
theorem tal_sum : ∀ (l : List Sm) (n : Nat), (∀ s ∈ l, 1 ≤ s.x.arm ∧ s.x.arm ≤ (n : Int)) → (tal n l).sum = l.length := by
  intro l
  induction l with
  | nil => intro n _; rw [tal_nil]; simp
  | cons s r ih =>
    intro n h
    have h1 := h s List.mem_cons_self
    have h2 := ih n fun x hx => h x (List.mem_cons_of_mem _ hx)
    have e1 : tal n (s :: r) = (List.range n).map fun (k : Nat) => (r.countP fun x => decide (x.x.arm = (k : Int) + 1)) + if decide (s.x.arm = (k : Int) + 1) = true then 1 else 0 := by
      unfold tal
      apply List.map_congr_left
      intro k _
      rw [List.countP_cons]
    have e2 : ∀ (f g : Nat → Nat) (L : List Nat), (L.map fun k => f k + g k).sum = (L.map f).sum + (L.map g).sum := by
      intro f g L
      induction L with
      | nil => rfl
      | cons x t ih2 => simp only [List.map_cons, List.sum_cons, ih2]; omega
    obtain ⟨a, ha⟩ : ∃ a : Nat, s.x.arm = (a : Int) + 1 := ⟨(s.x.arm - 1).toNat, by omega⟩
    have e3 : ∀ n, ((List.range n).map fun (k : Nat) => if decide (s.x.arm = (k : Int) + 1) = true then 1 else 0).sum = if a < n then 1 else 0 := by
      intro n
      induction n with
      | zero => simp
      | succ n ih3 =>
        rw [List.range_succ, List.map_append, List.sum_append, ih3]
        simp only [List.map_cons, List.map_nil, List.sum_cons, List.sum_nil, decide_eq_true_eq]
        by_cases hn : a = n
        · subst hn
          rw [if_neg (by omega), if_pos ha, if_pos (by omega)]; rfl
        · rw [if_neg (show ¬ s.x.arm = (n : Int) + 1 by omega)]
          by_cases h4 : a < n
          · rw [if_pos h4, if_pos (by omega)]; rfl
          · rw [if_neg h4, if_neg (by omega)]; rfl
    rw [e1, e2, e3, if_pos (by omega)]
    show (tal n r).sum + 1 = _
    rw [h2]
    simp
set_option maxHeartbeats 8000000 in
set_option maxRecDepth 100000 in
theorem lawTalliesA (m : By) (w : Nat) (hw : w < 256) : AFn Tryd.prog GS 9 [bs m, u8v w] 0 [] (Is (bv true)) := by
  refine afn_of Tryd.func9 rfl mixed (by kernel_rfl) ?_
  conv => whnf
  (refine acallF [] (by kernel_rfl) (awakeA) ?_ ?_; (focus ((repeat' (first | rfl | trivial | apply And.intro)); done)); rintro _ _ _ ⟨rfl, rfl, rfl⟩; (conv => whnf))
  (refine acallF [] (by kernel_rfl) (datSA m) ?_ ?_; (focus (repeat' (first | rfl | trivial | apply And.intro))))
  rintro _ _ _ ⟨l, hP, rfl, rfl, rfl⟩
  have hl := hP.len
  conv => whnf
  refine aloop ws9_1 1 [6, 7] (fun i : Nat => [(6, iv ((mixN ((l.take i).map mxS) : Nat) : Int)), (7, iv i)]) (fun i => [(0, .rows 42 10 ((mxL i l).map smF))]) (fun i => i ≤ l.length) (fun i => l.length - i) [] [] 0 (by kernel_rfl) (fun _ => rfl) rfl (Nat.zero_le _) ⟨⟨rfl, rfl, ?_⟩, trivial⟩ (by repeat' (first | rfl | trivial | apply And.intro)) ?_
  · rw [mxL_zero]
  intro i hi
  conv => whnf
  refine vif_split (fun h => ?_) (fun h => ?_)
  · have hlt : i < l.length := by simp [mxL_len] at h; omega
    have hg := List.getElem?_eq_getElem hlt
    have hgm := mxL_at hg
    have hsu := mxL_succ hg
    have hcn : mixN ((l.take (i + 1)).map mxS) = mixN ((l.take i).map mxS) + if (mxS l[i]).mixed = true then 1 else 0 := by
      rw [List.take_succ_eq_append_getElem hlt, List.map_append]
      exact mixN_snoc _ _
    have hcl : mixN ((l.take i).map mxS) ≤ 40 := Nat.le_trans (mixN_le _) (by simp; omega)
    have hil : i < (mxL i l).length := by rw [mxL_len]; exact hlt
    generalize l[i] = x at *
    conv => whnf
    repeat' (first
      | (refine AIn.mk' i rfl (by rw [List.length_map]; exact hil) ?_; conv => whnf)
      | (refine ARd.mapAt hgm ?_; conv => whnf)
      | (refine VReq.mk (by decide) ?_; conv => whnf))
    refine AIn.mk' i rfl (by rw [List.length_set, List.length_map]; exact hil) ?_
    conv => whnf
    refine ARd.set (by rw [List.length_map]; exact hil) ?_
    conv => whnf
    refine vif_split (fun h1 => ?_) (fun h1 => ?_)
    · rw [if_pos (show (mxS x).mixed = true from h1)] at hcn
      conv => whnf
      refine AAr.i64 (by omega) ?_
      conv => whnf
      refine AAr.i64 (by omega) ?_
      conv => whnf
      refine aback (i + 1) [] [] rfl (by show l.length - (i + 1) < l.length - i; omega) hlt ⟨⟨rfl, rfl, ?_⟩, trivial⟩ ⟨congrArg (fun x : Nat => Value.int .i64 (x : Int)) hcn.symm, rfl, trivial⟩
      rw [hsu, List.map_set]
      rfl
    · rw [if_neg (show ¬ (mxS x).mixed = true by rw [show (mxS x).mixed = false from h1]; decide)] at hcn
      conv => whnf
      refine AAr.i64 (by omega) ?_
      conv => whnf
      refine aback (i + 1) [] [] rfl (by show l.length - (i + 1) < l.length - i; omega) hlt ⟨⟨rfl, rfl, ?_⟩, trivial⟩ ⟨congrArg (fun x : Nat => Value.int .i64 (x : Int)) hcn.symm, rfl, trivial⟩
      rw [hsu, List.map_set]
      rfl
  have hie : i = l.length := by simp [mxL_len] at h; omega
  subst hie
  rw [List.take_length, mxL_all]
  have hL : (l.map mxS).length ≤ 40 := by simp; exact hl
  have harm : ∀ s ∈ l.map mxS, s.x.arm = 1 ∨ s.x.arm = 2 := fun s hs => by
    obtain ⟨s0, h0, rfl⟩ := List.mem_map.1 hs
    exact (hP.all s0 h0).arm
  generalize l.map mxS = L at *
  have hW : w % 6 < 6 := Nat.mod_lt _ (by decide)
  conv => whnf
  refine AAr.i64 (by omega) ?_
  conv => whnf
  refine VReq.mk (by decide) ?_
  conv => whnf
  refine AAr.i64 (by show _ ≤ 2 + ((w % 6 : Nat) : Int) ∧ 2 + ((w % 6 : Nat) : Int) ≤ _; omega) ?_
  conv => whnf
  have ht1 := tallyA (G := GS) L (2 + ((w : Int).tmod 6)) (by omega)
  have hn1 : nar (2 + ((w : Int).tmod 6)) = 2 + w % 6 := by
    show (max 0 (min (2 + ((w % 6 : Nat) : Int)) 8)).toNat = 2 + w % 6
    omega
  have ht2 := tallyA (G := GS) L (-1) (by omega)
  have hn2 : nar (-1) = 0 := rfl
  have hsum := tal_sum L (2 + w % 6) fun s hs => by have := harm s hs; omega
  unfold TalO at ht1 ht2
  rw [hn1] at ht1
  rw [hn2] at ht2
  refine acallF [0] (by kernel_rfl) ht1 ?_ ?_; (focus (repeat' (first | rfl | trivial | apply And.intro)))
  rintro _ _ _ ⟨rfl, rfl, rfl⟩
  have htl := tal_len (2 + w % 6) L
  have htb := tal_le (2 + w % 6) L
  generalize tal (2 + w % 6) L = T at *
  conv => whnf
  refine AAr.i64 (by omega) ?_
  conv => whnf
  refine VReq.mk (by decide) ?_
  conv => whnf
  refine AAr.i64 (by show _ ≤ 2 + ((w % 6 : Nat) : Int) ∧ 2 + ((w % 6 : Nat) : Int) ≤ _; omega) ?_
  conv => whnf
  refine vif_split (fun h1 => ?_) (fun h1 => ?_)
  · exfalso
    have h2 : (((T.map enN2).length : Nat) : Int) ≠ 2 + (w : Int).tmod 6 := bne_iff_ne.1 h1
    rw [List.length_map, show (w : Int).tmod 6 = ((w % 6 : Nat) : Int) from rfl] at h2
    omega
  conv => whnf
  refine vif_split (fun h2 => ?_) (fun h2 => ?_)
  · exfalso; simp at h2
  conv => whnf
  refine aloop ws9_2 2 [10, 11] (fun i : Nat => [(10, iv (((T.take i).sum : Nat) : Int)), (11, iv i)]) (fun i => [(0, .fz 10 (L.map smF)), (1, .rows 3 1 (T.map enN2))]) (fun i => i ≤ T.length) (fun i => T.length - i) [] [] 0 (by kernel_rfl) (fun _ => rfl) rfl (Nat.zero_le _) (by repeat' (first | rfl | trivial | apply And.intro)) (by repeat' (first | rfl | trivial | apply And.intro)) ?_
  intro i hi
  have hse : (T.take i).sum ≤ T.sum := by
    rw [← List.take_append_drop i T, List.sum_append, List.take_append_drop]
    omega
  conv => whnf
  refine vif_split (fun h3 => ?_) (fun h3 => ?_)
  · have hlt : i < T.length := by simp at h3; omega
    have hg := List.getElem?_eq_getElem hlt
    have hb := htb i _ hg
    have hsn : (T.take (i + 1)).sum = (T.take i).sum + T[i] := by rw [List.take_succ_eq_append_getElem hlt, List.sum_append]; simp
    generalize T[i] = c at *
    conv => whnf
    refine AIn.mk' i rfl (by rw [List.length_map]; exact hlt) ?_
    conv => whnf
    refine ARd.mapAt hg ?_
    conv => whnf
    refine AAr.i64 (by omega) ?_
    conv => whnf
    refine AAr.i64 (by omega) ?_
    conv => whnf
    refine aback (i + 1) [] [] rfl (by show T.length - (i + 1) < T.length - i; omega) hlt (by repeat' (first | rfl | trivial | apply And.intro)) ⟨?_, rfl, trivial⟩
    refine congrArg (Value.int .i64) ?_
    rw [hsn]
    simp
  have hie : i = T.length := by simp at h3; omega
  subst hie
  rw [List.take_length]
  conv => whnf
  refine acallF [0] (by kernel_rfl) ht2 ?_ ?_; (focus (repeat' (first | rfl | trivial | apply And.intro)))
  rintro _ _ _ ⟨rfl, rfl, rfl⟩
  conv => whnf
  refine vif_split (fun h4 => ?_) (fun h4 => ?_)
  · conv => whnf
    exact aret [] (congrArg Value.bool (by simp [tal_len]))
  · exfalso
    have : ((T.sum : Nat) : Int) ≠ (L.map smF).length := by simpa using h4
    rw [List.length_map] at this
    omega
end Go.Proofs.YtmnjmdajgilhiaaDoor.Cl
