/- The walks of column's decoders: plain numbers and steps. Condition: sizes. The walks of column's decoders: runs and indexes. Condition: sizes. -/
import Derived.Test.YtmhpfadbmpipkaaGreatCl18
set_option linter.unusedVariables false
set_option linter.unusedSimpArgs false
namespace Go.Proofs.YtmhpfadbmpipkaaGreat.Cl
open Go Go.RowKit Go.Proofs Go.Proofs.YtmhpfadbmpipkaaGreat.Vc Go.Proofs.YtmhpfadbmpipkaaGreat.Ax
attribute [local irreducible] loadVar storeVar Instr.indexAt Instr.index Instr.sliceAt Instr.makeSlice Instr.lookup Instr.mapUpdate Instr.range Instr.next Instr.entry Instr.makeMap Builtin.append_ Builtin.copy_ Builtin.len_ Builtin.min_ Builtin.max_ Builtin.cap_ Builtin.delete_ Builtin.clear_ convert binOp eqGuard Op.unary Calls
/-- what a decoder answers: a list in memory of its own, and whether it is good -/
def DecA (body : Li → By) (b : By) (n : Nat) (a : AV) (m : Nat) (H : AHeap) : Prop := ∃ l ok, DecR body b n l ok ∧ a = .tup [.own 0, bv ok] ∧ m = 1 ∧ H = [(0, .rows 3 1 (l.map enI))]
structure RX where
  b : By
  e : Int
  out : Li
theorem drop_le {b : By} {m k : Nat} (h : b.length ≤ m) : (b.drop k).length ≤ m := by rw [List.length_drop]; omega
set_option maxHeartbeats 8000000 in
set_option maxRecDepth 100000 in
theorem readPlainA (b : By) (n : Nat) (hb : b.length ≤ 3000000) (hn : n ≤ 512) : AFn Tryz.prog GC 51 [bs b, iv n] 0 [] (DecA b1 b n) := by
  refine afn_of Tryz.func51 rfl mixed (by kernel_rfl) ?_
  conv => whnf
  (refine acallF [] (by kernel_rfl) (newA b hb) ?_ ?_; (focus (repeat' (first | rfl | trivial | apply And.intro))))
  rintro _ _ _ ⟨rfl, rfl, rfl⟩
  conv => whnf
  refine aloop ws51_1 2 [7] (fun _ : RX => [(7, .own 1)]) (fun x => [(1, .rows 3 1 (x.out.map enI)), (0, rdB x.b x.e)]) (fun x => x.out.length ≤ n ∧ AllI x.out ∧ x.b.length ≤ 3000000 ∧ Pr b n b1 (Q1 x.b x.out x.e)) (fun x => n - x.out.length) [(1, .nil)] [] ⟨b, 0, []⟩ (by kernel_rfl) (fun _ => rfl) rfl ⟨Nat.zero_le _, AllI.nil, hb, (Pr.start b n b1).mono fun l0 r _ _ h => Q1.start h⟩ ⟨rfl, (by repeat' (first | rfl | trivial | apply And.intro)), trivial⟩ ⟨trivial, trivial⟩ ?_
  rintro ⟨b', e, out⟩ ⟨h1, h2, h3, h4⟩
  change out.length ≤ n at h1
  change AllI out at h2
  change b'.length ≤ 3000000 at h3
  change Pr b n b1 (Q1 b' out e) at h4
  have fin : ((e = 0 → out.length = n)) → DecR b1 b n out (e == 0) := fun hx => ⟨h2, h1, h4.mono fun l0 r _ hl h => by
    have := h.fin fun he => by rw [hx he, hl]
    exact ⟨by simp [this.1], this.2.1⟩⟩
  conv => whnf
  refine vif_split (fun h => ?_) (fun h => ?_)
  · have hlt : out.length < n := by simp at h; omega
    conv => whnf
    refine acallM [0] [] (by kernel_rfl) (errA b' e) rfl (by repeat' (first | rfl | trivial | apply And.intro)) (by repeat' (first | rfl | trivial | apply And.intro)) ?_
    rintro _ _ _ ⟨rfl, rfl, rfl⟩
    refine ⟨rfl, ?_⟩
    conv => whnf
    refine vif_split (fun h => ?_) (fun h => ?_)
    · have he : e = 0 := by simpa using h
      conv => whnf
      refine acallM [0] [] (by kernel_rfl) (numberA b' e h3) rfl (by repeat' (first | rfl | trivial | apply And.intro)) (by repeat' (first | rfl | trivial | apply And.intro)) ?_
      rintro _ _ _ ⟨rfl, rfl, rfl⟩
      refine ⟨rfl, ?_⟩
      conv => whnf
      refine VReq.mk (app_ok (by simp only [List.length_map, List.length_append, List.length_cons, List.length_nil]; omega) (by kernel_rfl)) ?_
      conv => whnf
      refine aback ⟨b'.drop (rnT b' e).2.1, (rnT b' e).2.2, out ++ [(rnT b' e).1]⟩ [(1, .lab 3)] [] rfl (by show n - (out ++ [(rnT b' e).1]).length < n - out.length; rw [List.length_append]; simp; omega)
        ⟨by show (out ++ [(rnT b' e).1]).length ≤ n; rw [List.length_append]; simp; omega, h2.snoc (rnT_ok b' e).1, drop_le h3, fun l0 r ha hl hb0 => (h4 l0 r ha hl hb0).step ha (by omega)⟩ ⟨⟨rfl, rfl, (snocI out _).symm⟩, (by repeat' (first | rfl | trivial | apply And.intro)), trivial⟩ ⟨rfl, trivial⟩
    · have he : e ≠ 0 := by simpa using h
      conv => whnf
      refine acallM [0] [] (by kernel_rfl) (errA b' e) rfl (by repeat' (first | rfl | trivial | apply And.intro)) (by repeat' (first | rfl | trivial | apply And.intro)) ?_
      rintro _ _ _ ⟨rfl, rfl, rfl⟩
      refine ⟨rfl, ?_⟩
      conv => whnf
      exact aend (.tup [.own 0, bv (e == 0)]) 1 _ [(0, .lab 1)] [] ⟨out, e == 0, fin fun h => absurd h he, rfl, rfl, rfl⟩ rfl (by repeat' (first | rfl | trivial | apply And.intro)) (by repeat' (first | rfl | trivial | apply And.intro))
  · have hlt : out.length = n := by simp at h; omega
    conv => whnf
    refine acallM [0] [] (by kernel_rfl) (errA b' e) rfl (by repeat' (first | rfl | trivial | apply And.intro)) (by repeat' (first | rfl | trivial | apply And.intro)) ?_
    rintro _ _ _ ⟨rfl, rfl, rfl⟩
    refine ⟨rfl, ?_⟩
    conv => whnf
    exact aend (.tup [.own 0, bv (e == 0)]) 1 _ [(0, .lab 1)] [] ⟨out, e == 0, fin fun _ => hlt, rfl, rfl, rfl⟩ rfl (by repeat' (first | rfl | trivial | apply And.intro)) (by repeat' (first | rfl | trivial | apply And.intro))
/-- the sums up to i, then the numbers -/
def smR (l : Li) (i : Nat) : Li := (sm 0 l).take i ++ l.drop i
theorem smR_len (l : Li) (i : Nat) (h : i ≤ l.length) : (smR l i).length = l.length := by unfold smR; rw [List.length_append, List.length_take, List.length_drop, sm_len]; omega
theorem smR_at {l : Li} {i : Nat} (h : i < l.length) : (smR l i)[i]? = some l[i] := by
  unfold smR
  rw [List.getElem?_append_right (by rw [List.length_take, sm_len]; omega), List.length_take, sm_len, Nat.min_eq_left (by omega), Nat.sub_self, List.getElem?_drop, Nat.add_zero, List.getElem?_eq_getElem h]
theorem smR_before {l : Li} {i : Nat} (h : i < l.length) (h0 : 0 < i) : (smR l i)[i - 1]? = some ((sm 0 l).getD (i - 1) 0) := by
  unfold smR
  rw [List.getElem?_append_left (by rw [List.length_take, sm_len]; omega), List.getElem?_take, if_pos (by omega), List.getD_eq_getElem?_getD, List.getElem?_eq_getElem (by rw [sm_len]; omega)]
  rfl
theorem smR_step {l : Li} {i : Nat} (h : i < l.length) (h0 : 0 < i) : smR l (i + 1) = (smR l i).set i (w64 (l[i] + (sm 0 l).getD (i - 1) 0)) := by
  obtain ⟨j, rfl⟩ : ∃ j, i = j + 1 := ⟨i - 1, by omega⟩
  have hs := sm_at l 0 j h
  have hg : l.getD (j + 1) 0 = l[j + 1] := by rw [List.getD_eq_getElem?_getD, List.getElem?_eq_getElem h]; rfl
  rw [hg, Int.add_comm] at hs
  have hlt : j + 1 < (sm 0 l).length := by rw [sm_len]; exact h
  unfold smR
  rw [List.take_succ_eq_append_getElem hlt, List.set_append_right _ _ (by rw [List.length_take]; omega), List.length_take, Nat.min_eq_left (by omega), Nat.sub_self, drop_cons h, List.set_cons_zero, List.append_assoc]
  rw [List.getElem?_eq_getElem hlt] at hs
  injection hs with hs
  rw [hs]
  rfl
theorem smR_one {l : Li} (h : AllI l) : smR l 1 = l := by
  cases l with
  | nil => rfl
  | cons x r =>
    have := w64_id (h x List.mem_cons_self)
    simp only [smR, sm, Int.zero_add, this]
    rfl
theorem dec_steps {b : By} {n : Nat} {l : Li} {ok : Bool} (h : DecR b1 b n l ok) : DecR b3 b n (sm 0 l) ok := by
  refine ⟨sm_all l 0, by rw [sm_len]; exact h.2.1, fun l0 r ha hl hb => ?_⟩
  have := h.2.2 (dl 0 l0) r (dl_all l0 0) (by rw [dl_len]; exact hl) (by rw [hb, ← st_dl]; rfl)
  exact ⟨this.1, by rw [this.2, sm_dl l0 0 ha]⟩
set_option maxHeartbeats 8000000 in
set_option maxRecDepth 100000 in
theorem readStepsA (b : By) (n : Nat) (hb : b.length ≤ 3000000) (hn : n ≤ 512) : AFn Tryz.prog GC 55 [bs b, iv n] 0 [] (DecA b3 b n) := by
  refine afn_of Tryz.func55 rfl mixed (by kernel_rfl) ?_
  conv => whnf
  (refine acallF [] (by kernel_rfl) (readPlainA b n hb hn) ?_ ?_; (focus (repeat' (first | rfl | trivial | apply And.intro))))
  rintro _ _ _ ⟨l, ok, hd, rfl, rfl, rfl⟩
  conv => whnf
  have hll := hd.2.1
  refine aloop ws55_1 1 [8] (fun i : Nat => [(8, iv i)]) (fun i => [(0, .rows 3 1 ((smR l i).map enI))]) (fun i => 1 ≤ i ∧ (l.length = 0 ∨ i ≤ l.length)) (fun i => l.length - i) [] [] 1 (by kernel_rfl) (fun _ => rfl) rfl ⟨Nat.le_refl _, by omega⟩ ⟨⟨rfl, rfl, by rw [smR_one hd.1]⟩, trivial⟩ ⟨rfl, trivial⟩ ?_
  rintro i ⟨hi1, hi2⟩
  have hsl : (smR l i).length = l.length := by
    rcases hi2 with h | h
    · have : l = [] := List.eq_nil_of_length_eq_zero h
      subst this; simp [smR, sm]
    · exact smR_len l i h
  conv => whnf
  refine vif_split (fun h => ?_) (fun h => ?_)
  · have hlt : i < l.length := by simp only [List.length_map, hsl] at h; simp at h; omega
    conv => whnf
    (refine adraw pln55 [] (by kernel_rfl) ?_; conv => whnf)
    repeat' (first
      | (refine AIn.mk' i rfl (by rw [List.length_map, hsl]; exact hlt) ?_; conv => whnf)
      | (refine AIn.mk' (i - 1) (by show (i : Int) - 1 = _; omega) (by rw [List.length_map, hsl]; omega) ?_; conv => whnf)
      | (refine ARd.mapAt (smR_at hlt) ?_; conv => whnf)
      | (refine ARd.mapAt (smR_before hlt hi1) ?_; conv => whnf)
      | (refine AAr.i64 (x := (i : Int) - 1) (by omega) ?_; conv => whnf)
      | (refine AAr.i64 (x := (i : Int) + 1) (by omega) ?_; conv => whnf)
      | (refine AAr.to rfl ?_; conv => whnf))
    refine aback (i + 1) [] [] rfl (by show l.length - (i + 1) < l.length - i; omega) ⟨by omega, .inr hlt⟩ ⟨⟨rfl, rfl, ?_⟩, trivial⟩ ⟨rfl, trivial⟩
    rw [smR_step hlt hi1, List.map_set]
    rfl
  · have hge : l.length ≤ i := by simp only [List.length_map, hsl] at h; simp at h; omega
    have e : smR l i = sm 0 l := by unfold smR; rw [List.drop_eq_nil_of_le hge, List.append_nil, List.take_of_length_le (by rw [sm_len]; exact hge)]
    conv => whnf
    exact aend (.tup [.own 0, bv ok]) 1 _ [(0, .lab 0)] [] ⟨sm 0 l, ok, dec_steps hd, rfl, rfl, by rw [← e]⟩ rfl (by repeat' (first | rfl | trivial | apply And.intro)) (by repeat' (first | rfl | trivial | apply And.intro))
end Go.Proofs.YtmhpfadbmpipkaaGreat.Cl

namespace Go.Proofs.YtmhpfadbmpipkaaGreat.Cl
open Go Go.RowKit Go.Proofs Go.Proofs.YtmhpfadbmpipkaaGreat.Vc Go.Proofs.YtmhpfadbmpipkaaGreat.Ax
attribute [local irreducible] loadVar storeVar Instr.indexAt Instr.index Instr.sliceAt Instr.makeSlice Instr.lookup Instr.mapUpdate Instr.range Instr.next Instr.entry Instr.makeMap Builtin.append_ Builtin.copy_ Builtin.len_ Builtin.min_ Builtin.max_ Builtin.cap_ Builtin.delete_ Builtin.clear_ convert binOp eqGuard Op.unary Calls
structure SX where
  b : By
  out : Li
set_option maxHeartbeats 8000000 in
set_option maxRecDepth 100000 in
theorem readRunsA (b : By) (n : Nat) (hb : b.length ≤ 3000000) (hn : n ≤ 512) : AFn Tryz.prog GC 53 [bs b, iv n] 0 [] (DecA b2 b n) := by
  refine afn_of Tryz.func53 rfl mixed (by kernel_rfl) ?_
  conv => whnf
  (refine acallF [] (by kernel_rfl) (newA b hb) ?_ ?_; (focus (repeat' (first | rfl | trivial | apply And.intro))))
  rintro _ _ _ ⟨rfl, rfl, rfl⟩
  conv => whnf
  refine aloop ws53_1 2 [7] (fun _ : SX => [(7, .own 1)]) (fun x => [(1, .rows 3 1 (x.out.map enI)), (0, rdB x.b 0)]) (fun x => x.out.length ≤ n ∧ AllI x.out ∧ x.b.length ≤ 3000000 ∧ Pr b n b2 (Q2 x.b x.out 0)) (fun x => n - x.out.length) [(1, .nil)] [] ⟨b, []⟩ (by kernel_rfl) (fun _ => rfl) rfl ⟨Nat.zero_le _, AllI.nil, hb, (Pr.start b n b2).mono fun l0 r _ _ h => Q2.start h⟩ ⟨rfl, (by repeat' (first | rfl | trivial | apply And.intro)), trivial⟩ ⟨trivial, trivial⟩ ?_
  rintro ⟨b', out⟩ ⟨h1, h2, h3, h4⟩
  change out.length ≤ n at h1
  change AllI out at h2
  change b'.length ≤ 3000000 at h3
  change Pr b n b2 (Q2 b' out 0) at h4
  conv => whnf
  refine vif_split (fun h => ?_) (fun h => ?_)
  rotate_left 1
  · have hlt : out.length = n := by simp at h; omega
    conv => whnf
    exact aend (.tup [.own 0, bv true]) 1 _ [(0, .lab 1)] [] ⟨out, true, ⟨h2, h1, h4.mono fun l0 r _ hl h => ⟨rfl, (h.fin (by omega)).1⟩⟩, rfl, rfl, rfl⟩ rfl (by repeat' (first | rfl | trivial | apply And.intro)) (by repeat' (first | rfl | trivial | apply And.intro))
  have hlt : out.length < n := by simp at h; omega
  conv => whnf
  refine acallM [0] [] (by kernel_rfl) (numberA b' 0 h3) rfl (by repeat' (first | rfl | trivial | apply And.intro)) (by repeat' (first | rfl | trivial | apply And.intro)) ?_
  rintro _ _ _ ⟨rfl, rfl, rfl⟩
  refine ⟨rfl, ?_⟩
  conv => whnf
  refine acallM [0] [] (by kernel_rfl) (numberA (b'.drop (rnT b' 0).2.1) (rnT b' 0).2.2 (drop_le h3)) rfl (by repeat' (first | rfl | trivial | apply And.intro)) (by repeat' (first | rfl | trivial | apply And.intro)) ?_
  rintro _ _ _ ⟨rfl, rfl, rfl⟩
  refine ⟨rfl, ?_⟩
  conv => whnf
  have hx := (rnT_ok b' 0).1
  have hb2 : ((b'.drop (rnT b' 0).2.1).drop (rnT (b'.drop (rnT b' 0).2.1) (rnT b' 0).2.2).2.1).length ≤ 3000000 := drop_le (drop_le h3)
  have step : Pr b n b2 fun l0 r => ∃ m : Nat, (rnT (b'.drop (rnT b' 0).2.1) (rnT b' 0).2.2).2.2 = 0 ∧ (rnT (b'.drop (rnT b' 0).2.1) (rnT b' 0).2.2).1 = ((m + 1 : Nat) : Int) ∧ m + 1 + out.length ≤ n ∧
      Q2 ((b'.drop (rnT b' 0).2.1).drop (rnT (b'.drop (rnT b' 0).2.1) (rnT b' 0).2.2).2.1) (out ++ List.replicate (m + 1) (rnT b' 0).1) 0 l0 r := fun l0 r ha hl hb0 => by
    have := (h4 l0 r ha hl hb0).step ha (by omega) (by omega)
    rw [hl] at this
    exact this
  generalize (rnT b' 0).1 = x at *
  generalize hq : rnT (b'.drop (rnT b' 0).2.1) (rnT b' 0).2.2 = t at *
  obtain ⟨kk, j, e⟩ := t
  simp only at step hb2 ⊢
  generalize (b'.drop (rnT b' 0).2.1).drop j = b2' at *
  refine acallM [0] [] (by kernel_rfl) (errA b2' e) rfl (by repeat' (first | rfl | trivial | apply And.intro)) (by repeat' (first | rfl | trivial | apply And.intro)) ?_
  rintro _ _ _ ⟨rfl, rfl, rfl⟩
  refine ⟨rfl, ?_⟩
  conv => whnf
  have bad : (¬ (e = 0 ∧ 1 ≤ kk ∧ kk ≤ (n : Int) - (out.length : Int))) → DecR b2 b n [] false := fun hbad => ⟨AllI.nil, Nat.zero_le _, fun l0 r ha hl hb0 => by
    obtain ⟨m, m1, m2, m3, _⟩ := step l0 r ha hl hb0
    exact absurd ⟨m1, by omega, by omega⟩ hbad⟩
  refine vif_split (fun h => ?_) (fun h => ?_)
  · have he : e ≠ 0 := by simpa using h
    conv => whnf
    exact aend (.tup [.own 0, bv false]) 1 [(0, .rows 3 1 [])] [(0, .nil)] [] ⟨[], false, bad fun h => he h.1, rfl, rfl, rfl⟩ rfl (by repeat' (first | rfl | trivial | apply And.intro)) (by repeat' (first | rfl | trivial | apply And.intro))
  have he : e = 0 := by simpa using h
  subst he
  conv => whnf
  refine vif_split (fun h => ?_) (fun h => ?_)
  · have hk : kk < 1 := by simpa using h
    conv => whnf
    exact aend (.tup [.own 0, bv false]) 1 [(0, .rows 3 1 [])] [(0, .nil)] [] ⟨[], false, bad fun h => by omega, rfl, rfl, rfl⟩ rfl (by repeat' (first | rfl | trivial | apply And.intro)) (by repeat' (first | rfl | trivial | apply And.intro))
  have hk : 1 ≤ kk := by simp at h; omega
  conv => whnf
  refine AAr.to (y := (n : Int) - (out.length : Int)) (by rw [List.length_map]; exact IntWalk.i64_in _ (by show _ ≤ (n : Int) - (out.length : Int) ∧ (n : Int) - (out.length : Int) ≤ _; omega)) ?_
  conv => whnf
  refine vif_split (fun h => ?_) (fun h => ?_)
  · have hk2 : (n : Int) - (out.length : Int) < kk := by simp at h; omega
    conv => whnf
    exact aend (.tup [.own 0, bv false]) 1 [(0, .rows 3 1 [])] [(0, .nil)] [] ⟨[], false, bad fun h => by omega, rfl, rfl, rfl⟩ rfl (by repeat' (first | rfl | trivial | apply And.intro)) (by repeat' (first | rfl | trivial | apply And.intro))
  have hk2 : kk ≤ (n : Int) - (out.length : Int) := by simp at h; omega
  obtain ⟨k, rfl⟩ : ∃ k : Nat, kk = (k : Int) := ⟨kk.toNat, by omega⟩
  conv => whnf
  (refine acallF [2] (by kernel_rfl) (repeatA x k (by omega) (by omega)) ?_ ?_; (focus (repeat' (first | rfl | trivial | apply And.intro))))
  rintro _ _ _ ⟨rfl, rfl, rfl⟩
  conv => whnf
  refine VReq.mk (app_ok (by simp only [List.length_map, List.length_append, List.length_replicate]; omega) (by kernel_rfl)) ?_
  conv => whnf
  refine aback ⟨b2', out ++ List.replicate k x⟩ [(1, .lab 4)] [] rfl (by show n - (out ++ List.replicate k x).length < n - out.length; rw [List.length_append, List.length_replicate]; omega)
    ⟨by show (out ++ List.replicate k x).length ≤ n; rw [List.length_append, List.length_replicate]; omega, h2.app (AllI.rep hx k), hb2, fun l0 r ha hl hb0 => ?_⟩ ⟨⟨rfl, rfl, by rw [List.map_append]⟩, (by repeat' (first | rfl | trivial | apply And.intro)), trivial⟩ ⟨rfl, trivial⟩
  obtain ⟨m, m1, m2, m3, m4⟩ := step l0 r ha hl hb0
  have : m + 1 = k := by omega
  rw [this] at m4
  exact m4
theorem cnT_rng (b : By) (e most em : Int) (hm : 0 ≤ most) (hem : em ≠ 0) : 0 ≤ (cnT b e most em).1 ∧ (cnT b e most em).1 ≤ most ∧ (cnT b e most em).2.1 = (rnT b e).2.1 ∧ ((cnT b e most em).2.2 = 0 → (rnT b e).2.2 = 0 ∧ (cnT b e most em).1 = (rnT b e).1) := by
  rw [cnT_def]
  generalize rnT b e = t
  obtain ⟨x, k, e'⟩ := t
  simp only
  by_cases h1 : e' = 0
  · by_cases h2 : x < 0
    · simp [h1, h2, hm]
    · by_cases h3 : most < x
      · simp [h1, h2, h3, hm, hem]
      · simp [h1, h2, h3]; omega
  · simp [h1, hm]
set_option maxHeartbeats 8000000 in
set_option maxRecDepth 100000 in
theorem readIndexA (b : By) (n : Nat) (hb : b.length ≤ 3000000) (hn : n ≤ 512) : AFn Tryz.prog GC 57 [bs b, iv n] 0 [] (DecA b4 b n) := by
  have hstart := Q4k.start (b := b) (n := n) hn (most := (n : Int)) (em := 5) (Int.le_refl _)
  have hcb : (b.drop (cnT b 0 n 5).2.1).length ≤ 3000000 := drop_le hb
  have hcnt := countA b 0 n hb (by omega)
  have hkk := cnT_rng b 0 (n : Int) 5 (by omega) (by decide)
  generalize cnT b 0 n 5 = t at *
  obtain ⟨kk, j, e0⟩ := t
  simp only at hstart hcb hcnt hkk
  have hkk := And.intro hkk.1 hkk.2.1
  generalize b.drop j = b0 at *
  obtain ⟨k, rfl⟩ : ∃ k : Nat, kk = (k : Int) := ⟨kk.toNat, by omega⟩
  refine afn_of Tryz.func57 rfl mixed (by kernel_rfl) ?_
  conv => whnf
  (refine acallF [] (by kernel_rfl) (newA b hb) ?_ ?_; (focus (repeat' (first | rfl | trivial | apply And.intro))))
  rintro _ _ _ ⟨rfl, rfl, rfl⟩
  conv => whnf
  refine acallM [0] [] (by kernel_rfl) hcnt rfl (by repeat' (first | rfl | trivial | apply And.intro)) (by repeat' (first | rfl | trivial | apply And.intro)) ?_
  rintro _ _ _ ⟨rfl, rfl, rfl⟩
  refine ⟨rfl, ?_⟩
  conv => whnf
  refine aloop ws57_1 2 [8] (fun _ : RX => [(8, .own 1)]) (fun x => [(1, .rows 3 1 (x.out.map enI)), (0, rdB x.b x.e)]) (fun x => x.out.length ≤ k ∧ AllI x.out ∧ x.b.length ≤ 3000000 ∧ Pr b n b4 (Q4k k x.b x.out x.e)) (fun x => k - x.out.length) [(1, .nil)] [] ⟨b0, e0, []⟩ (by kernel_rfl) (fun _ => rfl) rfl ⟨Nat.zero_le _, AllI.nil, hcb, fun l0 r ha hl hb0 => (hstart l0 r ha hl hb0).2⟩ ⟨rfl, (by repeat' (first | rfl | trivial | apply And.intro)), trivial⟩ ⟨trivial, trivial⟩ ?_
  rintro ⟨b', e, keys⟩ ⟨h1, h2, h3, h4⟩
  change keys.length ≤ k at h1
  change AllI keys at h2
  change b'.length ≤ 3000000 at h3
  change Pr b n b4 (Q4k k b' keys e) at h4
  conv => whnf
  refine vif_split (fun h => ?_) (fun h => ?_)
  · have hlt : keys.length < k := by simp at h; omega
    conv => whnf
    refine acallM [0] [] (by kernel_rfl) (errA b' e) rfl (by repeat' (first | rfl | trivial | apply And.intro)) (by repeat' (first | rfl | trivial | apply And.intro)) ?_
    rintro _ _ _ ⟨rfl, rfl, rfl⟩
    refine ⟨rfl, ?_⟩
    conv => whnf
    refine vif_split (fun h => ?_) (fun h => ?_)
    · have he : e = 0 := by simpa using h
      conv => whnf
      refine acallM [0] [] (by kernel_rfl) (numberA b' e h3) rfl (by repeat' (first | rfl | trivial | apply And.intro)) (by repeat' (first | rfl | trivial | apply And.intro)) ?_
      rintro _ _ _ ⟨rfl, rfl, rfl⟩
      refine ⟨rfl, ?_⟩
      conv => whnf
      refine VReq.mk (app_ok (by simp only [List.length_map, List.length_append, List.length_cons, List.length_nil]; omega) (by kernel_rfl)) ?_
      conv => whnf
      refine aback ⟨b'.drop (rnT b' e).2.1, (rnT b' e).2.2, keys ++ [(rnT b' e).1]⟩ [(1, .lab 3)] [] rfl (by show k - (keys ++ [(rnT b' e).1]).length < k - keys.length; rw [List.length_append]; simp; omega)
        ⟨by show (keys ++ [(rnT b' e).1]).length ≤ k; rw [List.length_append]; simp; omega, h2.snoc (rnT_ok b' e).1, drop_le h3, fun l0 r ha hl hb0 => ?_⟩ ⟨⟨rfl, rfl, (snocI keys _).symm⟩, (by repeat' (first | rfl | trivial | apply And.intro)), trivial⟩ ⟨rfl, trivial⟩
      obtain ⟨hk, hq⟩ := h4 l0 r ha hl hb0
      exact ⟨hk, hq.step (fun y hy => ha y ((ds_mem l0 y).1 hy)) (by omega)⟩
    have he : e ≠ 0 := by simpa using h
    have hx : e = 0 → keys.length = k := fun h => absurd h he
    conv => whnf
    refine aloop ws57_2 3 [9] (fun _ : RX => [(9, .own 2)]) (fun x => [(2, .rows 3 1 (x.out.map enI)), (1, .rows 3 1 (keys.map enI)), (0, rdB x.b x.e)]) (fun x => x.out.length ≤ n ∧ AllI x.out ∧ x.b.length ≤ 3000000 ∧ Pr b n b4 (Q4 keys x.b x.out x.e)) (fun x => n - x.out.length) [(2, .nil)] [] ⟨b', e, []⟩ (by kernel_rfl) (fun _ => rfl) rfl ⟨Nat.zero_le _, AllI.nil, h3, h4.mono fun l0 r _ _ h => Q4.start (fun he => by rw [hx he]) h⟩ ⟨rfl, ⟨rfl, rfl, rfl⟩, (by repeat' (first | rfl | trivial | apply And.intro)), trivial⟩ ⟨trivial, trivial⟩ ?_
    clear h3 h4 hx h1
    rintro ⟨b', e, out⟩ ⟨h1, h5, h3, h4⟩
    change out.length ≤ n at h1
    change AllI out at h5
    change b'.length ≤ 3000000 at h3
    change Pr b n b4 (Q4 keys b' out e) at h4
    conv => whnf
    refine vif_split (fun h => ?_) (fun h => ?_)
    rotate_left 1
    · have hlt : out.length = n := by simp at h; omega
      conv => whnf
      exact aend (.tup [.own 0, bv true]) 1 _ [(0, .lab 2)] [] ⟨out, true, ⟨h5, h1, h4.mono fun l0 r _ hl h => ⟨rfl, (h.fin (by omega)).1⟩⟩, rfl, rfl, rfl⟩ rfl (by repeat' (first | rfl | trivial | apply And.intro)) (by repeat' (first | rfl | trivial | apply And.intro))
    have hlt : out.length < n := by simp at h; omega
    have step : Pr b n b4 fun l0 r => ∃ (i : Nat) (x : Int), (rnT b' e).2.2 = 0 ∧ (rnT b' e).1 = (i : Int) ∧ keys[i]? = some x ∧ Q4 keys (b'.drop (rnT b' e).2.1) (out ++ [x]) 0 l0 r := fun l0 r ha hl hb0 => (h4 l0 r ha hl hb0).step (by omega) (by omega)
    have hnum := numberA b' e h3
    have hb2 : (b'.drop (rnT b' e).2.1).length ≤ 3000000 := drop_le h3
    generalize rnT b' e = t at *
    obtain ⟨ii, j, e2⟩ := t
    simp only at step hnum hb2
    generalize b'.drop j = b2' at *
    conv => whnf
    refine acallM [0] [] (by kernel_rfl) hnum rfl (by repeat' (first | rfl | trivial | apply And.intro)) (by repeat' (first | rfl | trivial | apply And.intro)) ?_
    rintro _ _ _ ⟨rfl, rfl, rfl⟩
    refine ⟨rfl, ?_⟩
    conv => whnf
    refine acallM [0] [] (by kernel_rfl) (errA b2' e2) rfl (by repeat' (first | rfl | trivial | apply And.intro)) (by repeat' (first | rfl | trivial | apply And.intro)) ?_
    rintro _ _ _ ⟨rfl, rfl, rfl⟩
    refine ⟨rfl, ?_⟩
    conv => whnf
    have bad : (¬ (e2 = 0 ∧ 0 ≤ ii ∧ ii < (keys.length : Int))) → DecR b4 b n [] false := fun hbad => ⟨AllI.nil, Nat.zero_le _, fun l0 r ha hl hb0 => by
      obtain ⟨i, x, m1, m2, m3, _⟩ := step l0 r ha hl hb0
      have := (List.getElem?_eq_some_iff.1 m3).1
      exact absurd ⟨m1, by omega, by omega⟩ hbad⟩
    refine vif_split (fun h => ?_) (fun h => ?_)
    · have he : e2 ≠ 0 := by simpa using h
      conv => whnf
      exact aend (.tup [.own 0, bv false]) 1 [(0, .rows 3 1 [])] [(0, .nil)] [] ⟨[], false, bad fun h => he h.1, rfl, rfl, rfl⟩ rfl (by repeat' (first | rfl | trivial | apply And.intro)) (by repeat' (first | rfl | trivial | apply And.intro))
    have he : e2 = 0 := by simpa using h
    subst he
    conv => whnf
    refine vif_split (fun h => ?_) (fun h => ?_)
    · have hk : ii < 0 := by simpa using h
      conv => whnf
      exact aend (.tup [.own 0, bv false]) 1 [(0, .rows 3 1 [])] [(0, .nil)] [] ⟨[], false, bad fun h => by omega, rfl, rfl, rfl⟩ rfl (by repeat' (first | rfl | trivial | apply And.intro)) (by repeat' (first | rfl | trivial | apply And.intro))
    have hk : 0 ≤ ii := by simp at h; omega
    conv => whnf
    refine vif_split (fun h => ?_) (fun h => ?_)
    · have hk2 : (keys.length : Int) ≤ ii := by simp at h; omega
      conv => whnf
      exact aend (.tup [.own 0, bv false]) 1 [(0, .rows 3 1 [])] [(0, .nil)] [] ⟨[], false, bad fun h => by omega, rfl, rfl, rfl⟩ rfl (by repeat' (first | rfl | trivial | apply And.intro)) (by repeat' (first | rfl | trivial | apply And.intro))
    have hk2 : ii < (keys.length : Int) := by simp at h; omega
    obtain ⟨i, rfl⟩ : ∃ i : Nat, ii = (i : Int) := ⟨ii.toNat, by omega⟩
    have hil : i < keys.length := by omega
    conv => whnf
    refine AIn.mk' i rfl (by rw [List.length_map]; exact hil) ?_
    conv => whnf
    refine ARd.map hil ?_
    conv => whnf
    refine VReq.mk (app_ok (by simp only [List.length_map, List.length_append, List.length_cons, List.length_nil]; omega) (by kernel_rfl)) ?_
    conv => whnf
    refine aback ⟨b2', 0, out ++ [keys[i]]⟩ [(2, .lab 4)] [] rfl (by show n - (out ++ [keys[i]]).length < n - out.length; rw [List.length_append]; simp; omega)
      ⟨by show (out ++ [keys[i]]).length ≤ n; rw [List.length_append]; simp; omega, h5.snoc (h2 _ (List.getElem_mem hil)), hb2, fun l0 r ha hl hb0 => ?_⟩ ⟨⟨rfl, rfl, (snocI out _).symm⟩, ⟨rfl, rfl, rfl⟩, (by repeat' (first | rfl | trivial | apply And.intro)), trivial⟩ ⟨rfl, trivial⟩
    obtain ⟨i', x, m1, m2, m3, m4⟩ := step l0 r ha hl hb0
    have : i' = i := by omega
    subst this
    rw [List.getElem?_eq_getElem hil] at m3
    injection m3 with m3
    rw [m3]
    exact m4
  · have hlt : keys.length = k := by simp at h; omega
    have hx : e = 0 → keys.length = k := fun _ => hlt
    conv => whnf
    refine aloop ws57_2 3 [9] (fun _ : RX => [(9, .own 2)]) (fun x => [(2, .rows 3 1 (x.out.map enI)), (1, .rows 3 1 (keys.map enI)), (0, rdB x.b x.e)]) (fun x => x.out.length ≤ n ∧ AllI x.out ∧ x.b.length ≤ 3000000 ∧ Pr b n b4 (Q4 keys x.b x.out x.e)) (fun x => n - x.out.length) [(2, .nil)] [] ⟨b', e, []⟩ (by kernel_rfl) (fun _ => rfl) rfl ⟨Nat.zero_le _, AllI.nil, h3, h4.mono fun l0 r _ _ h => Q4.start (fun he => by rw [hx he]) h⟩ ⟨rfl, ⟨rfl, rfl, rfl⟩, (by repeat' (first | rfl | trivial | apply And.intro)), trivial⟩ ⟨trivial, trivial⟩ ?_
    clear h3 h4 hx h1
    rintro ⟨b', e, out⟩ ⟨h1, h5, h3, h4⟩
    change out.length ≤ n at h1
    change AllI out at h5
    change b'.length ≤ 3000000 at h3
    change Pr b n b4 (Q4 keys b' out e) at h4
    conv => whnf
    refine vif_split (fun h => ?_) (fun h => ?_)
    rotate_left 1
    · have hlt : out.length = n := by simp at h; omega
      conv => whnf
      exact aend (.tup [.own 0, bv true]) 1 _ [(0, .lab 2)] [] ⟨out, true, ⟨h5, h1, h4.mono fun l0 r _ hl h => ⟨rfl, (h.fin (by omega)).1⟩⟩, rfl, rfl, rfl⟩ rfl (by repeat' (first | rfl | trivial | apply And.intro)) (by repeat' (first | rfl | trivial | apply And.intro))
    have hlt : out.length < n := by simp at h; omega
    have step : Pr b n b4 fun l0 r => ∃ (i : Nat) (x : Int), (rnT b' e).2.2 = 0 ∧ (rnT b' e).1 = (i : Int) ∧ keys[i]? = some x ∧ Q4 keys (b'.drop (rnT b' e).2.1) (out ++ [x]) 0 l0 r := fun l0 r ha hl hb0 => (h4 l0 r ha hl hb0).step (by omega) (by omega)
    have hnum := numberA b' e h3
    have hb2 : (b'.drop (rnT b' e).2.1).length ≤ 3000000 := drop_le h3
    generalize rnT b' e = t at *
    obtain ⟨ii, j, e2⟩ := t
    simp only at step hnum hb2
    generalize b'.drop j = b2' at *
    conv => whnf
    refine acallM [0] [] (by kernel_rfl) hnum rfl (by repeat' (first | rfl | trivial | apply And.intro)) (by repeat' (first | rfl | trivial | apply And.intro)) ?_
    rintro _ _ _ ⟨rfl, rfl, rfl⟩
    refine ⟨rfl, ?_⟩
    conv => whnf
    refine acallM [0] [] (by kernel_rfl) (errA b2' e2) rfl (by repeat' (first | rfl | trivial | apply And.intro)) (by repeat' (first | rfl | trivial | apply And.intro)) ?_
    rintro _ _ _ ⟨rfl, rfl, rfl⟩
    refine ⟨rfl, ?_⟩
    conv => whnf
    have bad : (¬ (e2 = 0 ∧ 0 ≤ ii ∧ ii < (keys.length : Int))) → DecR b4 b n [] false := fun hbad => ⟨AllI.nil, Nat.zero_le _, fun l0 r ha hl hb0 => by
      obtain ⟨i, x, m1, m2, m3, _⟩ := step l0 r ha hl hb0
      have := (List.getElem?_eq_some_iff.1 m3).1
      exact absurd ⟨m1, by omega, by omega⟩ hbad⟩
    refine vif_split (fun h => ?_) (fun h => ?_)
    · have he : e2 ≠ 0 := by simpa using h
      conv => whnf
      exact aend (.tup [.own 0, bv false]) 1 [(0, .rows 3 1 [])] [(0, .nil)] [] ⟨[], false, bad fun h => he h.1, rfl, rfl, rfl⟩ rfl (by repeat' (first | rfl | trivial | apply And.intro)) (by repeat' (first | rfl | trivial | apply And.intro))
    have he : e2 = 0 := by simpa using h
    subst he
    conv => whnf
    refine vif_split (fun h => ?_) (fun h => ?_)
    · have hk : ii < 0 := by simpa using h
      conv => whnf
      exact aend (.tup [.own 0, bv false]) 1 [(0, .rows 3 1 [])] [(0, .nil)] [] ⟨[], false, bad fun h => by omega, rfl, rfl, rfl⟩ rfl (by repeat' (first | rfl | trivial | apply And.intro)) (by repeat' (first | rfl | trivial | apply And.intro))
    have hk : 0 ≤ ii := by simp at h; omega
    conv => whnf
    refine vif_split (fun h => ?_) (fun h => ?_)
    · have hk2 : (keys.length : Int) ≤ ii := by simp at h; omega
      conv => whnf
      exact aend (.tup [.own 0, bv false]) 1 [(0, .rows 3 1 [])] [(0, .nil)] [] ⟨[], false, bad fun h => by omega, rfl, rfl, rfl⟩ rfl (by repeat' (first | rfl | trivial | apply And.intro)) (by repeat' (first | rfl | trivial | apply And.intro))
    have hk2 : ii < (keys.length : Int) := by simp at h; omega
    obtain ⟨i, rfl⟩ : ∃ i : Nat, ii = (i : Int) := ⟨ii.toNat, by omega⟩
    have hil : i < keys.length := by omega
    conv => whnf
    refine AIn.mk' i rfl (by rw [List.length_map]; exact hil) ?_
    conv => whnf
    refine ARd.map hil ?_
    conv => whnf
    refine VReq.mk (app_ok (by simp only [List.length_map, List.length_append, List.length_cons, List.length_nil]; omega) (by kernel_rfl)) ?_
    conv => whnf
    refine aback ⟨b2', 0, out ++ [keys[i]]⟩ [(2, .lab 4)] [] rfl (by show n - (out ++ [keys[i]]).length < n - out.length; rw [List.length_append]; simp; omega)
      ⟨by show (out ++ [keys[i]]).length ≤ n; rw [List.length_append]; simp; omega, h5.snoc (h2 _ (List.getElem_mem hil)), hb2, fun l0 r ha hl hb0 => ?_⟩ ⟨⟨rfl, rfl, (snocI out _).symm⟩, ⟨rfl, rfl, rfl⟩, (by repeat' (first | rfl | trivial | apply And.intro)), trivial⟩ ⟨rfl, trivial⟩
    obtain ⟨i', x, m1, m2, m3, m4⟩ := step l0 r ha hl hb0
    have : i' = i := by omega
    subst this
    rw [List.getElem?_eq_getElem hil] at m3
    injection m3 with m3
    rw [m3]
    exact m4
end Go.Proofs.YtmhpfadbmpipkaaGreat.Cl
