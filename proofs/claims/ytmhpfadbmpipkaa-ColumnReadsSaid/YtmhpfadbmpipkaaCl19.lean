/- The walks of column's decoders: plain numbers and steps. Condition: sizes. -/
import Derived.Test.YtmhpfadbmpipkaaCl18
set_option linter.unusedVariables false
set_option linter.unusedSimpArgs false
namespace Go.Proofs.Ytmhpfadbmpipkaa.Cl
open Go Go.RowKit Go.Proofs Go.Proofs.Ytmhpfadbmpipkaa.Vc Go.Proofs.Ytmhpfadbmpipkaa.Ax
attribute [local irreducible] loadVar storeVar Instr.indexAt Instr.index Instr.sliceAt Instr.makeSlice Instr.lookup Instr.mapUpdate Instr.range Instr.next Instr.entry Instr.makeMap Builtin.append_ Builtin.copy_ Builtin.len_ Builtin.min_ Builtin.max_ Builtin.cap_ Builtin.delete_ Builtin.clear_ convert binOp eqGuard Op.unary Calls
/-- what a decoder answers: a list in memory of its own, and whether it is good -/
def DecA (body : Li → By) (b : By) (n : Nat) (a : AV) (m : Nat) (H : AHeap) : Prop := ∃ l ok, DecR body b n l ok ∧ a = .tup [.own 0, bv ok] ∧ m = 1 ∧ H = [(0, .rows 3 1 (l.map enI))]
structure RX where
  b : By
  e : Int
  out : Li
theorem drop_le {b : By} {m k : Nat} (h : b.length ≤ m) : (b.drop k).length ≤ m := by rw [List.length_drop]; omega
set_option maxHeartbeats 8000000 in
set_option maxRecDepth 100000 in
theorem readPlainA (b : By) (n : Nat) (hb : b.length ≤ 3000000) (hn : n ≤ 512) : AFn Try.prog GC 27 [bs b, iv n] 0 [] (DecA b1 b n) := by
  refine afn_of Try.func27 rfl mixed (by kernel_rfl) ?_
  conv => whnf
  (refine acallF [] (by kernel_rfl) (newA b hb) ?_ ?_; (focus (repeat' (first | rfl | trivial | apply And.intro))))
  rintro _ _ _ ⟨rfl, rfl, rfl⟩
  conv => whnf
  refine aloop ws27_1 2 [7] (fun _ : RX => [(7, .own 1)]) (fun x => [(1, .rows 3 1 (x.out.map enI)), (0, rdB x.b x.e)]) (fun x => x.out.length ≤ n ∧ AllI x.out ∧ x.b.length ≤ 3000000 ∧ Pr b n b1 (Q1 x.b x.out x.e)) (fun x => n - x.out.length) [(1, .nil)] [] ⟨b, 0, []⟩ (by kernel_rfl) (fun _ => rfl) rfl ⟨Nat.zero_le _, AllI.nil, hb, (Pr.start b n b1).mono fun l0 r _ _ h => Q1.start h⟩ ⟨rfl, (by repeat' (first | rfl | trivial | apply And.intro)), trivial⟩ ⟨trivial, trivial⟩ ?_
  rintro ⟨b', e, out⟩ ⟨h1, h2, h3, h4⟩
  change out.length ≤ n at h1
  change AllI out at h2
  change b'.length ≤ 3000000 at h3
  change Pr b n b1 (Q1 b' out e) at h4
  have fin : ((e = 0 → out.length = n)) → DecR b1 b n out (e == 0) := fun hx => ⟨h2, h1, h4.mono fun l0 r _ hl h => by
    have := h.fin fun he => by rw [hx he, hl]
    exact ⟨by simp [this.1], this.2.1⟩⟩
  conv => whnf
  refine vif_split (fun h => ?_) (fun h => ?_)
  · have hlt : out.length < n := by simp at h; omega
    conv => whnf
    refine acallM [0] [] (by kernel_rfl) (errA b' e) rfl (by repeat' (first | rfl | trivial | apply And.intro)) (by repeat' (first | rfl | trivial | apply And.intro)) ?_
    rintro _ _ _ ⟨rfl, rfl, rfl⟩
    refine ⟨rfl, ?_⟩
    conv => whnf
    refine vif_split (fun h => ?_) (fun h => ?_)
    · have he : e = 0 := by simpa using h
      conv => whnf
      refine acallM [0] [] (by kernel_rfl) (numberA b' e h3) rfl (by repeat' (first | rfl | trivial | apply And.intro)) (by repeat' (first | rfl | trivial | apply And.intro)) ?_
      rintro _ _ _ ⟨rfl, rfl, rfl⟩
      refine ⟨rfl, ?_⟩
      conv => whnf
      refine VReq.mk (app_ok (by simp only [List.length_map, List.length_append, List.length_cons, List.length_nil]; omega) (by kernel_rfl)) ?_
      conv => whnf
      refine aback ⟨b'.drop (rnT b' e).2.1, (rnT b' e).2.2, out ++ [(rnT b' e).1]⟩ [(1, .lab 3)] [] rfl (by show n - (out ++ [(rnT b' e).1]).length < n - out.length; rw [List.length_append]; simp; omega)
        ⟨by show (out ++ [(rnT b' e).1]).length ≤ n; rw [List.length_append]; simp; omega, h2.snoc (rnT_ok b' e).1, drop_le h3, fun l0 r ha hl hb0 => (h4 l0 r ha hl hb0).step ha (by omega)⟩ ⟨⟨rfl, rfl, (snocI out _).symm⟩, (by repeat' (first | rfl | trivial | apply And.intro)), trivial⟩ ⟨rfl, trivial⟩
    · have he : e ≠ 0 := by simpa using h
      conv => whnf
      refine acallM [0] [] (by kernel_rfl) (errA b' e) rfl (by repeat' (first | rfl | trivial | apply And.intro)) (by repeat' (first | rfl | trivial | apply And.intro)) ?_
      rintro _ _ _ ⟨rfl, rfl, rfl⟩
      refine ⟨rfl, ?_⟩
      conv => whnf
      exact aend (.tup [.own 0, bv (e == 0)]) 1 _ [(0, .lab 1)] [] ⟨out, e == 0, fin fun h => absurd h he, rfl, rfl, rfl⟩ rfl (by repeat' (first | rfl | trivial | apply And.intro)) (by repeat' (first | rfl | trivial | apply And.intro))
  · have hlt : out.length = n := by simp at h; omega
    conv => whnf
    refine acallM [0] [] (by kernel_rfl) (errA b' e) rfl (by repeat' (first | rfl | trivial | apply And.intro)) (by repeat' (first | rfl | trivial | apply And.intro)) ?_
    rintro _ _ _ ⟨rfl, rfl, rfl⟩
    refine ⟨rfl, ?_⟩
    conv => whnf
    exact aend (.tup [.own 0, bv (e == 0)]) 1 _ [(0, .lab 1)] [] ⟨out, e == 0, fin fun _ => hlt, rfl, rfl, rfl⟩ rfl (by repeat' (first | rfl | trivial | apply And.intro)) (by repeat' (first | rfl | trivial | apply And.intro))
/-- the sums up to i, then the numbers -/
def smR (l : Li) (i : Nat) : Li := (sm 0 l).take i ++ l.drop i
theorem smR_len (l : Li) (i : Nat) (h : i ≤ l.length) : (smR l i).length = l.length := by unfold smR; rw [List.length_append, List.length_take, List.length_drop, sm_len]; omega
theorem smR_at {l : Li} {i : Nat} (h : i < l.length) : (smR l i)[i]? = some l[i] := by
  unfold smR
  rw [List.getElem?_append_right (by rw [List.length_take, sm_len]; omega), List.length_take, sm_len, Nat.min_eq_left (by omega), Nat.sub_self, List.getElem?_drop, Nat.add_zero, List.getElem?_eq_getElem h]
theorem smR_before {l : Li} {i : Nat} (h : i < l.length) (h0 : 0 < i) : (smR l i)[i - 1]? = some ((sm 0 l).getD (i - 1) 0) := by
  unfold smR
  rw [List.getElem?_append_left (by rw [List.length_take, sm_len]; omega), List.getElem?_take, if_pos (by omega), List.getD_eq_getElem?_getD, List.getElem?_eq_getElem (by rw [sm_len]; omega)]
  rfl
theorem smR_step {l : Li} {i : Nat} (h : i < l.length) (h0 : 0 < i) : smR l (i + 1) = (smR l i).set i (w64 (l[i] + (sm 0 l).getD (i - 1) 0)) := by
  obtain ⟨j, rfl⟩ : ∃ j, i = j + 1 := ⟨i - 1, by omega⟩
  have hs := sm_at l 0 j h
  have hg : l.getD (j + 1) 0 = l[j + 1] := by rw [List.getD_eq_getElem?_getD, List.getElem?_eq_getElem h]; rfl
  rw [hg, Int.add_comm] at hs
  have hlt : j + 1 < (sm 0 l).length := by rw [sm_len]; exact h
  unfold smR
  rw [List.take_succ_eq_append_getElem hlt, List.set_append_right _ _ (by rw [List.length_take]; omega), List.length_take, Nat.min_eq_left (by omega), Nat.sub_self, drop_cons h, List.set_cons_zero, List.append_assoc]
  rw [List.getElem?_eq_getElem hlt] at hs
  injection hs with hs
  rw [hs]
  rfl
theorem smR_one {l : Li} (h : AllI l) : smR l 1 = l := by
  cases l with
  | nil => rfl
  | cons x r =>
    have := w64_id (h x List.mem_cons_self)
    simp only [smR, sm, Int.zero_add, this]
    rfl
theorem dec_steps {b : By} {n : Nat} {l : Li} {ok : Bool} (h : DecR b1 b n l ok) : DecR b3 b n (sm 0 l) ok := by
  refine ⟨sm_all l 0, by rw [sm_len]; exact h.2.1, fun l0 r ha hl hb => ?_⟩
  have := h.2.2 (dl 0 l0) r (dl_all l0 0) (by rw [dl_len]; exact hl) (by rw [hb, ← st_dl]; rfl)
  exact ⟨this.1, by rw [this.2, sm_dl l0 0 ha]⟩
set_option maxHeartbeats 8000000 in
set_option maxRecDepth 100000 in
theorem readStepsA (b : By) (n : Nat) (hb : b.length ≤ 3000000) (hn : n ≤ 512) : AFn Try.prog GC 31 [bs b, iv n] 0 [] (DecA b3 b n) := by
  refine afn_of Try.func31 rfl mixed (by kernel_rfl) ?_
  conv => whnf
  (refine acallF [] (by kernel_rfl) (readPlainA b n hb hn) ?_ ?_; (focus (repeat' (first | rfl | trivial | apply And.intro))))
  rintro _ _ _ ⟨l, ok, hd, rfl, rfl, rfl⟩
  conv => whnf
  have hll := hd.2.1
  refine aloop ws31_1 1 [8] (fun i : Nat => [(8, iv i)]) (fun i => [(0, .rows 3 1 ((smR l i).map enI))]) (fun i => 1 ≤ i ∧ (l.length = 0 ∨ i ≤ l.length)) (fun i => l.length - i) [] [] 1 (by kernel_rfl) (fun _ => rfl) rfl ⟨Nat.le_refl _, by omega⟩ ⟨⟨rfl, rfl, by rw [smR_one hd.1]⟩, trivial⟩ ⟨rfl, trivial⟩ ?_
  rintro i ⟨hi1, hi2⟩
  have hsl : (smR l i).length = l.length := by
    rcases hi2 with h | h
    · have : l = [] := List.eq_nil_of_length_eq_zero h
      subst this; simp [smR, sm]
    · exact smR_len l i h
  conv => whnf
  refine vif_split (fun h => ?_) (fun h => ?_)
  · have hlt : i < l.length := by simp only [List.length_map, hsl] at h; simp at h; omega
    conv => whnf
    (refine adraw pln31 [] (by kernel_rfl) ?_; conv => whnf)
    repeat' (first
      | (refine AIn.mk' i rfl (by rw [List.length_map, hsl]; exact hlt) ?_; conv => whnf)
      | (refine AIn.mk' (i - 1) (by show (i : Int) - 1 = _; omega) (by rw [List.length_map, hsl]; omega) ?_; conv => whnf)
      | (refine ARd.mapAt (smR_at hlt) ?_; conv => whnf)
      | (refine ARd.mapAt (smR_before hlt hi1) ?_; conv => whnf)
      | (refine AAr.i64 (x := (i : Int) - 1) (by omega) ?_; conv => whnf)
      | (refine AAr.i64 (x := (i : Int) + 1) (by omega) ?_; conv => whnf)
      | (refine AAr.to rfl ?_; conv => whnf))
    refine aback (i + 1) [] [] rfl (by show l.length - (i + 1) < l.length - i; omega) ⟨by omega, .inr hlt⟩ ⟨⟨rfl, rfl, ?_⟩, trivial⟩ ⟨rfl, trivial⟩
    rw [smR_step hlt hi1, List.map_set]
    rfl
  · have hge : l.length ≤ i := by simp only [List.length_map, hsl] at h; simp at h; omega
    have e : smR l i = sm 0 l := by unfold smR; rw [List.drop_eq_nil_of_le hge, List.append_nil, List.take_of_length_le (by rw [sm_len]; exact hge)]
    conv => whnf
    exact aend (.tup [.own 0, bv ok]) 1 _ [(0, .lab 0)] [] ⟨sm 0 l, ok, dec_steps hd, rfl, rfl, by rw [← e]⟩ rfl (by repeat' (first | rfl | trivial | apply And.intro)) (by repeat' (first | rfl | trivial | apply And.intro))
end Go.Proofs.Ytmhpfadbmpipkaa.Cl
