/- The walks of the reference's Links and of its metric Value. Condition: sizes. The walk of the reference's First. Condition: the events' times ascend; sizes. -/
import Derived.Test.YtmnjmdajgilhiaaDoorJv
set_option linter.unusedVariables false
set_option linter.unusedSimpArgs false
namespace Go.Proofs.YtmnjmdajgilhiaaDoor.Cl
open Go Go.RowKit Go.Proofs Go.Proofs.YtmnjmdajgilhiaaDoor.Vc Go.Proofs.YtmnjmdajgilhiaaDoor.Ax Go.Proofs.YtmnjmdajgilhiaaDoor.Ky Go.Proofs.YtmnjmdajgilhiaaDoor.Id
attribute [local irreducible] loadVar storeVar Instr.indexAt Instr.index Instr.sliceAt Instr.makeSlice Instr.lookup Instr.mapUpdate Instr.range Instr.next Instr.entry Instr.makeMap Builtin.append_ Builtin.copy_ Builtin.len_ Builtin.min_ Builtin.max_ Builtin.cap_ Builtin.delete_ Builtin.clear_ convert binOp eqGuard Op.unary Calls
section
variable {G : Glob}
set_option maxHeartbeats 4000000 in
set_option maxRecDepth 100000 in
theorem links2A (l : List Ev) (hl : l.length ≤ 100000) : AFn Tryd.prog G 21 [el l] 0 [] (Is (lksA (lksE l))) := by
  refine afn_of Tryd.func21 rfl mixed (by kernel_rfl) ?_
  conv => whnf
  refine aloop ws21_1 1 [3, 4] (fun i : Nat => [(3, .own 0), (4, iv i)]) (fun i => [(0, .rows 84 3 ((lksE (l.take i)).map lkF))]) (fun i => i ≤ l.length) (fun i => l.length - i) [(0, .nil)] [] 0 (by kernel_rfl) (fun _ => rfl) rfl (Nat.zero_le _) ⟨rfl, trivial⟩ ⟨trivial, rfl, trivial⟩ ?_
  intro i hi
  have hol : (lksE (l.take i)).length ≤ i := by
    unfold lksE
    have := ofK_le 3 (l.take i)
    rw [List.length_take] at this
    rw [List.length_map]; omega
  conv => whnf
  refine vif_split (fun h => ?_) (fun h => ?_)
  · have hlt : i < l.length := by simp at h; omega
    have hsn := ofK_take (k := 3) hlt
    have hg := List.getElem?_eq_getElem hlt
    generalize l[i] = e at *
    conv => whnf
    refine AIn.mk' i rfl (by rw [List.length_map]; exact hlt) ?_
    conv => whnf
    refine ARd.mapAt hg ?_
    conv => whnf
    refine vif_split (fun h1 => ?_) (fun h1 => ?_)
    · rw [if_pos (by simpa using h1)] at hsn
      conv => whnf
      (refine adraw pln21 [] (by kernel_rfl) ?_; conv => whnf)
      repeat' (first
        | (refine And.intro ?_ ?_ <;> (conv => whnf))
        | (refine AIn.mk' i rfl (by rw [List.length_map]; exact hlt) ?_; conv => whnf)
        | (refine ARd.mapAt hg ?_; conv => whnf))
      refine VReq.mk (app_ok (by simp only [List.length_map, List.length_cons, List.length_nil]; omega) (by kernel_rfl)) ?_
      conv => whnf
      refine AAr.i64 (by omega) ?_
      conv => whnf
      refine aback (i + 1) [(0, .lab 2)] [] rfl (by show l.length - (i + 1) < l.length - i; omega) hlt ⟨⟨rfl, rfl, ?_⟩, trivial⟩ (by repeat' (first | rfl | trivial | apply And.intro))
      show _ = (lksE (l.take (i + 1))).map lkF
      unfold lksE
      rw [hsn, List.map_append, List.map_append]
      rfl
    · rw [if_neg (by simpa using h1)] at hsn
      conv => whnf
      refine AAr.i64 (by omega) ?_
      conv => whnf
      refine aback (i + 1) [(0, .lab 0)] [] rfl (by show l.length - (i + 1) < l.length - i; omega) hlt ⟨⟨rfl, rfl, ?_⟩, trivial⟩ (by repeat' (first | rfl | trivial | apply And.intro))
      show _ = (lksE (l.take (i + 1))).map lkF
      unfold lksE
      rw [hsn]
  · have hie : i = l.length := by simp at h; omega
    subst hie
    rw [List.take_length]
    conv => whnf
    exact aret [0] (by repeat' (first | rfl | trivial | apply And.intro))
theorem lk_src {n : Nat} {σ : Nat → Ax.Loc} {F : Nat → Prop} {w : World} {l : List Lk} {v : Value} (h : ARep n σ F w (lksA l) v) (hF : ∀ b, F b → b < w.heap.size) :
    ∃ oa cap, v = .slice oa l.length cap ∧ l.length ≤ cap ∧ (oa = none → cap = 0) ∧ Row w oa (recs lkc l) := flat_src (sz := 3) (enc := lkF) (c := lkc) (fun _ => rfl) h hF
theorem same2A (ls : List Lk) (x y : ByteArray) (h : ls.length ≤ 1000000) : AFn Tryd.prog G 27 [lksA ls, sv x, sv y] 0 [] (Is (bv (decide (rt ls x = rt ls y)))) :=
  afn_flat fun w σ F vs hG hF r => by
    match vs, r with
    | [v, u, z], ⟨r1, r2, r3, _⟩ =>
    obtain ⟨oa, c, rfl, _, _, hr⟩ := lk_src r1 hF
    rw [r2.v_eq, r3.v_eq]
    exact same2_ok oa c ls x y w hr h
/-- the exposures all lie before a time -/
def before (t : Int) (xs : List Ex) : Prop := ∀ x ∈ xs, x.time ≤ t
theorem owI_neg {ls : List Lk} {xs : List Ex} {id : By} {t : Int} (hb : before t xs) : owI ls xs id t < 0 ↔ ∀ x ∈ xs, ¬ rtA ls t x.id = rtA ls t id := by
  unfold owI
  cases h : owO ls xs id t with
  | some i =>
    obtain ⟨hi, hp⟩ := owO_lt h
    refine ⟨fun h => absurd h (by show ¬ (i : Int) < 0; omega), fun h => ?_⟩
    unfold owP at hp
    simp only [Bool.and_eq_true, decide_eq_true_eq] at hp
    exact absurd hp.2 (h _ (List.getElem_mem hi))
  | none =>
    refine ⟨fun _ x hx e => ?_, fun _ => by show (-1 : Int) < 0; decide⟩
    unfold owO at h
    rw [List.findIdx?_eq_none_iff] at h
    have := h x hx
    unfold owP at this
    rw [decide_eq_true (hb x hx), decide_eq_true e] at this
    cases this
end
end Go.Proofs.YtmnjmdajgilhiaaDoor.Cl

namespace Go.Proofs.YtmnjmdajgilhiaaDoor.Cl
open Go Go.RowKit Go.Proofs Go.Proofs.YtmnjmdajgilhiaaDoor.Vc Go.Proofs.YtmnjmdajgilhiaaDoor.Ax Go.Proofs.YtmnjmdajgilhiaaDoor.Ky Go.Proofs.YtmnjmdajgilhiaaDoor.Id
attribute [local irreducible] loadVar storeVar Instr.indexAt Instr.index Instr.sliceAt Instr.makeSlice Instr.lookup Instr.mapUpdate Instr.range Instr.next Instr.entry Instr.makeMap Builtin.append_ Builtin.copy_ Builtin.len_ Builtin.min_ Builtin.max_ Builtin.cap_ Builtin.delete_ Builtin.clear_ convert binOp eqGuard Op.unary Calls
theorem fstX_from (ls : List Lk) (name : By) (es : List Ev) : ∀ x ∈ fstX ls name es, ∃ e ∈ es, x = exE e := by
  have : ∀ (es : List Ev) (o : List Ex), ∀ x ∈ es.foldl (fstN ls name) o, x ∈ o ∨ ∃ e ∈ es, x = exE e := by
    intro es
    induction es with
    | nil => intro o x hx; exact .inl hx
    | cons e r ih =>
      intro o x hx
      rw [List.foldl_cons] at hx
      rcases ih _ x hx with h | ⟨e', h1, h2⟩
      · unfold fstN at h
        split at h
        · rcases List.mem_append.1 h with h | h
          · exact .inl h
          · exact .inr ⟨e, List.mem_cons_self, List.mem_singleton.1 h⟩
        · exact .inl h
      · exact .inr ⟨e', List.mem_cons_of_mem _ h1, h2⟩
  intro x hx
  rcases this es [] x hx with h | h
  · cases h
  · exact h
/-- no exposure of the first k belongs to the id -/
def noneB (ls : List Lk) (t : Int) (id : By) (o : List Ex) : Bool := o.all fun x => !decide (rtA ls t x.id = rtA ls t id)
theorem noneB_take {ls : List Lk} {t : Int} {id : By} {o : List Ex} {k : Nat} (h : k < o.length) : noneB ls t id (o.take (k + 1)) = (noneB ls t id (o.take k) && !decide (rtA ls t o[k].id = rtA ls t id)) := by
  unfold noneB
  rw [List.take_succ_eq_append_getElem h, List.all_append]
  simp
section
variable {G : Glob}
set_option maxHeartbeats 8000000 in
set_option maxRecDepth 100000 in
theorem first2A (l : List Ev) (name : By) (hl : l.length ≤ 50000) (hasc : l.Pairwise fun a b => a.time ≤ b.time) : AFn Tryd.prog G 23 [el l, tv name] 0 [] (Is (exL (fstS l name))) := by
  have hls : (lksE l).length ≤ 50000 := by unfold lksE; rw [List.length_map]; have := ofK_le 3 l; omega
  refine afn_of Tryd.func23 rfl mixed (by kernel_rfl) ?_
  conv => whnf
  (refine acallF [] (by kernel_rfl) (links2A l (by omega)) ?_ ?_; (focus (repeat' (first | rfl | trivial | apply And.intro))))
  rintro _ _ _ ⟨rfl, rfl, rfl⟩
  unfold fstS
  generalize lksE l = ls at *
  conv => whnf
  refine aloop ws23_1 1 [6, 7] (fun i : Nat => [(6, .own 0), (7, iv i)]) (fun i => [(0, .rows 40 6 ((fstX ls name (ofK 1 (l.take i))).map exF))]) (fun i => i ≤ l.length) (fun i => l.length - i) [(0, .nil)] [] 0 (by kernel_rfl) (fun _ => rfl) rfl (Nat.zero_le _) ⟨rfl, trivial⟩ ⟨trivial, rfl, trivial⟩ ?_
  intro i hi
  conv => whnf
  refine vif_split (fun h => ?_) (fun h => ?_)
  · have hlt : i < l.length := by simp at h; omega
    have hsn := ofK_take (k := 1) hlt
    have hol := fstX_len ls name (ofK 1 (l.take i))
    have hol2 := ofK_le 1 (l.take i)
    rw [List.length_take] at hol2
    have hbef : before l[i].time (fstX ls name (ofK 1 (l.take i))) := fun x hx => by
      obtain ⟨e, he, rfl⟩ := fstX_from ls name _ x hx
      have he2 : e ∈ l.take i := by unfold ofK at he; exact (List.mem_filter.1 he).1
      obtain ⟨j, hj, rfl⟩ := List.getElem_of_mem he2
      rw [List.length_take] at hj
      rw [List.getElem_take]
      exact List.pairwise_iff_getElem.1 hasc j i (by omega) hlt (by omega)
    have hg := List.getElem?_eq_getElem hlt
    have hstep : ofK 1 (l.take (i + 1)) = ofK 1 (l.take i) ∨ (l[i].kind = 1 ∧ fstX ls name (ofK 1 (l.take (i + 1))) = fstN ls name (fstX ls name (ofK 1 (l.take i))) l[i]) := by
      rw [hsn]
      by_cases hk : l[i].kind = 1
      · rw [if_pos hk]; exact .inr ⟨hk, fstX_snoc _ _ _ _⟩
      · rw [if_neg hk]; exact .inl rfl
    generalize hee : l[i] = e at *
    conv => whnf
    refine AIn.mk' i rfl (by rw [List.length_map]; exact hlt) ?_
    conv => whnf
    refine ARd.mapAt hg ?_
    conv => whnf
    refine vif_split (fun h1 => ?_) (fun h1 => ?_)
    · have hk : ¬ e.kind = 1 := by simpa using h1
      have hout : fstX ls name (ofK 1 (l.take i)) = fstX ls name (ofK 1 (l.take (i + 1))) := by
        rw [if_neg hk] at hsn; rw [hsn]
      · skip
        conv => whnf
        refine AAr.i64 (by omega) ?_
        conv => whnf
        refine aback (i + 1) [(0, .lab 0)] [] rfl (by show l.length - (i + 1) < l.length - i; omega) hlt ⟨⟨rfl, rfl, ?_⟩, trivial⟩ (by repeat' (first | rfl | trivial | apply And.intro))
        rw [hout]
    have hk : e.kind = 1 := by simpa using h1
    have hst : fstX ls name (ofK 1 (l.take (i + 1))) = fstN ls name (fstX ls name (ofK 1 (l.take i))) e := by
      rw [if_pos hk] at hsn; rw [hsn]; exact fstX_snoc _ _ _ _
    unfold fstN at hst
    conv => whnf
    refine vif_split (fun h2 => ?_) (fun h2 => ?_)
    · have hn : ¬ e.name = name := by simpa [sEq_tx] using h2
      have hout : fstX ls name (ofK 1 (l.take i)) = fstX ls name (ofK 1 (l.take (i + 1))) := by
        rw [hst, if_neg fun h => hn h.1]
      · skip
        conv => whnf
        refine AAr.i64 (by omega) ?_
        conv => whnf
        refine aback (i + 1) [(0, .lab 0)] [] rfl (by show l.length - (i + 1) < l.length - i; omega) hlt ⟨⟨rfl, rfl, ?_⟩, trivial⟩ (by repeat' (first | rfl | trivial | apply And.intro))
        rw [hout]
    have hn : e.name = name := by simpa [sEq_tx] using h2
    have hone : (owI ls (fstX ls name (ofK 1 (l.take i))) e.id e.time < 0) ↔ noneB ls e.time e.id (fstX ls name (ofK 1 (l.take i))) = true := by
      rw [owI_neg hbef]
      unfold noneB
      simp [List.all_eq_true]
    generalize fstX ls name (ofK 1 (l.take i)) = o at *
    conv => whnf
    (refine acallF [] (by kernel_rfl) (AFn.frz (until2A ls e.time (by omega))) ?_ ?_; (focus (repeat' (first | rfl | trivial | apply And.intro))))
    rintro _ _ _ ⟨rfl, rfl, rfl⟩
    have hul := unt_len e.time ls
    conv => whnf
    refine aloop ws23_2 2 [10, 11] (fun k : Nat => [(10, bv (noneB ls e.time e.id (o.take k))), (11, iv k)]) (fun _ => [(0, .rows 40 6 (o.map exF)), (1, .var 32 ((enE e).map FV.up))]) (fun k => k ≤ o.length) (fun k => o.length - k) [] [] 0 (by kernel_rfl) (fun _ => rfl) rfl (Nat.zero_le _) (by repeat' (first | rfl | trivial | apply And.intro)) (by repeat' (first | rfl | trivial | apply And.intro)) ?_
    intro k hk2
    conv => whnf
    refine vif_split (fun h3 => ?_) (fun h3 => ?_)
    · have hlk : k < o.length := by simp at h3; omega
      have hnb := noneB_take (ls := ls) (t := e.time) (id := e.id) hlk
      have hgk := List.getElem?_eq_getElem hlk
      generalize o[k] = x at *
      conv => whnf
      (refine adraw pln23 [] (by kernel_rfl) ?_; conv => whnf)
      cases hnn : noneB ls e.time e.id (o.take k) with
      | false =>
        rw [hnn, Bool.false_and] at hnb
        conv => whnf
        refine AAr.i64 (by omega) ?_
        conv => whnf
        exact aback (k + 1) [] [] rfl (by show o.length - (k + 1) < o.length - k; omega) hlk (by repeat' (first | rfl | trivial | apply And.intro)) ⟨congrArg Value.bool hnb.symm, rfl, trivial⟩
      | true =>
        rw [hnn, Bool.true_and] at hnb
        conv => whnf
        repeat' (first
          | (refine And.intro ?_ ?_ <;> (conv => whnf))
          | (refine AIn.mk' k rfl (by rw [List.length_map]; exact hlk) ?_; conv => whnf)
          | (refine ARd.mapAt hgk ?_; conv => whnf)
          | ((refine acall [] (by kernel_rfl) (same2A (unt e.time ls) (ba x.id) (ba e.id) (by omega)) rfl ?_ ?_; (focus ((repeat' (first | rfl | trivial | apply And.intro)); done)); (conv => whnf))))
        refine AAr.i64 (by omega) ?_
        conv => whnf
        exact aback (k + 1) [] [] rfl (by show o.length - (k + 1) < o.length - k; omega) hlk (by repeat' (first | rfl | trivial | apply And.intro)) ⟨congrArg Value.bool hnb.symm, rfl, trivial⟩
    · have hke : k = o.length := by simp at h3; omega
      subst hke
      rw [List.take_length]
      conv => whnf
      refine vif_split (fun h4 => ?_) (fun h4 => ?_)
      · rw [if_pos ⟨hn, hone.2 h4⟩] at hst
        conv => whnf
        refine VReq.mk (app_ok (by simp only [List.length_map, List.length_cons, List.length_nil]; omega) (by kernel_rfl)) ?_
        conv => whnf
        refine AAr.i64 (by omega) ?_
        conv => whnf
        refine aback (i + 1) [(0, .lab 3)] [] rfl (by show l.length - (i + 1) < l.length - i; omega) hlt ⟨⟨rfl, rfl, ?_⟩, trivial⟩ (by repeat' (first | rfl | trivial | apply And.intro))
        rw [hst, List.map_append]
        rfl
      · rw [if_neg (fun h => by rw [hone.1 h.2] at h4; cases h4)] at hst
        conv => whnf
        refine AAr.i64 (by omega) ?_
        conv => whnf
        refine aback (i + 1) [(0, .lab 0)] [] rfl (by show l.length - (i + 1) < l.length - i; omega) hlt ⟨⟨rfl, rfl, ?_⟩, trivial⟩ (by repeat' (first | rfl | trivial | apply And.intro))
        rw [hst]
  · have hie : i = l.length := by simp at h; omega
    subst hie
    rw [List.take_length]
    conv => whnf
    exact aret [0] (by repeat' (first | rfl | trivial | apply And.intro))
end
end Go.Proofs.YtmnjmdajgilhiaaDoor.Cl
