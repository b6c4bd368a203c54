/- The walks of the reference's Links and of its metric Value. Condition: sizes. -/
import Derived.Test.YtmnjmdajgilhiaaDoorJv
set_option linter.unusedVariables false
set_option linter.unusedSimpArgs false
namespace Go.Proofs.YtmnjmdajgilhiaaDoor.Cl
open Go Go.RowKit Go.Proofs Go.Proofs.YtmnjmdajgilhiaaDoor.Vc Go.Proofs.YtmnjmdajgilhiaaDoor.Ax Go.Proofs.YtmnjmdajgilhiaaDoor.Ky Go.Proofs.YtmnjmdajgilhiaaDoor.Id
attribute [local irreducible] loadVar storeVar Instr.indexAt Instr.index Instr.sliceAt Instr.makeSlice Instr.lookup Instr.mapUpdate Instr.range Instr.next Instr.entry Instr.makeMap Builtin.append_ Builtin.copy_ Builtin.len_ Builtin.min_ Builtin.max_ Builtin.cap_ Builtin.delete_ Builtin.clear_ convert binOp eqGuard Op.unary Calls
section
variable {G : Glob}
set_option maxHeartbeats 4000000 in
set_option maxRecDepth 100000 in
theorem links2A (l : List Ev) (hl : l.length ≤ 100000) : AFn Tryd.prog G 21 [el l] 0 [] (Is (lksA (lksE l))) := by
  refine afn_of Tryd.func21 rfl mixed (by kernel_rfl) ?_
  conv => whnf
  refine aloop ws21_1 1 [3, 4] (fun i : Nat => [(3, .own 0), (4, iv i)]) (fun i => [(0, .rows 84 3 ((lksE (l.take i)).map lkF))]) (fun i => i ≤ l.length) (fun i => l.length - i) [(0, .nil)] [] 0 (by kernel_rfl) (fun _ => rfl) rfl (Nat.zero_le _) ⟨rfl, trivial⟩ ⟨trivial, rfl, trivial⟩ ?_
  intro i hi
  have hol : (lksE (l.take i)).length ≤ i := by
    unfold lksE
    have := ofK_le 3 (l.take i)
    rw [List.length_take] at this
    rw [List.length_map]; omega
  conv => whnf
  refine vif_split (fun h => ?_) (fun h => ?_)
  · have hlt : i < l.length := by simp at h; omega
    have hsn := ofK_take (k := 3) hlt
    have hg := List.getElem?_eq_getElem hlt
    generalize l[i] = e at *
    conv => whnf
    refine AIn.mk' i rfl (by rw [List.length_map]; exact hlt) ?_
    conv => whnf
    refine ARd.mapAt hg ?_
    conv => whnf
    refine vif_split (fun h1 => ?_) (fun h1 => ?_)
    · rw [if_pos (by simpa using h1)] at hsn
      conv => whnf
      (refine adraw pln21 [] (by kernel_rfl) ?_; conv => whnf)
      repeat' (first
        | (refine And.intro ?_ ?_ <;> (conv => whnf))
        | (refine AIn.mk' i rfl (by rw [List.length_map]; exact hlt) ?_; conv => whnf)
        | (refine ARd.mapAt hg ?_; conv => whnf))
      refine VReq.mk (app_ok (by simp only [List.length_map, List.length_cons, List.length_nil]; omega) (by kernel_rfl)) ?_
      conv => whnf
      refine AAr.i64 (by omega) ?_
      conv => whnf
      refine aback (i + 1) [(0, .lab 2)] [] rfl (by show l.length - (i + 1) < l.length - i; omega) hlt ⟨⟨rfl, rfl, ?_⟩, trivial⟩ (by repeat' (first | rfl | trivial | apply And.intro))
      show _ = (lksE (l.take (i + 1))).map lkF
      unfold lksE
      rw [hsn, List.map_append, List.map_append]
      rfl
    · rw [if_neg (by simpa using h1)] at hsn
      conv => whnf
      refine AAr.i64 (by omega) ?_
      conv => whnf
      refine aback (i + 1) [(0, .lab 0)] [] rfl (by show l.length - (i + 1) < l.length - i; omega) hlt ⟨⟨rfl, rfl, ?_⟩, trivial⟩ (by repeat' (first | rfl | trivial | apply And.intro))
      show _ = (lksE (l.take (i + 1))).map lkF
      unfold lksE
      rw [hsn]
  · have hie : i = l.length := by simp at h; omega
    subst hie
    rw [List.take_length]
    conv => whnf
    exact aret [0] (by repeat' (first | rfl | trivial | apply And.intro))
theorem lk_src {n : Nat} {σ : Nat → Ax.Loc} {F : Nat → Prop} {w : World} {l : List Lk} {v : Value} (h : ARep n σ F w (lksA l) v) (hF : ∀ b, F b → b < w.heap.size) :
    ∃ oa cap, v = .slice oa l.length cap ∧ l.length ≤ cap ∧ (oa = none → cap = 0) ∧ Row w oa (recs lkc l) := flat_src (sz := 3) (enc := lkF) (c := lkc) (fun _ => rfl) h hF
theorem same2A (ls : List Lk) (x y : ByteArray) (h : ls.length ≤ 1000000) : AFn Tryd.prog G 27 [lksA ls, sv x, sv y] 0 [] (Is (bv (decide (rt ls x = rt ls y)))) :=
  afn_flat fun w σ F vs hG hF r => by
    match vs, r with
    | [v, u, z], ⟨r1, r2, r3, _⟩ =>
    obtain ⟨oa, c, rfl, _, _, hr⟩ := lk_src r1 hF
    rw [r2.v_eq, r3.v_eq]
    exact same2_ok oa c ls x y w hr h
/-- the exposures all lie before a time -/
def before (t : Int) (xs : List Ex) : Prop := ∀ x ∈ xs, x.time ≤ t
theorem owI_neg {ls : List Lk} {xs : List Ex} {id : By} {t : Int} (hb : before t xs) : owI ls xs id t < 0 ↔ ∀ x ∈ xs, ¬ rtA ls t x.id = rtA ls t id := by
  unfold owI
  cases h : owO ls xs id t with
  | some i =>
    obtain ⟨hi, hp⟩ := owO_lt h
    refine ⟨fun h => absurd h (by show ¬ (i : Int) < 0; omega), fun h => ?_⟩
    unfold owP at hp
    simp only [Bool.and_eq_true, decide_eq_true_eq] at hp
    exact absurd hp.2 (h _ (List.getElem_mem hi))
  | none =>
    refine ⟨fun _ x hx e => ?_, fun _ => by show (-1 : Int) < 0; decide⟩
    unfold owO at h
    rw [List.findIdx?_eq_none_iff] at h
    have := h x hx
    unfold owP at this
    rw [decide_eq_true (hb x hx), decide_eq_true e] at this
    cases this
end
end Go.Proofs.YtmnjmdajgilhiaaDoor.Cl
