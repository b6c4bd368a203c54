/- The law JoinOnce in plain words, and its walk. Condition: the library's table of spaces (GS). -/
import Derived.Test.YtmnjmdajgilhiaaDoorJ3
set_option linter.unusedVariables false
set_option linter.unusedSimpArgs false
namespace Go.Proofs.YtmnjmdajgilhiaaDoor.Cl
open Go Go.RowKit Go.Proofs Go.Proofs.YtmnjmdajgilhiaaDoor.Vc Go.Proofs.YtmnjmdajgilhiaaDoor.Ax Go.Proofs.YtmnjmdajgilhiaaDoor.Ky Go.Proofs.YtmnjmdajgilhiaaDoor.Id
attribute [local irreducible] loadVar storeVar Instr.indexAt Instr.index Instr.sliceAt Instr.makeSlice Instr.lookup Instr.mapUpdate Instr.range Instr.next Instr.entry Instr.makeMap Builtin.append_ Builtin.copy_ Builtin.len_ Builtin.min_ Builtin.max_ Builtin.cap_ Builtin.delete_ Builtin.clear_ convert binOp eqGuard Op.unary Calls
/-- two first exposures -/
def TwoX (ls : List Lk) (a b : Ex) : Prop := a.time ≤ b.time ∧ ¬ rtA ls b.time a.id = rtA ls b.time b.id
theorem fstX_two {ls : List Lk} {name : By} : ∀ (es : List Ev), (es.Pairwise fun a b => a.time ≤ b.time) → (fstX ls name es).Pairwise (TwoX ls) := by
  have : ∀ n (es : List Ev), es.length = n → (es.Pairwise fun a b => a.time ≤ b.time) → (fstX ls name es).Pairwise (TwoX ls) := by
    intro n
    induction n with
    | zero => intro es h _; rw [List.eq_nil_of_length_eq_zero h]; exact List.Pairwise.nil
    | succ n ih =>
      intro es h hp
      have hne : es ≠ [] := fun e => by rw [e] at h; cases h
      have hs := List.dropLast_concat_getLast hne
      generalize es.dropLast = r at *
      generalize es.getLast hne = e at *
      subst hs
      rw [List.pairwise_append] at hp
      have h1 := ih r (by simpa using h) hp.1
      rw [fstX_snoc]
      unfold fstN
      split
      · rename_i hc
        rw [List.pairwise_append]
        refine ⟨h1, List.pairwise_singleton _ _, fun x hx y hy => ?_⟩
        rw [List.mem_singleton] at hy
        subst hy
        have hb : before e.time (fstX ls name r) := fun x hx => by
          obtain ⟨e', he', rfl⟩ := fstX_from ls name _ x hx
          exact hp.2.2 e' he' e (List.mem_singleton.2 rfl)
        exact ⟨hb x hx, (owI_neg hb).1 hc.2 x hx⟩
      · exact h1
  exact fun es => this _ es rfl
/-- each exposure of the experiment has an owner -/
theorem fstX_own {ls : List Lk} {name : By} : ∀ (es : List Ev), ∀ e ∈ es, e.name = name → ∃ x ∈ fstX ls name es, owP ls e.time e.id x = true := by
  have : ∀ n (es : List Ev), es.length = n → ∀ e ∈ es, e.name = name → ∃ x ∈ fstX ls name es, owP ls e.time e.id x = true := by
    intro n
    induction n with
    | zero => intro es h e he; rw [List.eq_nil_of_length_eq_zero h] at he; cases he
    | succ n ih =>
      intro es h e he hn
      have hne : es ≠ [] := fun e => by rw [e] at h; cases h
      have hs := List.dropLast_concat_getLast hne
      generalize es.dropLast = r at *
      generalize es.getLast hne = e' at *
      subst hs
      rw [fstX_snoc]
      have up : ∀ x, x ∈ fstX ls name r → x ∈ fstN ls name (fstX ls name r) e' := fun x hx => by
        unfold fstN
        split
        · exact List.mem_append.2 (.inl hx)
        · exact hx
      rcases List.mem_append.1 he with he | he
      · obtain ⟨x, h1, h2⟩ := ih r (by simpa using h) e he hn
        exact ⟨x, up x h1, h2⟩
      · rw [List.mem_singleton] at he
        subst he
        by_cases hc : owI ls (fstX ls name r) e.id e.time < 0
        · refine ⟨exE e, ?_, ?_⟩
          · unfold fstN
            rw [if_pos ⟨hn, hc⟩]
            exact List.mem_append.2 (.inr (List.mem_singleton.2 rfl))
          · unfold owP exE
            simp
        · unfold owI at hc
          cases ho : owO ls (fstX ls name r) e.id e.time with
          | none => rw [ho] at hc; exact absurd (show (-1 : Int) < 0 by decide) hc
          | some i =>
            obtain ⟨hi, hp⟩ := owO_lt ho
            exact ⟨_, up _ (List.getElem_mem hi), hp⟩
  exact fun es => this _ es rfl
theorem fstS_own (l : List Ev) (name : By) (e : Ev) (he : e ∈ l) (hk : e.kind = 1) (hn : e.name = name) : ∃ (i : Nat) (x : Ex), owO (lksE l) (fstS l name) e.id e.time = some i ∧ (fstS l name)[i]? = some x ∧ x.time ≤ e.time := by
  obtain ⟨x, hx, hp⟩ := fstX_own (ls := lksE l) (name := name) (ofK 1 l) e (List.mem_filter.2 ⟨he, by simpa using hk⟩) hn
  cases ho : owO (lksE l) (fstS l name) e.id e.time with
  | none =>
    unfold owO at ho
    rw [List.findIdx?_eq_none_iff] at ho
    have := ho x hx
    rw [hp] at this
    cases this
  | some i =>
    obtain ⟨hi, hq⟩ := owO_lt ho
    refine ⟨i, _, rfl, List.getElem?_eq_getElem hi, ?_⟩
    unfold owP at hq
    simp only [Bool.and_eq_true, decide_eq_true_eq] at hq
    exact hq.1
theorem fstS_two (l : List Ev) (name : By) (h : l.Pairwise fun a b => a.time ≤ b.time) (i k : Nat) (x y : Ex) (hx : (fstS l name)[i]? = some x) (hy : (fstS l name)[k]? = some y) (hk : k < i) : TwoX (lksE l) y x := by
  obtain ⟨hi, rfl⟩ := List.getElem?_eq_some_iff.1 hx
  obtain ⟨hk', rfl⟩ := List.getElem?_eq_some_iff.1 hy
  exact List.pairwise_iff_getElem.1 (fstX_two (ls := lksE l) (name := name) (ofK 1 l) (h.filter _)) k i hk' hi hk
set_option maxHeartbeats 8000000 in
set_option maxRecDepth 100000 in
theorem lawOnceA (m : By) (w : Nat) (hw : w < 256) : AFn Tryd.prog GS 7 [bs m, u8v w] 0 [] (Is (bv true)) := by
  refine afn_of Tryd.func7 rfl mixed (by kernel_rfl) ?_
  conv => whnf
  (refine acallF [] (by kernel_rfl) (awakeA) ?_ ?_; (focus ((repeat' (first | rfl | trivial | apply And.intro)); done)); rintro _ _ _ ⟨rfl, rfl, rfl⟩; (conv => whnf))
  refine vif_split (fun h => ?_) (fun h => ?_)
  · conv => whnf
    exact aret [] (by repeat' (first | rfl | trivial | apply And.intro))
  have hm : m.length ≤ 300 := by simp at h; omega
  conv => whnf
  (refine acallF [] (by kernel_rfl) (eventsA m (by omega)) ?_ ?_; (focus (repeat' (first | rfl | trivial | apply And.intro))))
  rintro _ _ _ ⟨l, hP, rfl, rfl, rfl⟩
  have hlen := hP.len
  conv => whnf
  (refine acallF [] (by kernel_rfl) (expTA) ?_ ?_; (focus (repeat' (first | rfl | trivial | apply And.intro))))
  rintro _ _ _ ⟨rfl, rfl, rfl⟩
  obtain ⟨name, hname⟩ := exp_at w
  conv => whnf
  refine AAr.i64 (by omega) ?_
  conv => whnf
  refine VReq.mk (by decide) ?_
  conv => whnf
  refine AIn.mk' (w % 2) rfl (by have : w % 2 < 2 := Nat.mod_lt _ (by decide); show w % 2 < 4; omega) ?_
  conv => whnf
  refine ARd.mapAt hname ?_
  conv => whnf
  (refine acallF [] (by kernel_rfl) (jFirstA l name (by omega)) ?_ ?_; (focus (repeat' (first | rfl | trivial | apply And.intro))))
  rintro _ _ _ ⟨rfl, rfl, rfl⟩
  have hxl : (fstS l name).length ≤ 60 := Nat.le_trans (fstX_len _ _ _) (Nat.le_trans (ofK_le 1 l) hlen)
  have hll : (lksE l).length ≤ 60 := by unfold lksE; rw [List.length_map]; have := ofK_le 3 l; omega
  have h2 := fstS_two l name hP.asc
  have h3 := fstS_own l name
  generalize fstS l name = xs at *
  conv => whnf
  (refine acallF [] (by kernel_rfl) (linksA l (by omega)) ?_ ?_; (focus (repeat' (first | rfl | trivial | apply And.intro))))
  rintro _ _ _ ⟨rfl, rfl, rfl⟩
  have how := fun id t => jOwnerA (G := GS) l xs id t (by omega) (by omega)
  generalize lksE l = ls at *
  conv => whnf
  refine aloop ws7_1 1 [9] (fun i : Nat => [(9, iv i)]) (fun i => []) (fun i => i ≤ xs.length) (fun i => xs.length - i) [] [] 0 (by kernel_rfl) (fun _ => rfl) rfl (Nat.zero_le _) (by repeat' (first | rfl | trivial | apply And.intro)) (by repeat' (first | rfl | trivial | apply And.intro)) ?_
  intro i hi
  conv => whnf
  refine vif_split (fun h => ?_) (fun h => ?_)
  · have hlt : i < xs.length := by simp at h; omega
    conv => whnf
    refine aloop ws7_2 1 [10] (fun k : Nat => [(10, iv k)]) (fun k => []) (fun k => k ≤ i) (fun k => i - k) [] [] 0 (by kernel_rfl) (fun _ => rfl) rfl (Nat.zero_le _) (by repeat' (first | rfl | trivial | apply And.intro)) (by repeat' (first | rfl | trivial | apply And.intro)) ?_
    intro k hk
    conv => whnf
    refine vif_split (fun h1 => ?_) (fun h1 => ?_)
    rotate_left 1
    · conv => whnf
      refine AAr.i64 (by omega) ?_
      conv => whnf
      exact aback (i + 1) [] [] rfl (by show xs.length - (i + 1) < xs.length - i; omega) hlt (by repeat' (first | rfl | trivial | apply And.intro)) (by repeat' (first | rfl | trivial | apply And.intro))
    have hki : k < i := by simp at h1; omega
    have hkl : k < xs.length := by omega
    have hgi := List.getElem?_eq_getElem hlt
    have hgk := List.getElem?_eq_getElem hkl
    obtain ⟨h4, h5⟩ := h2 i k _ _ hgi hgk hki
    generalize xs[i] = x at *
    generalize xs[k]'hkl = y at *
    conv => whnf
    have s1 := same2A (G := GS) (unt x.time ls) (ba y.id) (ba x.id) (by have := unt_len x.time ls; omega)
    rw [show decide (rt (unt x.time ls) (ba y.id) = rt (unt x.time ls) (ba x.id)) = false from decide_eq_false h5] at s1
    have u1 := AFn.frz (until2A (G := GS) ls x.time (by omega))
    (refine adraw pln7 [] (by kernel_rfl) ?_; conv => whnf)
    repeat' (first
      | (refine And.intro ?_ ?_ <;> (conv => whnf))
      | (refine AIn.mk' i rfl (by rw [List.length_map]; exact hlt) ?_; conv => whnf)
      | (refine AIn.mk' k rfl (by rw [List.length_map]; exact hkl) ?_; conv => whnf)
      | (refine ARd.mapAt hgi ?_; conv => whnf)
      | (refine ARd.mapAt hgk ?_; conv => whnf)
      | ((refine acallF [] (by kernel_rfl) (u1) ?_ ?_; (focus ((repeat' (first | rfl | trivial | apply And.intro)); done)); rintro _ _ _ ⟨rfl, rfl, rfl⟩; (conv => whnf)))
      | ((refine acall [] (by kernel_rfl) (s1) rfl ?_ ?_; (focus ((repeat' (first | rfl | trivial | apply And.intro)); done)); (conv => whnf))))
    refine vif_split (fun h6 => ?_) (fun h6 => ?_)
    · exfalso; simp at h6; omega
    conv => whnf
    refine AAr.i64 (by omega) ?_
    conv => whnf
    exact aback (k + 1) [] [] rfl (by show i - (k + 1) < i - k; omega) hki (by repeat' (first | rfl | trivial | apply And.intro)) (by repeat' (first | rfl | trivial | apply And.intro))
  · conv => whnf
    refine aloop ws7_3 1 [11] (fun i : Nat => [(11, iv i)]) (fun i => []) (fun i => i ≤ l.length) (fun i => l.length - i) [] [] 0 (by kernel_rfl) (fun _ => rfl) rfl (Nat.zero_le _) (by repeat' (first | rfl | trivial | apply And.intro)) (by repeat' (first | rfl | trivial | apply And.intro)) ?_
    intro j hj
    conv => whnf
    refine vif_split (fun h1 => ?_) (fun h1 => ?_)
    rotate_left 1
    · conv => whnf
      exact aret [] (by repeat' (first | rfl | trivial | apply And.intro))
    have hlt : j < l.length := by simp at h1; omega
    have hgj := List.getElem?_eq_getElem hlt
    have h4 := h3 l[j] (List.getElem_mem hlt)
    generalize l[j] = e at *
    conv => whnf
    refine AIn.mk' j rfl (by rw [List.length_map]; exact hlt) ?_
    conv => whnf
    refine ARd.mapAt hgj ?_
    conv => whnf
    refine vif_split (fun h5 => ?_) (fun h5 => ?_)
    · conv => whnf
      refine AAr.i64 (by omega) ?_
      conv => whnf
      exact aback (j + 1) [] [] rfl (by show l.length - (j + 1) < l.length - j; omega) hlt (by repeat' (first | rfl | trivial | apply And.intro)) (by repeat' (first | rfl | trivial | apply And.intro))
    conv => whnf
    refine vif_split (fun h6 => ?_) (fun h6 => ?_)
    · conv => whnf
      refine AAr.i64 (by omega) ?_
      conv => whnf
      exact aback (j + 1) [] [] rfl (by show l.length - (j + 1) < l.length - j; omega) hlt (by repeat' (first | rfl | trivial | apply And.intro)) (by repeat' (first | rfl | trivial | apply And.intro))
    obtain ⟨i2, x, ho, hgx, hxt⟩ := h4 (by simpa using h5) (by simpa [sEq_tx] using h6)
    have hil := (List.getElem?_eq_some_iff.1 hgx).1
    have how := how e.id e.time
    rw [owI_some ho] at how
    conv => whnf
    (refine acall [] (by kernel_rfl) (how) rfl ?_ ?_; (focus (repeat' (first | rfl | trivial | apply And.intro))))
    conv => whnf
    (refine adraw pln7 [] (by kernel_rfl) ?_; conv => whnf)
    refine vif_split (fun h7 => ?_) (fun h7 => ?_)
    · exfalso; simp at h7; omega
    conv => whnf
    refine AIn.mk' i2 rfl (by rw [List.length_map]; exact hil) ?_
    conv => whnf
    refine ARd.mapAt hgx ?_
    conv => whnf
    refine vif_split (fun h8 => ?_) (fun h8 => ?_)
    · exfalso; simp at h8; omega
    conv => whnf
    refine AAr.i64 (by omega) ?_
    conv => whnf
    exact aback (j + 1) [] [] rfl (by show l.length - (j + 1) < l.length - j; omega) hlt (by repeat' (first | rfl | trivial | apply And.intro)) (by repeat' (first | rfl | trivial | apply And.intro))
end Go.Proofs.YtmnjmdajgilhiaaDoor.Cl
