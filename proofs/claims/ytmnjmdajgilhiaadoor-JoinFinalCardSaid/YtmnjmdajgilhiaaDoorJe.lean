/- The walk of the law JoinFinal. Condition: the library's table of spaces (GS). -/
import Derived.Test.YtmnjmdajgilhiaaDoorJd
set_option linter.unusedVariables false
set_option linter.unusedSimpArgs false
namespace Go.Proofs.YtmnjmdajgilhiaaDoor.Cl
open Go Go.RowKit Go.Proofs Go.Proofs.YtmnjmdajgilhiaaDoor.Vc Go.Proofs.YtmnjmdajgilhiaaDoor.Ax Go.Proofs.YtmnjmdajgilhiaaDoor.Ky Go.Proofs.YtmnjmdajgilhiaaDoor.Id
attribute [local irreducible] loadVar storeVar Instr.indexAt Instr.index Instr.sliceAt Instr.makeSlice Instr.lookup Instr.mapUpdate Instr.range Instr.next Instr.entry Instr.makeMap Builtin.append_ Builtin.copy_ Builtin.len_ Builtin.min_ Builtin.max_ Builtin.cap_ Builtin.delete_ Builtin.clear_ convert binOp eqGuard Op.unary Calls
theorem asc_take {l : List Ev} (h : l.Pairwise fun a b => a.time ≤ b.time) {k : Nat} {e : Ev} (he : l[k]? = some e) : (∀ x ∈ l.take (k + 1), x.time ≤ e.time) ∧ ∀ x ∈ l.drop k, e.time ≤ x.time := by
  obtain ⟨hk, rfl⟩ := List.getElem?_eq_some_iff.1 he
  rw [List.pairwise_iff_getElem] at h
  refine ⟨fun x hx => ?_, fun x hx => ?_⟩
  · obtain ⟨j, hj, rfl⟩ := List.getElem_of_mem hx
    rw [List.length_take] at hj
    rw [List.getElem_take]
    rcases Nat.lt_or_ge j k with h1 | h1
    · exact h j k (by omega) hk h1
    · have : j = k := by omega
      subst this
      exact Int.le_refl _
  · obtain ⟨j, hj, rfl⟩ := List.getElem_of_mem hx
    rw [List.length_drop] at hj
    rw [List.getElem_drop]
    rcases Nat.eq_zero_or_pos j with h1 | h1
    · subst h1; exact Int.le_refl _
    · exact h k (k + j) hk (by omega) (by omega)
set_option maxHeartbeats 8000000 in
set_option maxRecDepth 100000 in
theorem lawFinalA (m b : By) (w1 w2 w3 : Nat) (hw1 : w1 < 256) (hw2 : w2 < 256) (hw3 : w3 < 256) : AFn Tryd.prog GS 3 [bs m, bs b, u8v w1, u8v w2, u8v w3] 0 [] (Is (bv true)) := by
  refine afn_of Tryd.func3 rfl mixed (by kernel_rfl) ?_
  conv => whnf
  (refine acallF [] (by kernel_rfl) (awakeA) ?_ ?_; (focus ((repeat' (first | rfl | trivial | apply And.intro)); done)); rintro _ _ _ ⟨rfl, rfl, rfl⟩; (conv => whnf))
  refine vif_split (fun h => ?_) (fun h => ?_)
  · conv => whnf
    exact aret [] (by repeat' (first | rfl | trivial | apply And.intro))
  have hml : m.length ≤ 300 := by simp at h; omega
  conv => whnf
  (refine acallF [] (by kernel_rfl) (eventsA m (by omega)) ?_ ?_; (focus (repeat' (first | rfl | trivial | apply And.intro))))
  rintro _ _ _ ⟨l, hP, rfl, rfl, rfl⟩
  have hlen := hP.len
  conv => whnf
  (refine acallF [] (by kernel_rfl) (metricDA b) ?_ ?_; (focus (repeat' (first | rfl | trivial | apply And.intro))))
  rintro _ _ _ ⟨M, hM, rfl, rfl, rfl⟩
  have hmc := hM.ok
  have hz1 := hM.z1
  have hz2 := hM.z2
  have hwin := hM.window
  conv => whnf
  (refine acallF [] (by kernel_rfl) (expTA) ?_ ?_; (focus (repeat' (first | rfl | trivial | apply And.intro))))
  rintro _ _ _ ⟨rfl, rfl, rfl⟩
  obtain ⟨name, hname⟩ := exp_at w1
  conv => whnf
  refine AAr.i64 (by omega) ?_
  conv => whnf
  refine VReq.mk (by decide) ?_
  conv => whnf
  refine AIn.mk' (w1 % 2) rfl (by have : w1 % 2 < 2 := Nat.mod_lt _ (by decide); show w1 % 2 < 4; omega) ?_
  conv => whnf
  refine ARd.mapAt hname ?_
  conv => whnf
  refine AAr.i64 (by omega) ?_
  conv => whnf
  refine AAr.i64 (by simp only [List.length_map]; omega) ?_
  conv => whnf
  refine VReq.mk (by simp only [List.length_map]; omega) ?_
  conv => whnf
  have hk0e : (w2 : Int).tmod (((l.map enE).length : Int) + 1) = ((w2 % (l.length + 1) : Nat) : Int) := by rw [List.length_map]; rfl
  rw [hk0e]
  have hk0 : w2 % (l.length + 1) ≤ l.length := by have := Nat.mod_lt w2 (show 0 < l.length + 1 by omega); omega
  generalize w2 % (l.length + 1) = k0 at *
  refine vif_split (fun h1 => ?_) (fun h1 => ?_)
  · have hlt : k0 < l.length := by simp at h1; omega
    have hg := List.getElem?_eq_getElem hlt
    have hk1 := (asc_take hP.asc hg).2
    have htm := (hP.all _ (List.getElem_mem hlt)).time
    generalize l[k0]'hlt = z at *
    conv => whnf
    refine AIn.mk' k0 rfl (by rw [List.length_map]; exact hlt) ?_
    conv => whnf
    refine ARd.mapAt hg ?_
    conv => whnf
    refine aloop ws3_1 2 [14] (fun k : Nat => [(14, iv k)]) (fun _ => [(0, .var 27 ((mtF M).map FV.up))]) (fun k => k ≤ l.length ∧ ∀ x ∈ l.drop k, z.time ≤ x.time) (fun k => k) [] [] k0 (by kernel_rfl) (fun _ => rfl) rfl ⟨hk0, hk1⟩ (by repeat' (first | rfl | trivial | apply And.intro)) (by repeat' (first | rfl | trivial | apply And.intro)) ?_
    rintro k ⟨hk, hkd⟩
    conv => whnf
    refine vif_split (fun h2 => ?_) (fun h2 => ?_)
    · have hk0 : 0 < k := by simp at h2; omega
      have hlt : k - 1 < l.length := by omega
      have hg := List.getElem?_eq_getElem hlt
      have hdr := asc_take hP.asc hg
      generalize l[k - 1]'hlt = e at *
      conv => whnf
      refine AAr.i64 (by omega) ?_
      conv => whnf
      refine AIn.mk' (k - 1) (by omega) (by rw [List.length_map]; exact hlt) ?_
      conv => whnf
      refine ARd.mapAt hg ?_
      conv => whnf
      refine vif_split (fun h3 => ?_) (fun h3 => ?_)
      · have h3 : z.time ≤ e.time := of_decide_eq_true h3
        conv => whnf
        refine AAr.i64 (by omega) ?_
        conv => whnf
        exact aback (k - 1) [] [] rfl (by show k - 1 < k; omega) ⟨by omega, fun x hx => Int.le_trans h3 (hdr.2 x hx)⟩ (by repeat' (first | rfl | trivial | apply And.intro)) ⟨congrArg (Value.int .i64) (by omega), trivial⟩
      · have h3 : e.time < z.time := by have : ¬ e.time ≥ z.time := of_decide_eq_false h3; omega
        have hp : ∀ x ∈ l.take k, x.time < z.time := fun x hx => by
          have := hdr.1 x (by rw [show k - 1 + 1 = k by omega]; exact hx)
          omega
        conv => whnf
        have hap : l.take k ++ l.drop k = l := List.take_append_drop ..
        have e1 : smpS (l.take k) name M z.time = smpS l name M z.time := by
          have := smpS_more hp hkd name M hwin.1
          rw [hap] at this
          exact this.symm
        have hB := hP.bnd
        have hBp : EvB (l.take k) := ⟨by rw [List.length_take]; omega, fun e he => hB.time e (List.mem_of_mem_take he), fun e he => hB.val e (List.mem_of_mem_take he)⟩
        have s1 := samplesA (l.take k) name M z.time hBp hz1 hz2
        have s2 := samplesA l name M z.time hB hz1 hz2
        have s3 := samplesA l name M (z.time + w3) hB hz1 hz2
        obtain ⟨ys, hys⟩ := smpS_pre name M hP.asc (show z.time ≤ z.time + w3 by omega)
        rw [if_pos hmc, e1, show el (l.take k) = .lst 10 ((l.map enE).take k) from by rw [← List.map_take]] at s1
        rw [if_pos hmc] at s2
        rw [if_pos hmc, hys] at s3
        have hSl : (smpS l name M z.time).length ≤ 60 := by
          unfold smpS
          rw [List.length_map]
          refine Nat.le_trans (List.length_filter_le _ _) ?_
          rw [List.length_zipIdx]
          exact Nat.le_trans (fstX_len _ _ _) (Nat.le_trans (ofK_le 1 l) hlen)
        generalize smpS l name M z.time = S at *
        have hcut : ((S ++ ys).map smF).take S.length = S.map smF := by rw [List.map_append, List.take_append_of_le_length (by rw [List.length_map]; exact Nat.le_refl _), List.take_of_length_le (by rw [List.length_map]; exact Nat.le_refl _)]
        (refine adraw pln3 [] (by kernel_rfl) ?_; conv => whnf)
        refine ABd.mk' 0 k rfl rfl (Nat.zero_le _) (by rw [List.length_map]; omega) ?_
        conv => whnf
        repeat' (first
          | (refine And.intro ?_ ?_ <;> (conv => whnf))
          | ((refine acallF [] (by kernel_rfl) (s1) ?_ ?_; (focus ((repeat' (first | rfl | trivial | apply And.intro)); done)); rintro _ _ _ ⟨rfl, rfl, rfl⟩; (conv => whnf)))
          | ((refine acallF [] (by kernel_rfl) (s2) ?_ ?_; (focus ((repeat' (first | rfl | trivial | apply And.intro)); done)); rintro _ _ _ ⟨rfl, rfl, rfl⟩; (conv => whnf))))
        refine AAr.i64 (by omega) ?_
        conv => whnf
        refine AAr.i64 (by omega) ?_
        conv => whnf
        (refine acallF [] (by kernel_rfl) (s3) ?_ ?_; (focus ((repeat' (first | rfl | trivial | apply And.intro)); done)); rintro _ _ _ ⟨rfl, rfl, rfl⟩; (conv => whnf))
        (refine acall [] (by kernel_rfl) (sameSmA S (by omega)) rfl ?_ ?_; (focus (repeat' (first | rfl | trivial | apply And.intro))))
        conv => whnf
        refine vif_split (fun h9 => ?_) (fun h9 => ?_)
        rotate_left 1
        · exfalso; simp at h9; omega
        conv => whnf
        refine ABd.mk' 0 S.length rfl (by rw [List.length_map]) (Nat.zero_le _) (by rw [List.length_map, List.length_append]; omega) ?_
        conv => whnf
        refine acall [] (by kernel_rfl) (sameSmA S (by omega)) rfl ⟨⟨rfl, hcut⟩, ⟨rfl, rfl⟩, trivial⟩ ?_
        conv => whnf
        exact aret [] (by repeat' (first | rfl | trivial | apply And.intro))
    · have hk0 : k = 0 := by simp at h2; omega
      subst hk0
      have hp : ∀ x ∈ l.take 0, x.time < z.time := fun x hx => by simp at hx
      conv => whnf
      have hap : l.take 0 ++ l.drop 0 = l := List.take_append_drop ..
      have e1 : smpS (l.take 0) name M z.time = smpS l name M z.time := by
        have := smpS_more hp hkd name M hwin.1
        rw [hap] at this
        exact this.symm
      have hB := hP.bnd
      have hBp : EvB (l.take 0) := ⟨by rw [List.length_take]; omega, fun e he => hB.time e (List.mem_of_mem_take he), fun e he => hB.val e (List.mem_of_mem_take he)⟩
      have s1 := samplesA (l.take 0) name M z.time hBp hz1 hz2
      have s2 := samplesA l name M z.time hB hz1 hz2
      have s3 := samplesA l name M (z.time + w3) hB hz1 hz2
      obtain ⟨ys, hys⟩ := smpS_pre name M hP.asc (show z.time ≤ z.time + w3 by omega)
      rw [if_pos hmc, e1, show el (l.take 0) = .lst 10 ((l.map enE).take 0) from by rw [← List.map_take]] at s1
      rw [if_pos hmc] at s2
      rw [if_pos hmc, hys] at s3
      have hSl : (smpS l name M z.time).length ≤ 60 := by
        unfold smpS
        rw [List.length_map]
        refine Nat.le_trans (List.length_filter_le _ _) ?_
        rw [List.length_zipIdx]
        exact Nat.le_trans (fstX_len _ _ _) (Nat.le_trans (ofK_le 1 l) hlen)
      generalize smpS l name M z.time = S at *
      have hcut : ((S ++ ys).map smF).take S.length = S.map smF := by rw [List.map_append, List.take_append_of_le_length (by rw [List.length_map]; exact Nat.le_refl _), List.take_of_length_le (by rw [List.length_map]; exact Nat.le_refl _)]
      (refine adraw pln3 [] (by kernel_rfl) ?_; conv => whnf)
      refine ABd.mk' 0 0 rfl rfl (Nat.zero_le _) (by rw [List.length_map]; omega) ?_
      conv => whnf
      repeat' (first
        | (refine And.intro ?_ ?_ <;> (conv => whnf))
        | ((refine acallF [] (by kernel_rfl) (s1) ?_ ?_; (focus ((repeat' (first | rfl | trivial | apply And.intro)); done)); rintro _ _ _ ⟨rfl, rfl, rfl⟩; (conv => whnf)))
        | ((refine acallF [] (by kernel_rfl) (s2) ?_ ?_; (focus ((repeat' (first | rfl | trivial | apply And.intro)); done)); rintro _ _ _ ⟨rfl, rfl, rfl⟩; (conv => whnf))))
      refine AAr.i64 (by omega) ?_
      conv => whnf
      refine AAr.i64 (by omega) ?_
      conv => whnf
      (refine acallF [] (by kernel_rfl) (s3) ?_ ?_; (focus ((repeat' (first | rfl | trivial | apply And.intro)); done)); rintro _ _ _ ⟨rfl, rfl, rfl⟩; (conv => whnf))
      (refine acall [] (by kernel_rfl) (sameSmA S (by omega)) rfl ?_ ?_; (focus (repeat' (first | rfl | trivial | apply And.intro))))
      conv => whnf
      refine vif_split (fun h9 => ?_) (fun h9 => ?_)
      rotate_left 1
      · exfalso; simp at h9; omega
      conv => whnf
      refine ABd.mk' 0 S.length rfl (by rw [List.length_map]) (Nat.zero_le _) (by rw [List.length_map, List.length_append]; omega) ?_
      conv => whnf
      refine acall [] (by kernel_rfl) (sameSmA S (by omega)) rfl ⟨⟨rfl, hcut⟩, ⟨rfl, rfl⟩, trivial⟩ ?_
      conv => whnf
      exact aret [] (by repeat' (first | rfl | trivial | apply And.intro))
  · have hke : k0 = l.length := by simp at h1; omega
    subst hke
    have htm : (0 : Int) ≤ 1000 ∧ (1000 : Int) ≤ 1000 := by decide
    have hk1 : ∀ x ∈ l.drop l.length, (1000 : Int) ≤ x.time := fun x hx => by simp at hx
    conv => whnf
    refine aloop ws3_1 2 [14] (fun k : Nat => [(14, iv k)]) (fun _ => [(0, .var 27 ((mtF M).map FV.up))]) (fun k => k ≤ l.length ∧ ∀ x ∈ l.drop k, (1000 : Int) ≤ x.time) (fun k => k) [] [] l.length (by kernel_rfl) (fun _ => rfl) rfl ⟨hk0, hk1⟩ (by repeat' (first | rfl | trivial | apply And.intro)) (by repeat' (first | rfl | trivial | apply And.intro)) ?_
    rintro k ⟨hk, hkd⟩
    conv => whnf
    refine vif_split (fun h2 => ?_) (fun h2 => ?_)
    · have hk0 : 0 < k := by simp at h2; omega
      have hlt : k - 1 < l.length := by omega
      have hg := List.getElem?_eq_getElem hlt
      have hdr := asc_take hP.asc hg
      generalize l[k - 1]'hlt = e at *
      conv => whnf
      refine AAr.i64 (by omega) ?_
      conv => whnf
      refine AIn.mk' (k - 1) (by omega) (by rw [List.length_map]; exact hlt) ?_
      conv => whnf
      refine ARd.mapAt hg ?_
      conv => whnf
      refine vif_split (fun h3 => ?_) (fun h3 => ?_)
      · have h3 : (1000 : Int) ≤ e.time := of_decide_eq_true h3
        conv => whnf
        refine AAr.i64 (by omega) ?_
        conv => whnf
        exact aback (k - 1) [] [] rfl (by show k - 1 < k; omega) ⟨by omega, fun x hx => Int.le_trans h3 (hdr.2 x hx)⟩ (by repeat' (first | rfl | trivial | apply And.intro)) ⟨congrArg (Value.int .i64) (by omega), trivial⟩
      · have h3 : e.time < (1000 : Int) := by have : ¬ e.time ≥ (1000 : Int) := of_decide_eq_false h3; omega
        have hp : ∀ x ∈ l.take k, x.time < (1000 : Int) := fun x hx => by
          have := hdr.1 x (by rw [show k - 1 + 1 = k by omega]; exact hx)
          omega
        conv => whnf
        have hap : l.take k ++ l.drop k = l := List.take_append_drop ..
        have e1 : smpS (l.take k) name M (1000 : Int) = smpS l name M (1000 : Int) := by
          have := smpS_more hp hkd name M hwin.1
          rw [hap] at this
          exact this.symm
        have hB := hP.bnd
        have hBp : EvB (l.take k) := ⟨by rw [List.length_take]; omega, fun e he => hB.time e (List.mem_of_mem_take he), fun e he => hB.val e (List.mem_of_mem_take he)⟩
        have s1 := samplesA (l.take k) name M (1000 : Int) hBp hz1 hz2
        have s2 := samplesA l name M (1000 : Int) hB hz1 hz2
        have s3 := samplesA l name M ((1000 : Int) + w3) hB hz1 hz2
        obtain ⟨ys, hys⟩ := smpS_pre name M hP.asc (show (1000 : Int) ≤ (1000 : Int) + w3 by omega)
        rw [if_pos hmc, e1, show el (l.take k) = .lst 10 ((l.map enE).take k) from by rw [← List.map_take]] at s1
        rw [if_pos hmc] at s2
        rw [if_pos hmc, hys] at s3
        have hSl : (smpS l name M (1000 : Int)).length ≤ 60 := by
          unfold smpS
          rw [List.length_map]
          refine Nat.le_trans (List.length_filter_le _ _) ?_
          rw [List.length_zipIdx]
          exact Nat.le_trans (fstX_len _ _ _) (Nat.le_trans (ofK_le 1 l) hlen)
        generalize smpS l name M (1000 : Int) = S at *
        have hcut : ((S ++ ys).map smF).take S.length = S.map smF := by rw [List.map_append, List.take_append_of_le_length (by rw [List.length_map]; exact Nat.le_refl _), List.take_of_length_le (by rw [List.length_map]; exact Nat.le_refl _)]
        (refine adraw pln3 [] (by kernel_rfl) ?_; conv => whnf)
        refine ABd.mk' 0 k rfl rfl (Nat.zero_le _) (by rw [List.length_map]; omega) ?_
        conv => whnf
        repeat' (first
          | (refine And.intro ?_ ?_ <;> (conv => whnf))
          | ((refine acallF [] (by kernel_rfl) (s1) ?_ ?_; (focus ((repeat' (first | rfl | trivial | apply And.intro)); done)); rintro _ _ _ ⟨rfl, rfl, rfl⟩; (conv => whnf)))
          | ((refine acallF [] (by kernel_rfl) (s2) ?_ ?_; (focus ((repeat' (first | rfl | trivial | apply And.intro)); done)); rintro _ _ _ ⟨rfl, rfl, rfl⟩; (conv => whnf))))
        refine AAr.i64 (by omega) ?_
        conv => whnf
        refine AAr.i64 (by omega) ?_
        conv => whnf
        (refine acallF [] (by kernel_rfl) (s3) ?_ ?_; (focus ((repeat' (first | rfl | trivial | apply And.intro)); done)); rintro _ _ _ ⟨rfl, rfl, rfl⟩; (conv => whnf))
        (refine acall [] (by kernel_rfl) (sameSmA S (by omega)) rfl ?_ ?_; (focus (repeat' (first | rfl | trivial | apply And.intro))))
        conv => whnf
        refine vif_split (fun h9 => ?_) (fun h9 => ?_)
        rotate_left 1
        · exfalso; simp at h9; omega
        conv => whnf
        refine ABd.mk' 0 S.length rfl (by rw [List.length_map]) (Nat.zero_le _) (by rw [List.length_map, List.length_append]; omega) ?_
        conv => whnf
        refine acall [] (by kernel_rfl) (sameSmA S (by omega)) rfl ⟨⟨rfl, hcut⟩, ⟨rfl, rfl⟩, trivial⟩ ?_
        conv => whnf
        exact aret [] (by repeat' (first | rfl | trivial | apply And.intro))
    · have hk0 : k = 0 := by simp at h2; omega
      subst hk0
      have hp : ∀ x ∈ l.take 0, x.time < (1000 : Int) := fun x hx => by simp at hx
      conv => whnf
      have hap : l.take 0 ++ l.drop 0 = l := List.take_append_drop ..
      have e1 : smpS (l.take 0) name M (1000 : Int) = smpS l name M (1000 : Int) := by
        have := smpS_more hp hkd name M hwin.1
        rw [hap] at this
        exact this.symm
      have hB := hP.bnd
      have hBp : EvB (l.take 0) := ⟨by rw [List.length_take]; omega, fun e he => hB.time e (List.mem_of_mem_take he), fun e he => hB.val e (List.mem_of_mem_take he)⟩
      have s1 := samplesA (l.take 0) name M (1000 : Int) hBp hz1 hz2
      have s2 := samplesA l name M (1000 : Int) hB hz1 hz2
      have s3 := samplesA l name M ((1000 : Int) + w3) hB hz1 hz2
      obtain ⟨ys, hys⟩ := smpS_pre name M hP.asc (show (1000 : Int) ≤ (1000 : Int) + w3 by omega)
      rw [if_pos hmc, e1, show el (l.take 0) = .lst 10 ((l.map enE).take 0) from by rw [← List.map_take]] at s1
      rw [if_pos hmc] at s2
      rw [if_pos hmc, hys] at s3
      have hSl : (smpS l name M (1000 : Int)).length ≤ 60 := by
        unfold smpS
        rw [List.length_map]
        refine Nat.le_trans (List.length_filter_le _ _) ?_
        rw [List.length_zipIdx]
        exact Nat.le_trans (fstX_len _ _ _) (Nat.le_trans (ofK_le 1 l) hlen)
      generalize smpS l name M (1000 : Int) = S at *
      have hcut : ((S ++ ys).map smF).take S.length = S.map smF := by rw [List.map_append, List.take_append_of_le_length (by rw [List.length_map]; exact Nat.le_refl _), List.take_of_length_le (by rw [List.length_map]; exact Nat.le_refl _)]
      (refine adraw pln3 [] (by kernel_rfl) ?_; conv => whnf)
      refine ABd.mk' 0 0 rfl rfl (Nat.zero_le _) (by rw [List.length_map]; omega) ?_
      conv => whnf
      repeat' (first
        | (refine And.intro ?_ ?_ <;> (conv => whnf))
        | ((refine acallF [] (by kernel_rfl) (s1) ?_ ?_; (focus ((repeat' (first | rfl | trivial | apply And.intro)); done)); rintro _ _ _ ⟨rfl, rfl, rfl⟩; (conv => whnf)))
        | ((refine acallF [] (by kernel_rfl) (s2) ?_ ?_; (focus ((repeat' (first | rfl | trivial | apply And.intro)); done)); rintro _ _ _ ⟨rfl, rfl, rfl⟩; (conv => whnf))))
      refine AAr.i64 (by omega) ?_
      conv => whnf
      refine AAr.i64 (by omega) ?_
      conv => whnf
      (refine acallF [] (by kernel_rfl) (s3) ?_ ?_; (focus ((repeat' (first | rfl | trivial | apply And.intro)); done)); rintro _ _ _ ⟨rfl, rfl, rfl⟩; (conv => whnf))
      (refine acall [] (by kernel_rfl) (sameSmA S (by omega)) rfl ?_ ?_; (focus (repeat' (first | rfl | trivial | apply And.intro))))
      conv => whnf
      refine vif_split (fun h9 => ?_) (fun h9 => ?_)
      rotate_left 1
      · exfalso; simp at h9; omega
      conv => whnf
      refine ABd.mk' 0 S.length rfl (by rw [List.length_map]) (Nat.zero_le _) (by rw [List.length_map, List.length_append]; omega) ?_
      conv => whnf
      refine acall [] (by kernel_rfl) (sameSmA S (by omega)) rfl ⟨⟨rfl, hcut⟩, ⟨rfl, rfl⟩, trivial⟩ ?_
      conv => whnf
      exact aret [] (by repeat' (first | rfl | trivial | apply And.intro))
end Go.Proofs.YtmnjmdajgilhiaaDoor.Cl
