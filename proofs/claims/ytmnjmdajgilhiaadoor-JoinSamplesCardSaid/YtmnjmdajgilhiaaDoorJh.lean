/- The walk of the law JoinSamples. Condition: the library's table of spaces (GS). -/
import Derived.Test.YtmnjmdajgilhiaaDoorJd
import Derived.Test.YtmnjmdajgilhiaaDoorJg2
import Derived.Test.YtmnjmdajgilhiaaDoorJ7
set_option linter.unusedVariables false
set_option linter.unusedSimpArgs false
namespace Go.Proofs.YtmnjmdajgilhiaaDoor.Cl
open Go Go.RowKit Go.Proofs Go.Proofs.YtmnjmdajgilhiaaDoor.Vc Go.Proofs.YtmnjmdajgilhiaaDoor.Ax Go.Proofs.YtmnjmdajgilhiaaDoor.Ky Go.Proofs.YtmnjmdajgilhiaaDoor.Id
attribute [local irreducible] loadVar storeVar Instr.indexAt Instr.index Instr.sliceAt Instr.makeSlice Instr.lookup Instr.mapUpdate Instr.range Instr.next Instr.entry Instr.makeMap Builtin.append_ Builtin.copy_ Builtin.len_ Builtin.min_ Builtin.max_ Builtin.cap_ Builtin.delete_ Builtin.clear_ convert binOp eqGuard Op.unary Calls
theorem smp_len (l : List Ev) (name : By) (m : Mt) (mark : Int) : (if mtC m = 0 then smpS l name m mark else []).length ≤ l.length := by
  split
  · unfold smpS
    rw [List.length_map]
    refine Nat.le_trans (List.length_filter_le _ _) ?_
    rw [List.length_zipIdx]
    exact Nat.le_trans (fstX_len _ _ _) (ofK_le 1 l)
  · exact Nat.zero_le _
def mtZ (m : Mt) : Mt := ⟨m.kind, m.name, m.below, m.window, 0, m.least, m.before⟩
set_option maxHeartbeats 16000000 in
set_option maxRecDepth 100000 in
theorem lawSamplesA (m b : By) (w1 : Nat) (mark arms : Int) (hw1 : w1 < 256) (hmk : -32768 ≤ mark ∧ mark ≤ 32767) (har : -128 ≤ arms ∧ arms ≤ 127) : AFn Tryd.prog GS 8 [bs m, bs b, u8v w1, .v (.int .i16 mark), .v (.int .i8 arms)] 0 [] (Is (bv true)) := by
  refine afn_of Tryd.func8 rfl mixed (by kernel_rfl) ?_
  conv => whnf
  (refine acallF [] (by kernel_rfl) (awakeA) ?_ ?_; (focus ((repeat' (first | rfl | trivial | apply And.intro)); done)); rintro _ _ _ ⟨rfl, rfl, rfl⟩; (conv => whnf))
  refine vif_split (fun h => ?_) (fun h => ?_)
  · conv => whnf
    exact aret [] (by repeat' (first | rfl | trivial | apply And.intro))
  have hml : m.length ≤ 300 := by simp at h; omega
  conv => whnf
  (refine acallF [] (by kernel_rfl) (eventsA m (by omega)) ?_ ?_; (focus (repeat' (first | rfl | trivial | apply And.intro))))
  rintro _ _ _ ⟨l, hP, rfl, rfl, rfl⟩
  have hlen := hP.len
  conv => whnf
  (refine acallF [] (by kernel_rfl) (metricDA b) ?_ ?_; (focus (repeat' (first | rfl | trivial | apply And.intro))))
  rintro _ _ _ ⟨M, hM, rfl, rfl, rfl⟩
  have hz1 := hM.z1
  have hz2 := hM.z2
  conv => whnf
  refine VReq.mk (by decide) ?_
  conv => whnf
  refine ⟨?_⟩
  conv => whnf
  refine VReq.mk (by decide) ?_
  conv => whnf
  refine vif_split (fun hc => ?_) (fun hc => ?_)
  · conv => whnf
    (refine acallF [] (by kernel_rfl) (expTA) ?_ ?_; (focus (repeat' (first | rfl | trivial | apply And.intro))))
    rintro _ _ _ ⟨rfl, rfl, rfl⟩
    obtain ⟨name, hname⟩ := exp_at w1
    conv => whnf
    refine AAr.i64 (by omega) ?_
    conv => whnf
    refine VReq.mk (by decide) ?_
    conv => whnf
    refine AIn.mk' (w1 % 2) rfl (by have : w1 % 2 < 2 := Nat.mod_lt _ (by decide); show w1 % 2 < 4; omega) ?_
    conv => whnf
    refine ARd.mapAt hname ?_
    conv => whnf
    refine aloop ws8_1 2 [14] (fun i : Nat => [(14, iv i)]) (fun _ => [(0, .var 27 ((mtF (mtZ M)).map FV.up))]) (fun i => i ≤ 2) (fun i => 2 - i) [] [] 0 (by kernel_rfl) (fun _ => rfl) rfl (Nat.zero_le _) (by repeat' (first | rfl | trivial | apply And.intro)) (by repeat' (first | rfl | trivial | apply And.intro)) ?_
    intro i hi
    have hi3 : i = 0 ∨ i = 1 ∨ i = 2 := by omega
    rcases hi3 with rfl | rfl | rfl
    · conv => whnf
      refine AAr.i64 (by omega) ?_
      conv => whnf
      refine AAr.i64 (by omega) ?_
      conv => whnf
      refine VReq.mk (by decide) ?_
      conv => whnf
      refine AIn.mk' 0 rfl (show 0 < 2 by decide) ?_
      conv => whnf
      refine ARd.at rfl ?_
      conv => whnf
      have s1 := samplesA l name (mtZ M) mark hP.bnd hz1 hz2
      have s2 := samples2A l name (mtZ M) mark hP.bnd hP.asc hz1 hz2
      have hSl := smp_len l name (mtZ M) mark
      generalize (if mtC (mtZ M) = 0 then smpS l name (mtZ M) mark else []) = S at *
      have hS60 : S.length ≤ 60 := Nat.le_trans hSl hlen
      have t1 := tallyA (G := GS) S (arms.tmod 12) (by omega)
      have t2 := tally2A (G := GS) S (arms.tmod 12) (by omega)
      unfold TalO at t1 t2
      have hT8 := tal_len (nar (arms.tmod 12)) S
      generalize tal (nar (arms.tmod 12)) S = T at *
      (refine acallF [] (by kernel_rfl) (s1) ?_ ?_; (focus ((repeat' (first | rfl | trivial | apply And.intro)); done)); rintro _ _ _ ⟨rfl, rfl, rfl⟩; (conv => whnf))
      (refine acallF [] (by kernel_rfl) (s2) ?_ ?_; (focus ((repeat' (first | rfl | trivial | apply And.intro)); done)); rintro _ _ _ ⟨rfl, rfl, rfl⟩; (conv => whnf))
      (refine acall [] (by kernel_rfl) (sameSmA S (by omega)) rfl ?_ ?_; (focus (repeat' (first | rfl | trivial | apply And.intro))))
      conv => whnf
      refine AAr.i64 (by omega) ?_
      conv => whnf
      refine VReq.mk (by decide) ?_
      conv => whnf
      (refine acallF [] (by kernel_rfl) (t1) ?_ ?_; (focus ((repeat' (first | rfl | trivial | apply And.intro)); done)); rintro _ _ _ ⟨rfl, rfl, rfl⟩; (conv => whnf))
      refine AAr.i64 (by omega) ?_
      conv => whnf
      refine VReq.mk (by decide) ?_
      conv => whnf
      (refine acallF [] (by kernel_rfl) (t2) ?_ ?_; (focus ((repeat' (first | rfl | trivial | apply And.intro)); done)); rintro _ _ _ ⟨rfl, rfl, rfl⟩; (conv => whnf))
      refine vif_split (fun q => ?_) (fun q => ?_)
      · exfalso; simp at q
      conv => whnf
      refine vif_split (fun q => ?_) (fun q => ?_)
      · exfalso; simp at q
      conv => whnf
      refine aloop ws8_2 5 [21] (fun j : Nat => [(21, iv j)]) (fun _ => [(0, .var 27 ((mtF (mtZ M)).map FV.up)), (3, .rows 3 1 (T.map enN2)), (4, .rows 3 1 (T.map enN2))]) (fun j => j ≤ T.length) (fun j => T.length - j) [] [] 0 (by kernel_rfl) (fun _ => rfl) rfl (Nat.zero_le _) (by repeat' (first | rfl | trivial | apply And.intro)) (by repeat' (first | rfl | trivial | apply And.intro)) ?_
      intro j hj
      conv => whnf
      refine vif_split (fun q => ?_) (fun q => ?_)
      · have hlt : j < T.length := by simp at q; omega
        have hg := List.getElem?_eq_getElem hlt
        generalize T[j] = c at *
        conv => whnf
        (refine adraw pln8 [] (by kernel_rfl) ?_; conv => whnf)
        repeat' (first
          | (refine And.intro ?_ ?_ <;> (conv => whnf))
          | (refine AIn.mk' j rfl (by rw [List.length_map]; exact hlt) ?_; conv => whnf)
          | (refine ARd.mapAt hg ?_; conv => whnf))
        refine vif_split (fun q => ?_) (fun q => ?_)
        · exfalso; simp at q
        conv => whnf
        refine AAr.i64 (by have : T.length ≤ 8 := by (rw [hT8]; unfold nar; omega)
                           omega) ?_
        conv => whnf
        exact aback (j + 1) [] [] rfl (by show T.length - (j + 1) < T.length - j; omega) hlt (by repeat' (first | rfl | trivial | apply And.intro)) (by repeat' (first | rfl | trivial | apply And.intro))
      have hTl : T.length ≤ 8 := by rw [hT8]; unfold nar; omega
      conv => whnf
      refine AAr.i64 (by omega) ?_
      conv => whnf
      exact aback 1 [] [] rfl (by decide) (by decide) (by repeat' (first | rfl | trivial | apply And.intro)) (by repeat' (first | rfl | trivial | apply And.intro))
    · conv => whnf
      refine AAr.i64 (by omega) ?_
      conv => whnf
      refine AAr.i64 (by omega) ?_
      conv => whnf
      refine VReq.mk (by decide) ?_
      conv => whnf
      refine AIn.mk' 1 rfl (show 1 < 2 by decide) ?_
      conv => whnf
      refine ARd.at rfl ?_
      conv => whnf
      have s1 := samplesA l name (mtZ M) (mark.tmod 120) hP.bnd hz1 hz2
      have s2 := samples2A l name (mtZ M) (mark.tmod 120) hP.bnd hP.asc hz1 hz2
      have hSl := smp_len l name (mtZ M) (mark.tmod 120)
      generalize (if mtC (mtZ M) = 0 then smpS l name (mtZ M) (mark.tmod 120) else []) = S at *
      have hS60 : S.length ≤ 60 := Nat.le_trans hSl hlen
      have t1 := tallyA (G := GS) S (arms.tmod 12) (by omega)
      have t2 := tally2A (G := GS) S (arms.tmod 12) (by omega)
      unfold TalO at t1 t2
      have hT8 := tal_len (nar (arms.tmod 12)) S
      generalize tal (nar (arms.tmod 12)) S = T at *
      (refine acallF [] (by kernel_rfl) (s1) ?_ ?_; (focus ((repeat' (first | rfl | trivial | apply And.intro)); done)); rintro _ _ _ ⟨rfl, rfl, rfl⟩; (conv => whnf))
      (refine acallF [] (by kernel_rfl) (s2) ?_ ?_; (focus ((repeat' (first | rfl | trivial | apply And.intro)); done)); rintro _ _ _ ⟨rfl, rfl, rfl⟩; (conv => whnf))
      (refine acall [] (by kernel_rfl) (sameSmA S (by omega)) rfl ?_ ?_; (focus (repeat' (first | rfl | trivial | apply And.intro))))
      conv => whnf
      refine AAr.i64 (by omega) ?_
      conv => whnf
      refine VReq.mk (by decide) ?_
      conv => whnf
      (refine acallF [] (by kernel_rfl) (t1) ?_ ?_; (focus ((repeat' (first | rfl | trivial | apply And.intro)); done)); rintro _ _ _ ⟨rfl, rfl, rfl⟩; (conv => whnf))
      refine AAr.i64 (by omega) ?_
      conv => whnf
      refine VReq.mk (by decide) ?_
      conv => whnf
      (refine acallF [] (by kernel_rfl) (t2) ?_ ?_; (focus ((repeat' (first | rfl | trivial | apply And.intro)); done)); rintro _ _ _ ⟨rfl, rfl, rfl⟩; (conv => whnf))
      refine vif_split (fun q => ?_) (fun q => ?_)
      · exfalso; simp at q
      conv => whnf
      refine vif_split (fun q => ?_) (fun q => ?_)
      · exfalso; simp at q
      conv => whnf
      refine aloop ws8_2 5 [21] (fun j : Nat => [(21, iv j)]) (fun _ => [(0, .var 27 ((mtF (mtZ M)).map FV.up)), (3, .rows 3 1 (T.map enN2)), (4, .rows 3 1 (T.map enN2))]) (fun j => j ≤ T.length) (fun j => T.length - j) [] [] 0 (by kernel_rfl) (fun _ => rfl) rfl (Nat.zero_le _) (by repeat' (first | rfl | trivial | apply And.intro)) (by repeat' (first | rfl | trivial | apply And.intro)) ?_
      intro j hj
      conv => whnf
      refine vif_split (fun q => ?_) (fun q => ?_)
      · have hlt : j < T.length := by simp at q; omega
        have hg := List.getElem?_eq_getElem hlt
        generalize T[j] = c at *
        conv => whnf
        (refine adraw pln8 [] (by kernel_rfl) ?_; conv => whnf)
        repeat' (first
          | (refine And.intro ?_ ?_ <;> (conv => whnf))
          | (refine AIn.mk' j rfl (by rw [List.length_map]; exact hlt) ?_; conv => whnf)
          | (refine ARd.mapAt hg ?_; conv => whnf))
        refine vif_split (fun q => ?_) (fun q => ?_)
        · exfalso; simp at q
        conv => whnf
        refine AAr.i64 (by have : T.length ≤ 8 := by (rw [hT8]; unfold nar; omega)
                           omega) ?_
        conv => whnf
        exact aback (j + 1) [] [] rfl (by show T.length - (j + 1) < T.length - j; omega) hlt (by repeat' (first | rfl | trivial | apply And.intro)) (by repeat' (first | rfl | trivial | apply And.intro))
      have hTl : T.length ≤ 8 := by rw [hT8]; unfold nar; omega
      conv => whnf
      refine AAr.i64 (by omega) ?_
      conv => whnf
      exact aback 2 [] [] rfl (by decide) (by decide) (by repeat' (first | rfl | trivial | apply And.intro)) (by repeat' (first | rfl | trivial | apply And.intro))
    · conv => whnf
      exact aret [] (by repeat' (first | rfl | trivial | apply And.intro))
  · conv => whnf
    (refine acallF [] (by kernel_rfl) (expTA) ?_ ?_; (focus (repeat' (first | rfl | trivial | apply And.intro))))
    rintro _ _ _ ⟨rfl, rfl, rfl⟩
    obtain ⟨name, hname⟩ := exp_at w1
    conv => whnf
    refine AAr.i64 (by omega) ?_
    conv => whnf
    refine VReq.mk (by decide) ?_
    conv => whnf
    refine AIn.mk' (w1 % 2) rfl (by have : w1 % 2 < 2 := Nat.mod_lt _ (by decide); show w1 % 2 < 4; omega) ?_
    conv => whnf
    refine ARd.mapAt hname ?_
    conv => whnf
    refine aloop ws8_1 2 [14] (fun i : Nat => [(14, iv i)]) (fun _ => [(0, .var 27 ((mtF M).map FV.up))]) (fun i => i ≤ 2) (fun i => 2 - i) [] [] 0 (by kernel_rfl) (fun _ => rfl) rfl (Nat.zero_le _) (by repeat' (first | rfl | trivial | apply And.intro)) (by repeat' (first | rfl | trivial | apply And.intro)) ?_
    intro i hi
    have hi3 : i = 0 ∨ i = 1 ∨ i = 2 := by omega
    rcases hi3 with rfl | rfl | rfl
    · conv => whnf
      refine AAr.i64 (by omega) ?_
      conv => whnf
      refine AAr.i64 (by omega) ?_
      conv => whnf
      refine VReq.mk (by decide) ?_
      conv => whnf
      refine AIn.mk' 0 rfl (show 0 < 2 by decide) ?_
      conv => whnf
      refine ARd.at rfl ?_
      conv => whnf
      have s1 := samplesA l name M mark hP.bnd hz1 hz2
      have s2 := samples2A l name M mark hP.bnd hP.asc hz1 hz2
      have hSl := smp_len l name M mark
      generalize (if mtC M = 0 then smpS l name M mark else []) = S at *
      have hS60 : S.length ≤ 60 := Nat.le_trans hSl hlen
      have t1 := tallyA (G := GS) S (arms.tmod 12) (by omega)
      have t2 := tally2A (G := GS) S (arms.tmod 12) (by omega)
      unfold TalO at t1 t2
      have hT8 := tal_len (nar (arms.tmod 12)) S
      generalize tal (nar (arms.tmod 12)) S = T at *
      (refine acallF [] (by kernel_rfl) (s1) ?_ ?_; (focus ((repeat' (first | rfl | trivial | apply And.intro)); done)); rintro _ _ _ ⟨rfl, rfl, rfl⟩; (conv => whnf))
      (refine acallF [] (by kernel_rfl) (s2) ?_ ?_; (focus ((repeat' (first | rfl | trivial | apply And.intro)); done)); rintro _ _ _ ⟨rfl, rfl, rfl⟩; (conv => whnf))
      (refine acall [] (by kernel_rfl) (sameSmA S (by omega)) rfl ?_ ?_; (focus (repeat' (first | rfl | trivial | apply And.intro))))
      conv => whnf
      refine AAr.i64 (by omega) ?_
      conv => whnf
      refine VReq.mk (by decide) ?_
      conv => whnf
      (refine acallF [] (by kernel_rfl) (t1) ?_ ?_; (focus ((repeat' (first | rfl | trivial | apply And.intro)); done)); rintro _ _ _ ⟨rfl, rfl, rfl⟩; (conv => whnf))
      refine AAr.i64 (by omega) ?_
      conv => whnf
      refine VReq.mk (by decide) ?_
      conv => whnf
      (refine acallF [] (by kernel_rfl) (t2) ?_ ?_; (focus ((repeat' (first | rfl | trivial | apply And.intro)); done)); rintro _ _ _ ⟨rfl, rfl, rfl⟩; (conv => whnf))
      refine vif_split (fun q => ?_) (fun q => ?_)
      · exfalso; simp at q
      conv => whnf
      refine vif_split (fun q => ?_) (fun q => ?_)
      · exfalso; simp at q
      conv => whnf
      refine aloop ws8_2 5 [21] (fun j : Nat => [(21, iv j)]) (fun _ => [(0, .var 27 ((mtF M).map FV.up)), (3, .rows 3 1 (T.map enN2)), (4, .rows 3 1 (T.map enN2))]) (fun j => j ≤ T.length) (fun j => T.length - j) [] [] 0 (by kernel_rfl) (fun _ => rfl) rfl (Nat.zero_le _) (by repeat' (first | rfl | trivial | apply And.intro)) (by repeat' (first | rfl | trivial | apply And.intro)) ?_
      intro j hj
      conv => whnf
      refine vif_split (fun q => ?_) (fun q => ?_)
      · have hlt : j < T.length := by simp at q; omega
        have hg := List.getElem?_eq_getElem hlt
        generalize T[j] = c at *
        conv => whnf
        (refine adraw pln8 [] (by kernel_rfl) ?_; conv => whnf)
        repeat' (first
          | (refine And.intro ?_ ?_ <;> (conv => whnf))
          | (refine AIn.mk' j rfl (by rw [List.length_map]; exact hlt) ?_; conv => whnf)
          | (refine ARd.mapAt hg ?_; conv => whnf))
        refine vif_split (fun q => ?_) (fun q => ?_)
        · exfalso; simp at q
        conv => whnf
        refine AAr.i64 (by have : T.length ≤ 8 := by (rw [hT8]; unfold nar; omega)
                           omega) ?_
        conv => whnf
        exact aback (j + 1) [] [] rfl (by show T.length - (j + 1) < T.length - j; omega) hlt (by repeat' (first | rfl | trivial | apply And.intro)) (by repeat' (first | rfl | trivial | apply And.intro))
      have hTl : T.length ≤ 8 := by rw [hT8]; unfold nar; omega
      conv => whnf
      refine AAr.i64 (by omega) ?_
      conv => whnf
      exact aback 1 [] [] rfl (by decide) (by decide) (by repeat' (first | rfl | trivial | apply And.intro)) (by repeat' (first | rfl | trivial | apply And.intro))
    · conv => whnf
      refine AAr.i64 (by omega) ?_
      conv => whnf
      refine AAr.i64 (by omega) ?_
      conv => whnf
      refine VReq.mk (by decide) ?_
      conv => whnf
      refine AIn.mk' 1 rfl (show 1 < 2 by decide) ?_
      conv => whnf
      refine ARd.at rfl ?_
      conv => whnf
      have s1 := samplesA l name M (mark.tmod 120) hP.bnd hz1 hz2
      have s2 := samples2A l name M (mark.tmod 120) hP.bnd hP.asc hz1 hz2
      have hSl := smp_len l name M (mark.tmod 120)
      generalize (if mtC M = 0 then smpS l name M (mark.tmod 120) else []) = S at *
      have hS60 : S.length ≤ 60 := Nat.le_trans hSl hlen
      have t1 := tallyA (G := GS) S (arms.tmod 12) (by omega)
      have t2 := tally2A (G := GS) S (arms.tmod 12) (by omega)
      unfold TalO at t1 t2
      have hT8 := tal_len (nar (arms.tmod 12)) S
      generalize tal (nar (arms.tmod 12)) S = T at *
      (refine acallF [] (by kernel_rfl) (s1) ?_ ?_; (focus ((repeat' (first | rfl | trivial | apply And.intro)); done)); rintro _ _ _ ⟨rfl, rfl, rfl⟩; (conv => whnf))
      (refine acallF [] (by kernel_rfl) (s2) ?_ ?_; (focus ((repeat' (first | rfl | trivial | apply And.intro)); done)); rintro _ _ _ ⟨rfl, rfl, rfl⟩; (conv => whnf))
      (refine acall [] (by kernel_rfl) (sameSmA S (by omega)) rfl ?_ ?_; (focus (repeat' (first | rfl | trivial | apply And.intro))))
      conv => whnf
      refine AAr.i64 (by omega) ?_
      conv => whnf
      refine VReq.mk (by decide) ?_
      conv => whnf
      (refine acallF [] (by kernel_rfl) (t1) ?_ ?_; (focus ((repeat' (first | rfl | trivial | apply And.intro)); done)); rintro _ _ _ ⟨rfl, rfl, rfl⟩; (conv => whnf))
      refine AAr.i64 (by omega) ?_
      conv => whnf
      refine VReq.mk (by decide) ?_
      conv => whnf
      (refine acallF [] (by kernel_rfl) (t2) ?_ ?_; (focus ((repeat' (first | rfl | trivial | apply And.intro)); done)); rintro _ _ _ ⟨rfl, rfl, rfl⟩; (conv => whnf))
      refine vif_split (fun q => ?_) (fun q => ?_)
      · exfalso; simp at q
      conv => whnf
      refine vif_split (fun q => ?_) (fun q => ?_)
      · exfalso; simp at q
      conv => whnf
      refine aloop ws8_2 5 [21] (fun j : Nat => [(21, iv j)]) (fun _ => [(0, .var 27 ((mtF M).map FV.up)), (3, .rows 3 1 (T.map enN2)), (4, .rows 3 1 (T.map enN2))]) (fun j => j ≤ T.length) (fun j => T.length - j) [] [] 0 (by kernel_rfl) (fun _ => rfl) rfl (Nat.zero_le _) (by repeat' (first | rfl | trivial | apply And.intro)) (by repeat' (first | rfl | trivial | apply And.intro)) ?_
      intro j hj
      conv => whnf
      refine vif_split (fun q => ?_) (fun q => ?_)
      · have hlt : j < T.length := by simp at q; omega
        have hg := List.getElem?_eq_getElem hlt
        generalize T[j] = c at *
        conv => whnf
        (refine adraw pln8 [] (by kernel_rfl) ?_; conv => whnf)
        repeat' (first
          | (refine And.intro ?_ ?_ <;> (conv => whnf))
          | (refine AIn.mk' j rfl (by rw [List.length_map]; exact hlt) ?_; conv => whnf)
          | (refine ARd.mapAt hg ?_; conv => whnf))
        refine vif_split (fun q => ?_) (fun q => ?_)
        · exfalso; simp at q
        conv => whnf
        refine AAr.i64 (by have : T.length ≤ 8 := by (rw [hT8]; unfold nar; omega)
                           omega) ?_
        conv => whnf
        exact aback (j + 1) [] [] rfl (by show T.length - (j + 1) < T.length - j; omega) hlt (by repeat' (first | rfl | trivial | apply And.intro)) (by repeat' (first | rfl | trivial | apply And.intro))
      have hTl : T.length ≤ 8 := by rw [hT8]; unfold nar; omega
      conv => whnf
      refine AAr.i64 (by omega) ?_
      conv => whnf
      exact aback 2 [] [] rfl (by decide) (by decide) (by repeat' (first | rfl | trivial | apply And.intro)) (by repeat' (first | rfl | trivial | apply And.intro))
    · conv => whnf
      exact aret [] (by repeat' (first | rfl | trivial | apply And.intro))
end Go.Proofs.YtmnjmdajgilhiaaDoor.Cl
