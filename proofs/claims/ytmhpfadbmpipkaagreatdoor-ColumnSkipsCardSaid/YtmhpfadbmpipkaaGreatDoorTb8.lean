/- The walk of column.ReadTable. Condition: at most 100000 bytes. -/
import Derived.Test.YtmhpfadbmpipkaaGreatDoorTb7
set_option linter.unusedVariables false
set_option linter.unusedSimpArgs false
namespace Go.Proofs.YtmhpfadbmpipkaaGreatDoor.Cl
open Go Go.RowKit Go.Proofs Go.Proofs.YtmhpfadbmpipkaaGreatDoor.Vc Go.Proofs.YtmhpfadbmpipkaaGreatDoor.Ax
attribute [local irreducible] loadVar storeVar Instr.indexAt Instr.index Instr.sliceAt Instr.makeSlice Instr.lookup Instr.mapUpdate Instr.range Instr.next Instr.entry Instr.makeMap Builtin.append_ Builtin.copy_ Builtin.len_ Builtin.min_ Builtin.max_ Builtin.cap_ Builtin.delete_ Builtin.clear_ convert binOp eqGuard Op.unary Calls
attribute [local irreducible] best ints en bd txs dsT
/-- the table of these events, whichever it is -/
def GT3 (b : By) (Q : List Ev → Prop) : Prop := ∀ l0 : List Ev, (∀ e ∈ l0, e.ok) → tbE l0 = 0 → b = tab l0 → Q l0
theorem tbE_0 {l : List Ev} (h : tbE l = 0) : l.length ≤ 512 ∧ evsC l = 0 := by
  unfold tbE at h
  split at h
  · omega
  · exact ⟨by omega, h⟩
/-- what ReadTable answers -/
def RTBs (b : By) (l : List Ev) (e : Int) : Prop := (∀ x ∈ l, x.ok) ∧ l.length ≤ 512 ∧ ((e = 0 ∧ tbE l = 0 ∧ tab l = b) ∨ (e = 1 ∧ l = [])) ∧ GT3 b fun l0 => e = 0 ∧ l = l0
theorem RTBs.no {b : By} (h : GT3 b fun _ => False) : RTBs b [] 1 := ⟨fun _ h => (by cases h), Nat.zero_le _, .inr ⟨rfl, rfl⟩, fun l0 h1 h2 h3 => (h l0 h1 h2 h3).elim⟩
theorem RTBs.two {b : By} {l l' : List Ev} {e e' : Int} (h : RTBs b l e) (h' : RTBs b l' e') : l = l' ∧ e = e' := by
  obtain ⟨a1, a2, a3, a4⟩ := h
  obtain ⟨b1, b2, b3, b4⟩ := h'
  rcases a3 with ⟨rfl, p1, p2⟩ | ⟨rfl, rfl⟩
  · have := b4 l a1 p1 p2.symm
    exact ⟨this.2.symm, this.1.symm⟩
  · rcases b3 with ⟨rfl, p1, p2⟩ | ⟨rfl, rfl⟩
    · have := a4 l' b1 p1 p2.symm
      omega
    · exact ⟨rfl, rfl⟩
/-- how far a table is read -/
structure KT (b : By) (n : Nat) (l : List Ev) (at_ : Nat) : Prop where
  len : l.length ≤ n
  ok : ∀ e ∈ l, e.ok
  atl : at_ ≤ b.length
  full : GT3 b fun l0 => n = l0.length ∧ ∃ i, i ≤ nC l0 ∧ l = l0.take (16 * i) ∧ b.drop at_ = ((List.range (nC l0)).drop i).flatMap fun j => chb (ch l0 j)
theorem KT.step {b : By} {n : Nat} {l : List Ev} {at_ : Nat} (h : KT b n l at_) (hlt : l.length < n) {c : List Ev} {k : Nat} {ok : Bool} (hR : RCs (b.drop at_) (min 16 (n - l.length)) c k ok) :
    (ok = true → KT b n (l ++ c) (at_ + k) ∧ 0 < c.length) ∧ GT3 b fun _ => ok = true := by
  have key : GT3 b fun l0 => ok = true ∧ ∃ i, i + 1 ≤ nC l0 ∧ l ++ c = l0.take (16 * (i + 1)) ∧ b.drop (at_ + k) = ((List.range (nC l0)).drop (i + 1)).flatMap fun j => chb (ch l0 j) := fun l0 h1 h2 h3 => by
    obtain ⟨q1, i, q2, q3, q4⟩ := h.full l0 h1 h2 h3
    have hl : l.length = min (16 * i) l0.length := by rw [q3, List.length_take]
    have hi : 16 * i < l0.length := by omega
    have hic : i < nC l0 := by unfold nC; omega
    have hlok := ch_lok h1 (evsC_all (tbE_0 h2).2) hic
    have hcl : (ch l0 i).length = min 16 (n - l.length) := by unfold ch; rw [List.length_take, List.length_drop]; omega
    have hd : (List.range (nC l0)).drop i = i :: (List.range (nC l0)).drop (i + 1) := by
      rw [List.drop_eq_getElem_cons (by rw [List.length_range]; exact hic), List.getElem_range]
    rw [hd, List.flatMap_cons] at q4
    obtain ⟨f1, f2, f3⟩ := hR.full _ _ hlok hcl q4
    refine ⟨f1, i, hic, ?_, ?_⟩
    · rw [f2, q3, show 16 * (i + 1) = 16 * i + 16 by omega, List.take_add]; rfl
    · rw [← List.drop_drop, q4, f3, List.drop_left' rfl]
  refine ⟨fun hk => ?_, fun l0 h1 h2 h3 => (key l0 h1 h2 h3).1⟩
  obtain ⟨g1, g2, g3⟩ := hR.good hk
  have ha := h.atl
  rw [List.length_drop] at g3
  refine ⟨⟨by rw [List.length_append]; omega, fun e he => ?_, by omega, fun l0 h1 h2 h3 => ⟨(h.full l0 h1 h2 h3).1, ?_⟩⟩, by omega⟩
  · rcases List.mem_append.1 he with he | he
    · exact h.ok e he
    · exact g2 e he
  · obtain ⟨_, i, r1, r2, r3⟩ := key l0 h1 h2 h3
    exact ⟨i + 1, r1, r2, r3⟩
theorem KT.fin {b : By} {n : Nat} {l : List Ev} {at_ : Nat} (h : KT b n l at_) (he : l.length = n) : GT3 b fun l0 => l = l0 := fun l0 h1 h2 h3 => by
  obtain ⟨q1, i, q2, q3, _⟩ := h.full l0 h1 h2 h3
  have hl : l.length = min (16 * i) l0.length := by rw [q3, List.length_take]
  rw [q3, List.take_of_length_le (by omega)]
structure TS where
  l : List Ev
  a : Nat
def RTBa (b : By) (a : AV) (m : Nat) (H : AHeap) : Prop := ∃ l e, RTBs b l e ∧ a = .tup [el l, iv e] ∧ m = 0 ∧ H = []
set_option maxHeartbeats 16000000 in
set_option maxRecDepth 100000 in
theorem readTableA (b : By) (hb : b.length ≤ 100000) : AFn Tryz.prog GS 12 [bs b] 0 [] (RTBa b) := by
  have hC := AFn.up (countA b 0 512 (by omega) (by decide)) GS
  have hr := cnT_rng b 0 512 5 (by decide) (by decide)
  have ho := rnT_ok b 0
  have hhead : GT3 b fun l0 => (cnT b 0 512 5).2.2 = 0 ∧ (cnT b 0 512 5).1 = (l0.length : Int) := fun l0 h1 h2 h3 => by
    have hl := (tbE_0 h2).1
    have r1 := rd1 (b := b) (e := 0) (i64_nat (by omega : l0.length ≤ 9223372036854775807)) rfl h3
    have := cnT_of (em := 5) (most := 512) r1.1 r1.2.1 (by omega)
    rw [this]
    exact ⟨rfl, rfl⟩
  generalize cnT b 0 512 5 = t at *
  obtain ⟨x, k, e⟩ := t
  simp only at hC hr hhead
  obtain ⟨n, rfl⟩ : ∃ n : Nat, x = (n : Int) := ⟨x.toNat, by omega⟩
  have hn : n ≤ 512 := by omega
  refine afn_of Tryz.func12 rfl mixed (by kernel_rfl) ?_
  conv => whnf
  (refine acallF [] (by kernel_rfl) (AFn.up (newA b (by omega)) GS) ?_ ?_; (focus (repeat' (first | rfl | trivial | apply And.intro))))
  rintro _ _ _ ⟨rfl, rfl, rfl⟩
  conv => whnf
  refine acallM [0] [] (by kernel_rfl) hC rfl (by repeat' (first | rfl | trivial | apply And.intro)) (by repeat' (first | rfl | trivial | apply And.intro)) ?_
  rintro _ _ _ ⟨rfl, rfl, rfl⟩
  refine ⟨rfl, ?_⟩
  conv => whnf
  refine acallM [0] [] (by kernel_rfl) (AFn.up (errA (b.drop k) e) GS) rfl (by repeat' (first | rfl | trivial | apply And.intro)) (by repeat' (first | rfl | trivial | apply And.intro)) ?_
  rintro _ _ _ ⟨rfl, rfl, rfl⟩
  refine ⟨rfl, ?_⟩
  conv => whnf
  refine vif_split (fun h => ?_) (fun h => ?_)
  · have he : e ≠ 0 := by simpa using h
    conv => whnf
    exact aend (.tup [el [], iv 1]) 0 [] [] [] ⟨[], 1, RTBs.no fun l0 h1 h2 h3 => he (hhead l0 h1 h2 h3).1, rfl, rfl, rfl⟩ rfl trivial (by repeat' (first | rfl | trivial | apply And.intro))
  have he : e = 0 := by simpa using h
  subst he
  obtain ⟨hr1, hr2⟩ := hr.2.2.2 rfl
  obtain ⟨_, hbe, hke⟩ := ho.2.2.1 hr1
  rw [← hr2] at hbe hke
  have hk0 : KT b n [] (num (n : Int)).length := by
    refine ⟨Nat.zero_le _, fun _ h => (by cases h), ?_, fun l0 h1 h2 h3 => ?_⟩
    · have := congrArg List.length hbe
      rw [List.length_append] at this
      omega
    · have hnl : n = l0.length := by have := (hhead l0 h1 h2 h3).2; omega
      refine ⟨hnl, 0, Nat.zero_le _, by simp, ?_⟩
      rw [h3]
      unfold tab tabA
      rw [hnl, List.drop_left' rfl, List.drop_zero]
  have n1 := (num_len (n : Int)).2
  conv => whnf
  (refine acallF [] (by kernel_rfl) (AFn.up (putA [] (n : Int) (i64_nat (by omega)) (by simp)) GS) ?_ ?_; (focus (repeat' (first | rfl | trivial | apply And.intro))))
  rintro _ _ _ ⟨rfl, rfl, rfl⟩
  conv => whnf
  refine aloop ws12_1 3 [6, 7] (fun x : TS => [(6, iv x.a), (7, .own 2)]) (fun x => [(2, .rows 38 10 (x.l.map enE))]) (fun x => KT b n x.l x.a) (fun x => n - x.l.length) [(2, .nil)] [] ⟨[], (num (n : Int)).length⟩ (by kernel_rfl) (fun _ => rfl) rfl hk0 ⟨rfl, trivial⟩ ⟨congrArg (fun n : Nat => Value.int .i64 (n : Int)) (by simp), trivial, trivial⟩ ?_
  rintro ⟨l, at_⟩ hK
  change KT b n l at_ at hK
  have hat := hK.atl
  have hle := hK.len
  conv => whnf
  refine vif_split (fun h => ?_) (fun h => ?_)
  · have hlt : l.length < n := by simp at h; omega
    conv => whnf
    refine ABd.mk' at_ b.length rfl (by rw [List.length_map]) hat (by rw [List.length_map]; exact Nat.le_refl _) ?_
    conv => whnf
    refine AAr.to (y := ((n - l.length : Nat) : Int)) (by rw [List.length_map]; dsimp only; rw [IntWalk.i64_in _ (by omega)]; omega) ?_
    conv => whnf
    have hmin : min (16 : Int) ((n - l.length : Nat) : Int) = ((min 16 (n - l.length) : Nat) : Int) := by omega
    rw [hmin]
    have hcut : (b.map enB).drop at_ = (b.drop at_).map enB := List.map_drop.symm
    refine acallF [] (by kernel_rfl) (readChunkA (b.drop at_) (min 16 (n - l.length)) (drop_le hb) (by omega)) ⟨⟨rfl, hcut⟩, rfl, trivial⟩ ?_
    rintro _ _ _ ⟨c, q, ok, hR, rfl, rfl, rfl⟩
    obtain ⟨hs1, hs2⟩ := hK.step hlt hR
    conv => whnf
    cases ok
    · conv => whnf
      exact aend (.tup [el [], iv 1]) 0 [] [] [] ⟨[], 1, RTBs.no (fun l0 h1 h2 h3 => Bool.false_ne_true (hs2 l0 h1 h2 h3)), rfl, rfl, rfl⟩ rfl trivial (by repeat' (first | rfl | trivial | apply And.intro))
    obtain ⟨hK1, hc0⟩ := hs1 rfl
    have hl1 := hK1.len
    rw [List.length_append] at hl1
    have hq := hK1.atl
    conv => whnf
    refine VReq.mk (app_e (by simp only [List.length_map]; omega)) ?_
    conv => whnf
    refine AAr.i64 (by dsimp only; omega) ?_
    conv => whnf
    exact aback ⟨l ++ c, at_ + q⟩ [(2, .lab 3)] [] rfl (by show n - (l ++ c).length < n - l.length; rw [List.length_append]; omega) hK1 ⟨⟨rfl, rfl, List.map_append.symm⟩, trivial⟩ ⟨rfl, rfl, trivial⟩
  have hln : l.length = n := by simp at h; omega
  have hfin := hK.fin hln
  have hT := table1A l hK.ok (by omega)
  have hq := AFn.up (equalA (tbB l) b) GS
  conv => whnf
  (refine acallF [2] (by kernel_rfl) (hT) ?_ ?_; (focus (repeat' (first | rfl | trivial | apply And.intro))))
  rintro _ _ _ ⟨rfl, rfl, rfl⟩
  conv => whnf
  refine vif_split (fun h => ?_) (fun h => ?_)
  · have he : tbE l ≠ 0 := by simpa using h
    conv => whnf
    exact aend (.tup [el [], iv 1]) 0 [] [] [] ⟨[], 1, RTBs.no fun l0 h1 h2 h3 => he (by rw [hfin l0 h1 h2 h3]; exact h2), rfl, rfl, rfl⟩ rfl trivial (by repeat' (first | rfl | trivial | apply And.intro))
  have he : tbE l = 0 := by simpa using h
  have etb : tbB l = tab l := by unfold tbB; rw [if_pos he]
  rw [etb] at hq ⊢
  conv => whnf
  (refine acall [] (by kernel_rfl) (hq) rfl ?_ ?_; (focus (repeat' (first | rfl | trivial | apply And.intro))))
  conv => whnf
  refine vif_split (fun h => ?_) (fun h => ?_)
  · have hp : ¬ tab l = b := by simpa using h
    conv => whnf
    exact aend (.tup [el [], iv 1]) 0 [] [] [] ⟨[], 1, RTBs.no fun l0 h1 h2 h3 => hp (by rw [hfin l0 h1 h2 h3]; exact h3.symm), rfl, rfl, rfl⟩ rfl trivial (by repeat' (first | rfl | trivial | apply And.intro))
  · have hp : tab l = b := by simpa using h
    conv => whnf
    exact aend (.tup [el l, iv 0]) 0 [] [] [] ⟨l, 0, ⟨hK.ok, by omega, .inl ⟨rfl, he, hp⟩, fun l0 h1 h2 h3 => ⟨rfl, hfin l0 h1 h2 h3⟩⟩, rfl, rfl, rfl⟩ rfl trivial ⟨⟨rfl, rfl⟩, rfl, trivial⟩
end Go.Proofs.YtmhpfadbmpipkaaGreatDoor.Cl
