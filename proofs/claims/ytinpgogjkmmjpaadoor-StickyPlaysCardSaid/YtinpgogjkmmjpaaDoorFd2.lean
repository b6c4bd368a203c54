/- The walk of text.Key. Conditions: the library's table of spaces holds what it was laid with. -/
import Derived.Test.YtinpgogjkmmjpaaDoorFd
namespace Go.Proofs.YtinpgogjkmmjpaaDoor.Ky
open Go Go.RowKit Go.Proofs.YtinpgogjkmmjpaaDoor.Vc Go.Proofs.YtinpgogjkmmjpaaDoor.Id
attribute [local irreducible] loadVar storeVar Instr.indexAt Instr.index Instr.sliceAt Instr.makeSlice Instr.lookup Instr.mapUpdate Instr.range Instr.next Instr.entry Instr.makeMap Builtin.append_ Builtin.copy_ Builtin.len_ Builtin.min_ Builtin.max_ Builtin.cap_ Builtin.delete_ Builtin.clear_ convert binOp eqGuard Op.unary Calls

/-- a check of the program's own text of reserved words -/
def okW (s : ByteArray) : Bool :=
  decide (s.size ≤ 1000000) && decide (0 < s.size) && decide (spT ((bys s).getD 0 0).toNat = 0) &&
  ((List.range s.size).all fun i => decide (spT ((bys s).getD i 0).toNat = 0) || (decide (i + 1 < s.size) && decide (spT ((bys s).getD (i + 1) 0).toNat = 0))) &&
  decide (¬ (c1 (bys s) s.size).2.2 ≥ 128) && decide ((c1 (bys s) s.size).1 = ((wl s s.size).1.length + 1 : Nat)) && decide ((wl s s.size).2 < s.size) &&
  (((wl s s.size).1 ++ [s.extract (wl s s.size).2 s.size]).map bys == resv.map bys)
theorem bys_inj {a b : ByteArray} (h : bys a = bys b) : a = b := by
  obtain ⟨⟨x⟩⟩ := a
  obtain ⟨⟨y⟩⟩ := b
  have : x = y := h
  rw [this]
theorem map_bys_inj : ∀ (l m : List ByteArray), l.map bys = m.map bys → l = m := by
  intro l
  induction l with
  | nil => intro m h; cases m with
    | nil => rfl
    | cons _ _ => simp at h
  | cons a l ih => intro m h; cases m with
    | nil => simp at h
    | cons b m =>
      rw [List.map_cons, List.map_cons] at h
      injection h with h1 h2
      rw [bys_inj h1, ih m h2]
theorem okW_neat {s : ByteArray} (h : okW s = true) : Neat s ∧ (wl s s.size).1 ++ [s.extract (wl s s.size).2 s.size] = resv := by
  unfold okW at h
  simp only [Bool.and_eq_true, decide_eq_true_eq] at h
  obtain ⟨⟨⟨⟨⟨⟨⟨h1, h2⟩, h3⟩, h4⟩, h5⟩, h6⟩, h7⟩, h8⟩ := h
  refine ⟨⟨h1, fun _ => h3, fun i hi hne => ?_, h5, h6, h2, h7⟩, map_bys_inj _ _ (by simpa using h8)⟩
  have := List.all_eq_true.1 h4 i (by simpa using hi)
  simp only [Bool.or_eq_true, Bool.and_eq_true, decide_eq_true_eq] at this
  rcases this with h | h
  · exact absurd h hne
  · exact h
theorem fields_resv (s : ByteArray) (w : World) (hs : okW s = true) (hA : Asc w) :
    Ret Tryd.prog 62 #[.string s] w fun v w' => ∃ b, v = .slice (some ⟨b, 0, none⟩) 46 46 ∧ At w' b 0 (svals resv) ∧ b < w'.heap.size ∧ Below w.heap.size w w' := by
  obtain ⟨hn, hr⟩ := okW_neat hs
  refine (fields_ok s w hn hA).mono ?_
  rintro _ w' ⟨b, rfl, hat, hb⟩
  have hl : (wl s s.size).1.length + 1 = 46 := by
    have := congrArg List.length hr
    rw [resv_len] at this
    simpa using this
  rw [hr] at hat
  exact ⟨b, by rw [hl], hat, hb⟩
attribute [local irreducible] resv okW

set_option maxHeartbeats 1000000 in
set_option maxRecDepth 100000 in
theorem key1_ok (s : ByteArray) (w : World) (hA : Asc w) (hs : s.size ≤ 1099511627776) :
    Ret Tryd.prog 43 #[.string s] w fun v w' => v = .bool (keyB s) ∧ Below w.heap.size w w' := by
  refine ret_of_vc Tryd.func43 rfl mixed (by kernel_rfl) ?_
  have hk : keyB s = (decide (1 ≤ s.size) && decide (s.size ≤ 32) && wordB 0 (bys s) && !(resv.any fun r => sEq r s)) := rfl
  obtain ⟨kb, hkb⟩ : ∃ b, b = keyB s := ⟨_, rfl⟩
  rw [← hkb] at hk ⊢
  have hl := bys_len s
  conv => whnf
  refine vif_split (fun h1 => ?_) (fun h1 => ?_)
  · have h1 : ¬ 1 ≤ s.size := by have : (s.size : Int) < 1 := of_decide_eq_true h1; omega
    have : kb = false := by rw [hk]; simp [h1]
    subst this
    conv => whnf
    exact VEnd.mk ⟨rfl, Below.refl _ _⟩
  have h1 : 1 ≤ s.size := by have : ¬ (s.size : Int) < 1 := of_decide_eq_false h1; omega
  conv => whnf
  refine vif_split (fun h2 => ?_) (fun h2 => ?_)
  · have h2 : ¬ s.size ≤ 32 := by have : (s.size : Int) > 32 := of_decide_eq_true h2; omega
    have : kb = false := by rw [hk]; simp [h2]
    subst this
    conv => whnf
    exact VEnd.mk ⟨rfl, Below.refl _ _⟩
  have h2 : s.size ≤ 32 := by have : ¬ (s.size : Int) > 32 := of_decide_eq_false h2; omega
  have hk2 : kb = (wordB 0 (bys s) && !(resv.any fun r => sEq r s)) := by rw [hk]; simp [h1, h2]
  clear hk
  conv => whnf
  refine vs_rangeS rfl ?_
  intro w1 hB1 hI1
  conv => whnf
  refine vloop (X := Nat) ws43_1 (fun _ => []) (fun i w' => i ≤ s.size ∧ Below w.heap.size w w' ∧ Itr w' w.heap.size s i ∧ wordB 0 (bys s) = wordB i ((bys s).drop i)) (fun i => s.size - i) 0 (by kernel_rfl)
    ?_ ⟨Nat.zero_le _, hB1, hI1, rfl⟩ ?_
  · exact trivial
  rintro i w2 j ⟨hi, hB2, hI2, hp⟩
  clear hI1 hB1
  conv => whnf
  by_cases hlt : i < s.size
  · have hst := wordB_step (bys s) i (by omega)
    have hc : (bys s)[i]'(by omega) = s[i] := by simp; rfl
    rw [hc] at hst
    have hcb : s[i].toNat < 256 := s[i].toNat_lt
    rw [hst] at hp
    refine vs_next hI2 hlt (fun hpl w3 hO3 hI3 => ?_) (fun hnp w3 c q hO3 _ hc2 => ?_)
    · obtain ⟨c, hcc⟩ : ∃ c, c = s[i].toNat := ⟨_, rfl⟩
      have hno := okB_not i c
      have hyes := okB_iff i c
      rw [← hcc] at hp hpl ⊢
      have hB3 := hB2.trans (hO3.below (Nat.le_refl _))
      have e0 : okB i c = false → kb = false := fun h => by rw [hk2, hp, h]; rfl
      have e1 : okB i c = true → wordB 0 (bys s) = wordB (i + 1) ((bys s).drop (i + 1)) := fun h => by rw [hp, h]; rfl
      clear hst hc hcb hI2 hO3 hp
      conv => whnf
      (repeat' (refine vif_split (fun h => ?_) (fun h => ?_); all_goals (conv => whnf)))
      all_goals first
        | exact VEnd.mk ⟨congrArg Value.bool (e0 (hno.2 (by (try simp only [cond_true, cond_false, Bool.not_eq_true', Bool.not_eq_false', decide_eq_true_eq, decide_eq_false_iff_not, beq_iff_eq, bne_iff_ne, beq_eq_false_iff_ne, bne_eq_false_iff_eq, ne_eq, Bool.not_eq_eq_eq_not, Bool.not_true, Bool.not_false, Bool.false_eq_true, Bool.true_eq_false] at *) <;> omega))).symm, hB3⟩
        | exact VBack.mk ⟨_, (show s.size - (i + 1) < s.size - i by omega), i + 1, rfl, trivial, hlt, hB3, hI3, e1 (hyes.2 (by (try simp only [cond_true, cond_false, Bool.not_eq_true', Bool.not_eq_false', decide_eq_true_eq, decide_eq_false_iff_not, beq_iff_eq, bne_iff_ne, beq_eq_false_iff_ne, bne_eq_false_iff_eq, ne_eq, Bool.not_eq_eq_eq_not, Bool.not_true, Bool.not_false, Bool.false_eq_true, Bool.true_eq_false] at *) <;> omega))⟩
    · have hB3 := hB2.trans (hO3.below (Nat.le_refl _))
      have e0 : kb = false := by
        have : okB i s[i].toNat = false := (okB_not i _).2 (by omega)
        rw [hk2, hp, this]; rfl
      clear hst hc hcb hI2 hO3 hp
      subst e0
      conv => whnf
      (repeat' (refine vif_split (fun h => ?_) (fun h => ?_); all_goals (conv => whnf)))
      all_goals first
        | exact VEnd.mk ⟨rfl, hB3⟩
        | (exfalso; clear hk2; exact (by (try simp only [cond_true, cond_false, Bool.not_eq_true', Bool.not_eq_false', decide_eq_true_eq, decide_eq_false_iff_not, beq_iff_eq, bne_iff_ne, beq_eq_false_iff_ne, bne_eq_false_iff_eq, ne_eq, Bool.not_eq_eq_eq_not, Bool.not_true, Bool.not_false, Bool.false_eq_true, Bool.true_eq_false] at *) <;> omega))
  · obtain rfl : i = s.size := by omega
    rw [List.drop_of_length_le (by omega)] at hp
    have hp2 : wordB 0 (bys s) = true := hp
    have hk3 : kb = !(resv.any fun r => sEq r s) := by rw [hk2, hp2]; rfl
    refine vs_nextEnd hI2 (Nat.le_refl _) ?_
    conv => whnf
    refine vcall (by kernel_rfl) (fields_resv _ w2 (by kernel_rfl) (hA.below hB2)) ?_
    rintro _ w3 ⟨b, rfl, hA3, hb3, hB3⟩
    have hB3' := hB2.trans (hB3.mono hB2.size)
    clear hB3 hI2 hk2
    conv => whnf
    refine vloop (X := Nat) ws43_2 (fun i => [(52, .int .i64 i)]) (fun i w' => i ≤ 46 ∧ w' = w3 ∧ (resv.any fun r => sEq r s) = (resv.drop i).any fun r => sEq r s) (fun i => 46 - i) 0 (by kernel_rfl)
      ?_ ⟨Nat.zero_le _, rfl, rfl⟩ ?_
    · exact ⟨rfl, trivial⟩
    rintro i w4 j ⟨hi, rfl, hp⟩
    conv => whnf
    refine vif_split (fun hlt => ?_) (fun hge => ?_)
    · have hlt : i < 46 := by have := of_decide_eq_true hlt; omega
      have hil : i < resv.length := by rw [resv_len]; exact hlt
      rw [any_take _ _ i hil] at hp
      have hg := svals_get hil
      conv => whnf
      (repeat (first | (refine VReq.mk (by first | decide | omega) ?_; conv => whnf) | (refine VPend.mk rfl ?_; conv => whnf) | (refine VNext.keep rfl ?_; conv => whnf) | (refine vs_slI1 _ rfl rfl rfl (by assumption) ?_; conv => whnf) | (refine vs_slI _ rfl rfl rfl (by assumption) ?_; conv => whnf) | (refine vs_arr1 _ rfl rfl rfl (by assumption) ?_; conv => whnf) | (refine vs_loadF (by with_reducible assumption) (by assumption) rfl rfl ?_; conv => whnf) | (refine vs_loadF0 (by with_reducible assumption) (by assumption) rfl rfl ?_; conv => whnf) | (refine vs_loadI (by with_reducible assumption) (by assumption) rfl ?_; conv => whnf) | (refine vs_loadB rfl (by with_reducible assumption) (by assumption) ?_; conv => whnf)))
      refine vif_split (fun h => ?_) (fun h => ?_)
      · have : kb = false := by rw [hk3, hp, h]; rfl
        subst this
        conv => whnf
        exact VEnd.mk ⟨rfl, hB3'⟩
      · rw [h, Bool.false_or] at hp
        conv => whnf
        refine VBack.mk ⟨_, ?_, (i + 1), rfl, ?_, ?_⟩
        · show 46 - (i + 1) < 46 - i; omega
        · exact ⟨intEq (incr (by omega)), trivial⟩
        · exact ⟨hlt, rfl, hp⟩
    · have hge : ¬ i < 46 := by have := of_decide_eq_false hge; omega
      obtain rfl : i = 46 := by omega
      rw [List.drop_of_length_le (by rw [resv_len]; exact Nat.le_refl _)] at hp
      have : kb = true := by rw [hk3, hp]; rfl
      subst this
      conv => whnf
      exact VEnd.mk ⟨rfl, hB3'⟩
end Go.Proofs.YtinpgogjkmmjpaaDoor.Ky
