/- The walks of the reference's Members, Same, Until and SameLinks. Conditions: the arguments read as links. -/
import Derived.Test.YtinpgogjkmmjpaaDoorId2
namespace Go.Proofs.YtinpgogjkmmjpaaDoor.Id
open Go Go.RowKit Go.Proofs.YtinpgogjkmmjpaaDoor.Vc Go.Proofs.YtinpgogjkmmjpaaDoor.Ky
attribute [local irreducible] loadVar storeVar Instr.indexAt Instr.index Instr.sliceAt Instr.makeSlice Instr.lookup Instr.mapUpdate Instr.range Instr.next Instr.entry Instr.makeMap Builtin.append_ Builtin.copy_ Builtin.len_ Builtin.min_ Builtin.max_ Builtin.cap_ Builtin.delete_ Builtin.clear_ convert binOp eqGuard Op.unary Calls

/-- how many ends of links are not in the list -/
def away (L : List ByteArray) : List Lk → Nat
  | [] => 0
  | k :: l => (bif hasB L k.a then 0 else 1) + (bif hasB L k.b then 0 else 1) + away L l
theorem away_le {L M : List ByteArray} (h : ∀ y, y ∈ L → y ∈ M) (l : List Lk) : away M l ≤ away L l := by
  induction l with
  | nil => exact Nat.le_refl _
  | cons k l ih =>
    have e : ∀ z, (bif hasB M z then 0 else 1 : Nat) ≤ (bif hasB L z then 0 else 1) := fun z => by
      cases hL : hasB L z with
      | true => rw [(hasB_iff M z).2 (h z ((hasB_iff L z).1 hL))]; exact Nat.le_refl _
      | false => cases hasB M z <;> simp
    have := e k.a
    have := e k.b
    simp only [away]
    omega
theorem away_lt {L M : List ByteArray} (h : ∀ y, y ∈ L → y ∈ M) {s : ByteArray} (hs : s ∉ L) (hm : s ∈ M) : ∀ (l : List Lk), (∃ k ∈ l, k.a = s ∨ k.b = s) → away M l < away L l := by
  intro l
  induction l with
  | nil => rintro ⟨k, hk, _⟩; simp at hk
  | cons k l ih =>
    have e : ∀ z, (bif hasB M z then 0 else 1 : Nat) ≤ (bif hasB L z then 0 else 1) := fun z => by
      cases hL : hasB L z with
      | true => rw [(hasB_iff M z).2 (h z ((hasB_iff L z).1 hL))]; exact Nat.le_refl _
      | false => cases hasB M z <;> simp
    have e1 : (bif hasB M s then 0 else 1 : Nat) < (bif hasB L s then 0 else 1) := by
      rw [(hasB_iff M s).2 hm, (hasB_not L s).2 hs]; decide
    have a1 := e k.a
    have a2 := e k.b
    have a3 := away_le h l
    rintro ⟨k', hk, hks⟩
    simp only [away]
    rcases List.mem_cons.1 hk with rfl | hk
    · rcases hks with hks | hks
      · rw [hks] at a1 ⊢; omega
      · rw [hks] at a2 ⊢; omega
    · have := ih ⟨k', hk, hks⟩
      omega

set_option maxHeartbeats 1000000 in
set_option maxRecDepth 100000 in
theorem members_ok (oa : Option Addr) (c : Nat) (ls : List Lk) (id : ByteArray) (w : World) (hr : Row w oa (recs lkc ls)) (hmx : ls.length ≤ 1000000) :
    Ret Tryd.prog 49 #[.slice oa ls.length c, .string id] w fun v w' => ∃ oa' c' L, v = .slice oa' L.length c' ∧ Row w' oa' (svals L) ∧ L.length ≤ 4000000 ∧ (∀ y, y ∈ L ↔ con ls id y) ∧ Below w.heap.size w w' := by
  refine ret_of_vc Tryd.func49 rfl mixed (by kernel_rfl) ?_
  have hab : away [id] ls ≤ 2 * ls.length := by
    have : ∀ (L : List ByteArray) (l : List Lk), away L l ≤ 2 * l.length := fun L l => by
      induction l with
      | nil => exact Nat.le_refl _
      | cons k l ih =>
        simp only [away, List.length_cons]
        have : ∀ b : Bool, (bif b then 0 else 1 : Nat) ≤ 1 := fun b => by cases b <;> decide
        have := this (hasB L k.a)
        have := ‹∀ b : Bool, (bif b then 0 else 1 : Nat) ≤ 1› (hasB L k.b)
        omega
    exact this _ _
  conv => whnf
  refine vloop (X := List ByteArray × Option Addr × Nat × Bool) ws49_1 (fun x => [(5, .slice x.2.1 x.1.length x.2.2.1), (6, .bool x.2.2.2)]) (fun x w' => Below w.heap.size w w' ∧ Row w' x.2.1 (svals x.1) ∧ x.1.length ≤ x.2.2.1 ∧ (x.2.1 = none → x.2.2.1 = 0) ∧ x.1.length + away x.1 ls ≤ 1 + 2 * ls.length ∧ id ∈ x.1 ∧ (∀ y, y ∈ x.1 → con ls id y) ∧ (x.2.2.2 = false → ∀ k ∈ ls, (k.a ∈ x.1 ↔ k.b ∈ x.1))) (fun x => 2 * away x.1 ls + (bif x.2.2.2 then 1 else 0)) ([id], some ⟨w.heap.size, 0, none⟩, 1, true) (by kernel_rfl)
    ?_ ⟨balloc (Below.refl _ _) (Nat.le_refl _) _, Row.alloc1 w [.string id] _, Nat.le_refl _, (fun e => by cases e), by simp only [List.length_cons, List.length_nil]; omega, by simp, (fun y hy => by simp at hy; subst hy; exact rfl), fun e => by cases e⟩ ?_
  · exact ⟨rfl, rfl, trivial⟩
  rintro ⟨L, oo, cc, ag⟩ w1 j ⟨hB1, hL1, hc1, hn1, hlen, hid, hcon, hcl⟩
  simp only at hL1 hc1 hn1 hlen hid hcon hcl ⊢
  conv => whnf
  cases ag with
  | false =>
    conv => whnf
    have hclo := hcl rfl
    refine VEnd.mk ⟨oo, cc, L, rfl, hL1, by omega, fun y => ⟨hcon y, fun h => ?_⟩, hB1⟩
    exact (con_closed (fun z => z ∈ L) _ ls rfl hclo id y h).1 hid
  | true =>
    conv => whnf
    refine vloop (X := Nat × List ByteArray × Option Addr × Nat × Bool) ws49_2 (fun x => [(7, .int .i64 x.1), (5, .slice x.2.2.1 x.2.1.length x.2.2.2.1), (6, .bool x.2.2.2.2)]) (fun x w' => x.1 ≤ ls.length ∧ Below w.heap.size w w' ∧ Row w' x.2.2.1 (svals x.2.1) ∧ x.2.1.length ≤ x.2.2.2.1 ∧ (x.2.2.1 = none → x.2.2.2.1 = 0) ∧ x.2.1.length + away x.2.1 ls ≤ 1 + 2 * ls.length ∧ id ∈ x.2.1 ∧ (∀ y, y ∈ x.2.1 → con ls id y) ∧
        (x.2.2.2.2 = false → away x.2.1 ls ≤ away L ls ∧ ∀ k ∈ ls.take x.1, (k.a ∈ x.2.1 ↔ k.b ∈ x.2.1)) ∧ (x.2.2.2.2 = true → away x.2.1 ls < away L ls)) (fun x => ls.length - x.1) (0, L, oo, cc, false) (by kernel_rfl)
      ?_ ⟨Nat.zero_le _, hB1, hL1, hc1, hn1, hlen, hid, hcon, fun _ => ⟨Nat.le_refl _, fun k hk => by simp at hk⟩, fun e => by cases e⟩ ?_
    · exact ⟨rfl, rfl, rfl, trivial⟩
    clear hB1 hL1 hc1 hn1 hlen hid hcon hcl
    rintro ⟨i, M, o2, c2, ag⟩ w2 j2 ⟨hi, hB2, hL2, hc2, hn2, hlen, hid, hcon, hcl, hag⟩
    simp only at hi hL2 hc2 hn2 hlen hid hcon hcl hag ⊢
    conv => whnf
    refine vif_split (fun hlt => ?_) (fun hge => ?_)
    · have hlt : i < ls.length := by have := of_decide_eq_true hlt; omega
      obtain ⟨b, o, rfl, hbl, hA⟩ := hr.at (by rw [recs_len lkc_len]; omega)
      have hseg := recs_seg lkc_len ls i hlt
      have hA2 := hA.below hB2 hbl
      have hkm : ls[i] ∈ ls := List.getElem_mem hlt
      have hlk := con_link _ ls rfl ls[i] hkm
      have htk := List.take_succ_eq_append_getElem hlt
      obtain ⟨k, hkk⟩ : ∃ k, k = ls[i] := ⟨_, rfl⟩
      rw [← hkk] at hseg hkm hlk htk
      conv => whnf
      (refine vdrawB plan49 (by kernel_rfl) ?_; conv => whnf)
      have hAd : At w2.drew b o (recs lkc ls) := hA2
      have hbd : b < w2.drew.heap.size := Nat.lt_of_lt_of_le hbl hB2.size
      have hMl : M.length ≤ 1099511627776 := by omega
      (refine vs_slI _ rfl rfl rfl hlt ?_; (conv => whnf); refine VPend.mk rfl ?_; (conv => whnf); refine VPend.mk (fun u hu => ?_) ?_; (focus ((conv => whnf); exact vs_slI _ rfl rfl rfl hlt (VPend.mk rfl rfl))); (conv => whnf))
      (refine VPend.mk (fun u _ => ?_) ?_; (focus (conv => whnf)); (conv => whnf))
      (refine vs_loadF (j := 0) hAd hseg rfl rfl ?_; (conv => whnf); refine VPend.mk rfl ?_; (conv => whnf); refine VPend.mk (fun u hu => ?_) ?_; (focus ((conv => whnf); exact vs_loadF (j := 0) (At.below hAd hu hbd) hseg rfl rfl (VPend.mk rfl rfl))); (conv => whnf))
      (refine vs_slI _ rfl rfl rfl hlt ?_; (conv => whnf); refine VPend.mk rfl ?_; (conv => whnf); refine VPend.mk (fun u hu => ?_) ?_; (focus ((conv => whnf); exact vs_slI _ rfl rfl rfl hlt (VPend.mk rfl rfl))); (conv => whnf))
      (refine VPend.mk (fun u _ => ?_) ?_; (focus (conv => whnf)); (conv => whnf))
      (refine vs_loadF (j := 1) hAd hseg rfl rfl ?_; (conv => whnf); refine VPend.mk rfl ?_; (conv => whnf); refine VPend.mk (fun u hu => ?_) ?_; (focus ((conv => whnf); exact vs_loadF (j := 1) (At.below hAd hu hbd) hseg rfl rfl (VPend.mk rfl rfl))); (conv => whnf))
      refine vcall (by kernel_rfl) (has_ok o2 c2 M k.a w2.drew hL2 hMl) ?_
      rintro _ w3 ⟨rfl, rfl⟩
      conv => whnf
      refine VNext.keep (Below.refl _ _) ?_
      conv => whnf
      refine vcall (by kernel_rfl) (has_ok o2 c2 M k.b w2.drew hL2 hMl) ?_
      rintro _ w3 ⟨rfl, rfl⟩
      conv => whnf
      refine VNext.keep (Below.refl _ _) ?_
      conv => whnf
      have hBd : Below w.heap.size w w2.drew := belowDrew hB2
      have fact : ∀ (s : ByteArray) (M' : List ByteArray), s ∉ M → (∀ y, y ∈ M' ↔ y ∈ M ∨ y = s) → M'.length = M.length + 1 → (k.a = s ∨ k.b = s) → con ls id s → M'.length + away M' ls ≤ 1 + 2 * ls.length ∧ id ∈ M' ∧ (∀ y, y ∈ M' → con ls id y) ∧ away M' ls < away L ls := fun s M' hs hM hl hks hcs => by
        have h1 := away_lt (L := M) (M := M') (fun y hy => (hM y).2 (.inl hy)) hs ((hM s).2 (.inr rfl)) ls ⟨k, hkm, hks⟩
        refine ⟨by omega, (hM id).2 (.inl hid), fun y hy => ?_, ?_⟩
        · rcases (hM y).1 hy with h | h
          · exact hcon y h
          · rw [h]; exact hcs
        · cases ag with
          | true => have := hag rfl; omega
          | false => have := (hcl rfl).1; omega
      refine vif_split (fun hab => ?_) (fun hab => ?_)
      · have hab : hasB M k.a = hasB M k.b := by simpa using hab
        have habm : k.a ∈ M ↔ k.b ∈ M := by rw [← hasB_iff, ← hasB_iff, hab]
        conv => whnf
        refine VBack.mk ⟨_, ?_, (i + 1, M, o2, c2, ag), rfl, ?_, ?_⟩
        · show ls.length - (i + 1) < ls.length - i; omega
        · exact ⟨intEq (incr (by omega)), rfl, rfl, trivial⟩
        · refine ⟨hlt, hBd, hL2, hc2, hn2, hlen, hid, hcon, fun e => ⟨(hcl e).1, fun k' hk' => ?_⟩, hag⟩
          rw [htk] at hk'
          rcases List.mem_append.1 hk' with h | h
          · exact (hcl e).2 k' h
          · have : k' = k := by simpa using h
            rw [this]; exact habm
      · have hab : hasB M k.a ≠ hasB M k.b := by intro e; simp [e] at hab
        have hA3 := hAd
        conv => whnf
        (repeat (first | (refine VReq.mk (by first | decide | omega) ?_; conv => whnf) | (refine VPend.mk rfl ?_; conv => whnf) | (refine VNext.keep rfl ?_; conv => whnf) | (refine vs_slI1 _ rfl rfl rfl (by assumption) ?_; conv => whnf) | (refine vs_slI _ rfl rfl rfl (by assumption) ?_; conv => whnf) | (refine vs_arr1 _ rfl rfl rfl (by assumption) ?_; conv => whnf) | (refine vs_loadF (by with_reducible assumption) (by assumption) rfl rfl ?_; conv => whnf) | (refine vs_loadF0 (by with_reducible assumption) (by assumption) rfl rfl ?_; conv => whnf) | (refine vs_loadI (by with_reducible assumption) (by assumption) rfl ?_; conv => whnf) | (refine vs_loadB rfl (by with_reducible assumption) (by assumption) ?_; conv => whnf)))
        cases ha : hasB M k.a with
        | true =>
          have hb : hasB M k.b = false := by cases hb : hasB M k.b with
            | false => rfl
            | true => exact absurd (ha.trans hb.symm) hab
          have hcs : con ls id k.b := (hcon _ ((hasB_iff _ _).1 ha)).trans hlk
          conv => whnf
          (repeat (first | (refine VReq.mk (by first | decide | omega) ?_; conv => whnf) | (refine VPend.mk rfl ?_; conv => whnf) | (refine VNext.keep rfl ?_; conv => whnf) | (refine vs_slI1 _ rfl rfl rfl (by assumption) ?_; conv => whnf) | (refine vs_slI _ rfl rfl rfl (by assumption) ?_; conv => whnf) | (refine vs_arr1 _ rfl rfl rfl (by assumption) ?_; conv => whnf) | (refine vs_loadF (by with_reducible assumption) (by assumption) rfl rfl ?_; conv => whnf) | (refine vs_loadF0 (by with_reducible assumption) (by assumption) rfl rfl ?_; conv => whnf) | (refine vs_loadI (by with_reducible assumption) (by assumption) rfl ?_; conv => whnf) | (refine vs_loadB rfl (by with_reducible assumption) (by assumption) ?_; conv => whnf)))
          refine vcall (by kernel_rfl) (insert_ok o2 c2 M k.b w2.drew hL2 hc2 hn2 hMl) ?_
          rintro _ w4 ⟨o4, c4, M', rfl, hr4, hl4, hc4, hn4, hm4, hB4⟩
          obtain ⟨f1, f2, f3, f4⟩ := fact k.b M' ((hasB_not _ _).1 hb) hm4 hl4 (.inr rfl) hcs
          conv => whnf
          refine VBack.mk ⟨_, ?_, (i + 1, M', o4, c4, true), rfl, ?_, ?_⟩
          · show ls.length - (i + 1) < ls.length - i; omega
          · exact ⟨intEq (incr (by omega)), rfl, rfl, trivial⟩
          · exact ⟨hlt, hBd.trans (hB4.mono hBd.size), hr4, hc4, hn4, f1, f2, f3, (fun e => by cases e), fun _ => f4⟩
        | false =>
          have hb : hasB M k.b = true := by cases hb : hasB M k.b with
            | true => rfl
            | false => exact absurd (ha.trans hb.symm) hab
          have hcs : con ls id k.a := (hcon _ ((hasB_iff _ _).1 hb)).trans hlk.symm
          conv => whnf
          refine vcall (by kernel_rfl) (insert_ok o2 c2 M k.a w2.drew hL2 hc2 hn2 hMl) ?_
          rintro _ w4 ⟨o4, c4, M', rfl, hr4, hl4, hc4, hn4, hm4, hB4⟩
          obtain ⟨f1, f2, f3, f4⟩ := fact k.a M' ((hasB_not _ _).1 ha) hm4 hl4 (.inl rfl) hcs
          conv => whnf
          refine VBack.mk ⟨_, ?_, (i + 1, M', o4, c4, true), rfl, ?_, ?_⟩
          · show ls.length - (i + 1) < ls.length - i; omega
          · exact ⟨intEq (incr (by omega)), rfl, rfl, trivial⟩
          · exact ⟨hlt, hBd.trans (hB4.mono hBd.size), hr4, hc4, hn4, f1, f2, f3, (fun e => by cases e), fun _ => f4⟩
    · have hge : ¬ i < ls.length := by have := of_decide_eq_false hge; omega
      obtain rfl : i = ls.length := by omega
      rw [List.take_length] at hcl
      conv => whnf
      refine VBack.mk ⟨_, ?_, (M, o2, c2, ag), rfl, ?_, ?_⟩
      · cases ag with
        | true => have := hag rfl; simp only [cond_true]; omega
        | false => have := (hcl rfl).1; simp only [cond_true, cond_false]; omega
      · exact ⟨rfl, rfl, trivial⟩
      · exact ⟨hB2, hL2, hc2, hn2, hlen, hid, hcon, fun e => (hcl e).2⟩
end Go.Proofs.YtinpgogjkmmjpaaDoor.Id
