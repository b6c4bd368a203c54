/- The walks of the reference's Has, insert, Members, Same, Until and SameLinks. Conditions: the arguments read as ids and links. -/
import Derived.Test.YtinpgogjkmmjpaaDoorId1
namespace Go.Proofs.YtinpgogjkmmjpaaDoor.Id
open Go Go.RowKit Go.Proofs.YtinpgogjkmmjpaaDoor.Vc Go.Proofs.YtinpgogjkmmjpaaDoor.Ky
attribute [local irreducible] loadVar storeVar Instr.indexAt Instr.index Instr.sliceAt Instr.makeSlice Instr.lookup Instr.mapUpdate Instr.range Instr.next Instr.entry Instr.makeMap Builtin.append_ Builtin.copy_ Builtin.len_ Builtin.min_ Builtin.max_ Builtin.cap_ Builtin.delete_ Builtin.clear_ convert binOp eqGuard Op.unary Calls

theorem svals_one (l : List ByteArray) : ∀ u ∈ svals l, u.oneCell' = true := by
  intro u hu
  simp only [svals, List.mem_map] at hu
  obtain ⟨x, _, rfl⟩ := hu
  rfl
@[simp] theorem svals_len (l : List ByteArray) : (svals l).length = l.length := by simp [svals]
theorem svals_append (a b : List ByteArray) : svals (a ++ b) = svals a ++ svals b := by simp [svals]

/-- an id of the list -/
def hasB (l : List ByteArray) (x : ByteArray) : Bool := l.any fun y => sEq y x
theorem hasB_iff (l : List ByteArray) (x : ByteArray) : hasB l x = true ↔ x ∈ l := by
  unfold hasB
  rw [List.any_eq_true]
  constructor
  · rintro ⟨y, hy, e⟩; rw [← (sEq_iff _ _).1 e]; exact hy
  · intro h; exact ⟨x, h, (sEq_iff _ _).2 rfl⟩
theorem hasB_not (l : List ByteArray) (x : ByteArray) : hasB l x = false ↔ x ∉ l := by rw [← hasB_iff]; simp

set_option maxRecDepth 100000 in
theorem has_ok (oa : Option Addr) (c : Nat) (l : List ByteArray) (x : ByteArray) (w : World) (hr : Row w oa (svals l)) (hmx : l.length ≤ 1099511627776) :
    Ret Tryd.prog 48 #[.slice oa l.length c, .string x] w fun v w' => v = .bool (hasB l x) ∧ w' = w := by
  refine ret_of_vc Tryd.func48 rfl mixed (by kernel_rfl) ?_
  conv => whnf
  refine vloop (X := Nat) ws48_1 (fun i => [(5, .int .i64 i)]) (fun i w' => i ≤ l.length ∧ w' = w ∧ x ∉ l.take i) (fun i => l.length - i) 0 (by kernel_rfl)
    ?_ ⟨Nat.zero_le _, rfl, by simp⟩ ?_
  · exact ⟨rfl, trivial⟩
  rintro i w1 j ⟨hi, rfl, hp⟩
  conv => whnf
  refine vif_split (fun hlt => ?_) (fun hge => ?_)
  · have hlt : i < l.length := by have := of_decide_eq_true hlt; omega
    obtain ⟨b, o, rfl, hbl, hc⟩ := hr.at (by rw [svals_len]; omega)
    have hg := svals_get hlt
    conv => whnf
    (repeat (first | (refine VReq.mk (by first | decide | omega) ?_; conv => whnf) | (refine VPend.mk rfl ?_; conv => whnf) | (refine VNext.keep rfl ?_; conv => whnf) | (refine vs_slI1 _ rfl rfl rfl (by assumption) ?_; conv => whnf) | (refine vs_slI _ rfl rfl rfl (by assumption) ?_; conv => whnf) | (refine vs_arr1 _ rfl rfl rfl (by assumption) ?_; conv => whnf) | (refine vs_loadF (by with_reducible assumption) (by assumption) rfl rfl ?_; conv => whnf) | (refine vs_loadF0 (by with_reducible assumption) (by assumption) rfl rfl ?_; conv => whnf) | (refine vs_loadI (by with_reducible assumption) (by assumption) rfl ?_; conv => whnf) | (refine vs_loadB rfl (by with_reducible assumption) (by assumption) ?_; conv => whnf)))
    refine vif_split (fun h => ?_) (fun h => ?_)
    · have h : l[i] = x := (sEq_iff _ _).1 h
      rw [(hasB_iff l x).2 (by rw [← h]; exact List.getElem_mem hlt)]
      conv => whnf
      exact VEnd.mk ⟨rfl, rfl⟩
    · have h : l[i] ≠ x := fun e => by rw [(sEq_iff _ _).2 e] at h; cases h
      conv => whnf
      refine VBack.mk ⟨_, ?_, (i + 1), rfl, ?_, ?_⟩
      · show l.length - (i + 1) < l.length - i; omega
      · exact ⟨intEq (incr (by omega)), trivial⟩
      · refine ⟨hlt, rfl, ?_⟩
        rw [List.take_succ_eq_append_getElem hlt]
        simp only [List.mem_append, List.mem_singleton, not_or]
        exact ⟨hp, fun e => h e.symm⟩
  · have hge : ¬ i < l.length := by have := of_decide_eq_false hge; omega
    obtain rfl : i = l.length := by omega
    rw [List.take_length] at hp
    rw [(hasB_not l x).2 hp]
    conv => whnf
    exact VEnd.mk ⟨rfl, rfl⟩

theorem fromDrew {B : Nat} {u v : World} (h : Below B u v) : Below B u.drew v := ⟨h.os, h.tape, h.output, h.size, h.block⟩
theorem Own.cap {w : World} {B : Nat} {E : TypeId} {sz : Nat} {oa : Option Addr} {n c : Nat} {xs : List Value} (h : Own w B E sz oa n c xs) : n ≤ c ∧ (oa = none → c = 0) := by
  rcases h.2 with ⟨h1, h0⟩ | ⟨g, cap, cur, hv, _, _, h1, _⟩
  · injection h1 with _ _ e; subst e; exact ⟨by omega, fun _ => rfl⟩
  · injection hv with e1 _ e3; subst e3; exact ⟨h1, fun e => by rw [e] at e1; cases e1⟩
theorem Row.grown {w w' : World} {b : Nat} {vs : List Value} {row : Option Nat} (h : Row w (some ⟨b, 0, none⟩) vs) (hg : w.grownBy w' row) (hne : some b ≠ row) : Row w' (some ⟨b, 0, none⟩) vs := by
  rcases h with h | ⟨b', o, he, hlt, hc⟩
  · exact .inl h
  · injection he with he
    injection he with e1 e2
    subst e1; subst e2
    refine .inr ⟨b, 0, rfl, Nat.lt_of_lt_of_le hlt hg.size, fun j v hj => ?_⟩
    have := hc j v hj
    unfold World.cell? at this ⊢
    simp only at this ⊢
    rw [hg.block b hlt hne]; exact this
set_option maxHeartbeats 1000000 in
set_option maxRecDepth 100000 in
theorem insert_ok (oa : Option Addr) (c : Nat) (l : List ByteArray) (x : ByteArray) (w : World) (hr : Row w oa (svals l)) (hc : l.length ≤ c) (hnil : oa = none → c = 0) (hmx : l.length ≤ 1099511627776) :
    Ret Tryd.prog 67 #[.slice oa l.length c, .string x] w fun v w' => ∃ oa' c' l', v = .slice oa' l'.length c' ∧ Row w' oa' (svals l') ∧ l'.length = l.length + 1 ∧ l'.length ≤ c' ∧ (oa' = none → c' = 0) ∧ (∀ y, y ∈ l' ↔ y ∈ l ∨ y = x) ∧ Below w.heap.size w w' := by
  refine ret_of_vc Tryd.func67 rfl mixed (by kernel_rfl) ?_
  conv => whnf
  refine vloop (X := Nat) ws67_1 (fun i => [(5, .int .i64 i)]) (fun i w' => i ≤ l.length ∧ w' = w) (fun i => l.length - i) 0 (by kernel_rfl)
    ?_ ⟨Nat.zero_le _, rfl⟩ ?_
  · exact ⟨rfl, trivial⟩
  rintro i w1 j ⟨hi, rfl⟩
  have fin : True := trivial
  conv => whnf
  refine vif_split (fun hlt => ?_) (fun hge => ?_)
  · have hlt : i < l.length := by have := of_decide_eq_true hlt; omega
    obtain ⟨b, o, rfl, hbl, hA⟩ := hr.at (by rw [svals_len]; omega)
    have hg := svals_get hlt
    conv => whnf
    (repeat (first | (refine VReq.mk (by first | decide | omega) ?_; conv => whnf) | (refine VPend.mk rfl ?_; conv => whnf) | (refine VNext.keep rfl ?_; conv => whnf) | (refine vs_slI1 _ rfl rfl rfl (by assumption) ?_; conv => whnf) | (refine vs_slI _ rfl rfl rfl (by assumption) ?_; conv => whnf) | (refine vs_arr1 _ rfl rfl rfl (by assumption) ?_; conv => whnf) | (refine vs_loadF (by with_reducible assumption) (by assumption) rfl rfl ?_; conv => whnf) | (refine vs_loadF0 (by with_reducible assumption) (by assumption) rfl rfl ?_; conv => whnf) | (refine vs_loadI (by with_reducible assumption) (by assumption) rfl ?_; conv => whnf) | (refine vs_loadB rfl (by with_reducible assumption) (by assumption) ?_; conv => whnf)))
    refine vif_split (fun h => ?_) (fun h => ?_)
    · conv => whnf
      refine VBack.mk ⟨_, ?_, (i + 1), rfl, ?_, ?_⟩
      · show l.length - (i + 1) < l.length - i; omega
      · exact ⟨intEq (incr (by omega)), trivial⟩
      · exact ⟨hlt, rfl⟩
    · conv => whnf
      (refine vdrawB plan67 (by kernel_rfl) ?_; conv => whnf)
      have hci : i ≤ c := by omega
      have hrT : ∀ u, Below w1.heap.size w1 u → Row u _ (svals (l.take i)) := fun u hu => by
        have := (hr.below hu).take i
        rwa [show (svals l).take i = svals (l.take i) by simp [svals, List.map_take]] at this
      have hrD : ∀ u, Below w1.heap.size w1 u → Row u (loS _ i 1 c) (svals (l.drop i)) := fun u hu => by
        have := (hr.below hu).lo' (lo := i) (sz := 1) (c := c) (by rw [svals_len]; omega)
        rwa [Nat.mul_one, show (svals l).drop i = svals (l.drop i) by simp [svals, List.map_drop]] at this
      have hBd : Below w1.heap.size w1 w1.drew := belowDrew (Below.refl _ _)
      refine vs_sliceHi (h := i) rfl rfl rfl (by omega) hc ?_
      conv => whnf
      refine VPend.mk rfl ?_
      conv => whnf
      refine VPend.mk (fun u _ => ?_) ?_
      · conv => whnf
        exact vs_sliceHi (h := i) rfl rfl rfl (by omega) hc (VPend.mk rfl rfl)
      conv => whnf
      refine vs_sliceLo (lo := i) rfl rfl rfl (by omega) ?_
      conv => whnf
      refine VPend.mk rfl ?_
      conv => whnf
      refine VPend.mk (fun u _ => ?_) ?_
      · conv => whnf
        exact vs_sliceLo (lo := i) rfl rfl rfl (by omega) (VPend.mk rfl rfl)
      conv => whnf
      have hsz := hBd.size
      refine ⟨?_, ?_⟩
      · conv => whnf
        have hB0 : Below w1.heap.size w1 (w1.drew.alloc (.cells #[] 9)) := balloc hBd (Nat.le_refl _) _
        have hO0 : Own (w1.drew.alloc (.cells #[] 9)) w1.heap.size 9 1 (some ⟨w1.heap.size, 0, none⟩) 0 0 [] := Own.ofBlk (Blk.new w1.drew #[] _) (Nat.le_refl _) (Nat.le_refl _) (Nat.zero_le _) rfl rfl
        refine VNext.keep (fromDrew hB0) ?_
        conv => whnf
        refine ⟨?_, ?_⟩
        · conv => whnf
          refine vs_append (B := w1.heap.size) (sz := 1) (by_ := 16) (m := i) (n := 0) rfl rfl rfl rfl rfl rfl hO0 (hrT _ hB0) (by simp; omega) (svals_one _) hnil (by omega) hB0.size (by unfold maxLen; omega) ?_
          intro o4 c4 w4 ho4 hB4 _
          rw [Nat.zero_add, List.nil_append] at ho4
          have hB4' := hB0.trans hB4
          conv => whnf
          refine VNext.keep (fromDrew hB4') ?_
          conv => whnf
          have hOwn := ho4.alloc (.cells #[.string x] 9)
          have hRx := Row.alloc1 w4 [.string x] 9
          have hBk := balloc hB4' (Nat.le_refl _) (.cells #[.string x] 9)
          refine VNext.keep (fromDrew hBk) ?_
          rw [Nat.zero_add]
          conv => whnf
          refine vs_append (B := w1.heap.size) (sz := 1) (by_ := 16) (m := 1) (n := i) rfl rfl rfl rfl rfl rfl hOwn hRx rfl (fun u hu => by simp at hu; subst hu; rfl) (fun e => by cases e) (by omega) hBk.size (by unfold maxLen; omega) ?_
          intro o7 c7 w7 ho7 hB7 _
          have hBk7 := hBk.trans hB7
          conv => whnf
          refine VNext.keep (fromDrew hBk7) ?_
          conv => whnf
          refine vs_append (B := w1.heap.size) (sz := 1) (by_ := 16) (m := l.length - i) (n := i + 1) rfl rfl rfl rfl rfl rfl ho7 (hrD w7 hBk7) (by simp) (svals_one _) (loS_none hnil) (by omega) hBk7.size (by unfold maxLen; omega) ?_
          intro o9 c9 w9 ho9 hB9 _
          have hBk9 := hBk7.trans hB9
          conv => whnf
          refine VNext.keep (fromDrew hBk9) ?_
          conv => whnf
          obtain ⟨l9, hl9⟩ : ∃ m, m = l.take i ++ [x] ++ l.drop i := ⟨_, rfl⟩
          have hll : i + 1 + (l.length - i) = l9.length := by rw [hl9]; simp; omega
          have hls : svals (l.take i) ++ [Value.string x] ++ svals (l.drop i) = svals l9 := by rw [hl9]; simp [svals]
          rw [hls, hll] at ho9
          rw [hll]
          have hcap := Own.cap ho9
          refine VEnd.mk ⟨o9, c9, l9, rfl, ho9.row, by omega, hcap.1, hcap.2, fun y => ?_, hBk9⟩
          rw [hl9]
          simp only [List.mem_append, List.mem_singleton]
          constructor
          · rintro ((h | h) | h)
            · exact .inl (List.mem_of_mem_take h)
            · exact .inr h
            · exact .inl (List.mem_of_mem_drop h)
          · rintro (h | h)
            · rw [← List.take_append_drop i l] at h
              rcases List.mem_append.1 h with h | h
              · exact .inl (.inl h)
              · exact .inr h
            · exact .inl (.inr h)
        · conv => whnf
          have hO6 := hO0.alloc (.cells #[.string x] 9)
          have hR6 := Row.alloc1 (w1.drew.alloc (.cells #[] 9)) [.string x] 9
          have hB6 := balloc hB0 (Nat.le_refl _) (.cells #[.string x] 9)
          refine VNext.keep (fromDrew hB6) ?_
          conv => whnf
          refine vs_append (B := w1.heap.size) (sz := 1) (by_ := 16) (m := i) (n := 0) rfl rfl rfl rfl rfl rfl hO6 (hrT _ hB6) (by simp; omega) (svals_one _) hnil (by omega) hB6.size (by unfold maxLen; omega) ?_
          intro o4 c4 w4 ho4 hB4 hg4
          rw [Nat.zero_add, List.nil_append] at ho4
          have hOwn := ho4
          have hBk := hB6.trans hB4
          have hRx := Row.grown hR6 hg4 (by simp [ownB])
          conv => whnf
          refine VNext.keep (fromDrew hBk) ?_
          rw [Nat.zero_add]
          conv => whnf
          refine vs_append (B := w1.heap.size) (sz := 1) (by_ := 16) (m := 1) (n := i) rfl rfl rfl rfl rfl rfl hOwn hRx rfl (fun u hu => by simp at hu; subst hu; rfl) (fun e => by cases e) (by omega) hBk.size (by unfold maxLen; omega) ?_
          intro o7 c7 w7 ho7 hB7 _
          have hBk7 := hBk.trans hB7
          conv => whnf
          refine VNext.keep (fromDrew hBk7) ?_
          conv => whnf
          refine vs_append (B := w1.heap.size) (sz := 1) (by_ := 16) (m := l.length - i) (n := i + 1) rfl rfl rfl rfl rfl rfl ho7 (hrD w7 hBk7) (by simp) (svals_one _) (loS_none hnil) (by omega) hBk7.size (by unfold maxLen; omega) ?_
          intro o9 c9 w9 ho9 hB9 _
          have hBk9 := hBk7.trans hB9
          conv => whnf
          refine VNext.keep (fromDrew hBk9) ?_
          conv => whnf
          obtain ⟨l9, hl9⟩ : ∃ m, m = l.take i ++ [x] ++ l.drop i := ⟨_, rfl⟩
          have hll : i + 1 + (l.length - i) = l9.length := by rw [hl9]; simp; omega
          have hls : svals (l.take i) ++ [Value.string x] ++ svals (l.drop i) = svals l9 := by rw [hl9]; simp [svals]
          rw [hls, hll] at ho9
          rw [hll]
          have hcap := Own.cap ho9
          refine VEnd.mk ⟨o9, c9, l9, rfl, ho9.row, by omega, hcap.1, hcap.2, fun y => ?_, hBk9⟩
          rw [hl9]
          simp only [List.mem_append, List.mem_singleton]
          constructor
          · rintro ((h | h) | h)
            · exact .inl (List.mem_of_mem_take h)
            · exact .inr h
            · exact .inl (List.mem_of_mem_drop h)
          · rintro (h | h)
            · rw [← List.take_append_drop i l] at h
              rcases List.mem_append.1 h with h | h
              · exact .inl (.inl h)
              · exact .inr h
            · exact .inl (.inr h)
      · conv => whnf
        have hR6 := Row.alloc1 w1.drew [.string x] 9
        have hB6 := balloc hBd (Nat.le_refl _) (.cells #[.string x] 9)
        refine VNext.keep (fromDrew hB6) ?_
        conv => whnf
        have hO0 : Own ((w1.drew.alloc (.cells #[.string x] 9)).alloc (.cells #[] 9)) w1.heap.size 9 1 (some ⟨(w1.drew.alloc (.cells #[.string x] 9)).heap.size, 0, none⟩) 0 0 [] := Own.ofBlk (Blk.new _ #[] _) hB6.size (Nat.le_refl _) (Nat.zero_le _) rfl rfl
        have hB0 := balloc hB6 (Nat.le_refl _) (.cells #[] 9)
        have hR0 := hR6.alloc (.cells #[] 9)
        refine VNext.keep (fromDrew hB0) ?_
        conv => whnf
        refine vs_append (B := w1.heap.size) (sz := 1) (by_ := 16) (m := i) (n := 0) rfl rfl rfl rfl rfl rfl hO0 (hrT _ hB0) (by simp; omega) (svals_one _) hnil (by omega) hB0.size (by unfold maxLen; omega) ?_
        intro o4 c4 w4 ho4 hB4 hg4
        rw [Nat.zero_add, List.nil_append] at ho4
        have hOwn := ho4
        have hBk := hB0.trans hB4
        have hRx := Row.grown hR0 hg4 (by simp [ownB])
        conv => whnf
        refine VNext.keep (fromDrew hBk) ?_
        rw [Nat.zero_add]
        conv => whnf
        refine vs_append (B := w1.heap.size) (sz := 1) (by_ := 16) (m := 1) (n := i) rfl rfl rfl rfl rfl rfl hOwn hRx rfl (fun u hu => by simp at hu; subst hu; rfl) (fun e => by cases e) (by omega) hBk.size (by unfold maxLen; omega) ?_
        intro o7 c7 w7 ho7 hB7 _
        have hBk7 := hBk.trans hB7
        conv => whnf
        refine VNext.keep (fromDrew hBk7) ?_
        conv => whnf
        refine vs_append (B := w1.heap.size) (sz := 1) (by_ := 16) (m := l.length - i) (n := i + 1) rfl rfl rfl rfl rfl rfl ho7 (hrD w7 hBk7) (by simp) (svals_one _) (loS_none hnil) (by omega) hBk7.size (by unfold maxLen; omega) ?_
        intro o9 c9 w9 ho9 hB9 _
        have hBk9 := hBk7.trans hB9
        conv => whnf
        refine VNext.keep (fromDrew hBk9) ?_
        conv => whnf
        obtain ⟨l9, hl9⟩ : ∃ m, m = l.take i ++ [x] ++ l.drop i := ⟨_, rfl⟩
        have hll : i + 1 + (l.length - i) = l9.length := by rw [hl9]; simp; omega
        have hls : svals (l.take i) ++ [Value.string x] ++ svals (l.drop i) = svals l9 := by rw [hl9]; simp [svals]
        rw [hls, hll] at ho9
        rw [hll]
        have hcap := Own.cap ho9
        refine VEnd.mk ⟨o9, c9, l9, rfl, ho9.row, by omega, hcap.1, hcap.2, fun y => ?_, hBk9⟩
        rw [hl9]
        simp only [List.mem_append, List.mem_singleton]
        constructor
        · rintro ((h | h) | h)
          · exact .inl (List.mem_of_mem_take h)
          · exact .inr h
          · exact .inl (List.mem_of_mem_drop h)
        · rintro (h | h)
          · rw [← List.take_append_drop i l] at h
            rcases List.mem_append.1 h with h | h
            · exact .inl (.inl h)
            · exact .inr h
          · exact .inl (.inr h)
  · have hge : ¬ i < l.length := by have := of_decide_eq_false hge; omega
    conv => whnf
    (refine vdrawB plan67 (by kernel_rfl) ?_; conv => whnf)
    have hci : i ≤ c := by omega
    have hrT : ∀ u, Below w1.heap.size w1 u → Row u _ (svals (l.take i)) := fun u hu => by
      have := (hr.below hu).take i
      rwa [show (svals l).take i = svals (l.take i) by simp [svals, List.map_take]] at this
    have hrD : ∀ u, Below w1.heap.size w1 u → Row u (loS _ i 1 c) (svals (l.drop i)) := fun u hu => by
      have := (hr.below hu).lo' (lo := i) (sz := 1) (c := c) (by rw [svals_len]; omega)
      rwa [Nat.mul_one, show (svals l).drop i = svals (l.drop i) by simp [svals, List.map_drop]] at this
    have hBd : Below w1.heap.size w1 w1.drew := belowDrew (Below.refl _ _)
    refine vs_sliceHi (h := i) rfl rfl rfl (by omega) hc ?_
    conv => whnf
    refine VPend.mk rfl ?_
    conv => whnf
    refine VPend.mk (fun u _ => ?_) ?_
    · conv => whnf
      exact vs_sliceHi (h := i) rfl rfl rfl (by omega) hc (VPend.mk rfl rfl)
    conv => whnf
    refine vs_sliceLo (lo := i) rfl rfl rfl (by omega) ?_
    conv => whnf
    refine VPend.mk rfl ?_
    conv => whnf
    refine VPend.mk (fun u _ => ?_) ?_
    · conv => whnf
      exact vs_sliceLo (lo := i) rfl rfl rfl (by omega) (VPend.mk rfl rfl)
    conv => whnf
    have hsz := hBd.size
    refine ⟨?_, ?_⟩
    · conv => whnf
      have hB0 : Below w1.heap.size w1 (w1.drew.alloc (.cells #[] 9)) := balloc hBd (Nat.le_refl _) _
      have hO0 : Own (w1.drew.alloc (.cells #[] 9)) w1.heap.size 9 1 (some ⟨w1.heap.size, 0, none⟩) 0 0 [] := Own.ofBlk (Blk.new w1.drew #[] _) (Nat.le_refl _) (Nat.le_refl _) (Nat.zero_le _) rfl rfl
      refine VNext.keep (fromDrew hB0) ?_
      conv => whnf
      refine ⟨?_, ?_⟩
      · conv => whnf
        refine vs_append (B := w1.heap.size) (sz := 1) (by_ := 16) (m := i) (n := 0) rfl rfl rfl rfl rfl rfl hO0 (hrT _ hB0) (by simp; omega) (svals_one _) hnil (by omega) hB0.size (by unfold maxLen; omega) ?_
        intro o4 c4 w4 ho4 hB4 _
        rw [Nat.zero_add, List.nil_append] at ho4
        have hB4' := hB0.trans hB4
        conv => whnf
        refine VNext.keep (fromDrew hB4') ?_
        conv => whnf
        have hOwn := ho4.alloc (.cells #[.string x] 9)
        have hRx := Row.alloc1 w4 [.string x] 9
        have hBk := balloc hB4' (Nat.le_refl _) (.cells #[.string x] 9)
        refine VNext.keep (fromDrew hBk) ?_
        rw [Nat.zero_add]
        conv => whnf
        refine vs_append (B := w1.heap.size) (sz := 1) (by_ := 16) (m := 1) (n := i) rfl rfl rfl rfl rfl rfl hOwn hRx rfl (fun u hu => by simp at hu; subst hu; rfl) (fun e => by cases e) (by omega) hBk.size (by unfold maxLen; omega) ?_
        intro o7 c7 w7 ho7 hB7 _
        have hBk7 := hBk.trans hB7
        conv => whnf
        refine VNext.keep (fromDrew hBk7) ?_
        conv => whnf
        refine vs_append (B := w1.heap.size) (sz := 1) (by_ := 16) (m := l.length - i) (n := i + 1) rfl rfl rfl rfl rfl rfl ho7 (hrD w7 hBk7) (by simp) (svals_one _) (loS_none hnil) (by omega) hBk7.size (by unfold maxLen; omega) ?_
        intro o9 c9 w9 ho9 hB9 _
        have hBk9 := hBk7.trans hB9
        conv => whnf
        refine VNext.keep (fromDrew hBk9) ?_
        conv => whnf
        obtain ⟨l9, hl9⟩ : ∃ m, m = l.take i ++ [x] ++ l.drop i := ⟨_, rfl⟩
        have hll : i + 1 + (l.length - i) = l9.length := by rw [hl9]; simp; omega
        have hls : svals (l.take i) ++ [Value.string x] ++ svals (l.drop i) = svals l9 := by rw [hl9]; simp [svals]
        rw [hls, hll] at ho9
        rw [hll]
        have hcap := Own.cap ho9
        refine VEnd.mk ⟨o9, c9, l9, rfl, ho9.row, by omega, hcap.1, hcap.2, fun y => ?_, hBk9⟩
        rw [hl9]
        simp only [List.mem_append, List.mem_singleton]
        constructor
        · rintro ((h | h) | h)
          · exact .inl (List.mem_of_mem_take h)
          · exact .inr h
          · exact .inl (List.mem_of_mem_drop h)
        · rintro (h | h)
          · rw [← List.take_append_drop i l] at h
            rcases List.mem_append.1 h with h | h
            · exact .inl (.inl h)
            · exact .inr h
          · exact .inl (.inr h)
      · conv => whnf
        have hO6 := hO0.alloc (.cells #[.string x] 9)
        have hR6 := Row.alloc1 (w1.drew.alloc (.cells #[] 9)) [.string x] 9
        have hB6 := balloc hB0 (Nat.le_refl _) (.cells #[.string x] 9)
        refine VNext.keep (fromDrew hB6) ?_
        conv => whnf
        refine vs_append (B := w1.heap.size) (sz := 1) (by_ := 16) (m := i) (n := 0) rfl rfl rfl rfl rfl rfl hO6 (hrT _ hB6) (by simp; omega) (svals_one _) hnil (by omega) hB6.size (by unfold maxLen; omega) ?_
        intro o4 c4 w4 ho4 hB4 hg4
        rw [Nat.zero_add, List.nil_append] at ho4
        have hOwn := ho4
        have hBk := hB6.trans hB4
        have hRx := Row.grown hR6 hg4 (by simp [ownB])
        conv => whnf
        refine VNext.keep (fromDrew hBk) ?_
        rw [Nat.zero_add]
        conv => whnf
        refine vs_append (B := w1.heap.size) (sz := 1) (by_ := 16) (m := 1) (n := i) rfl rfl rfl rfl rfl rfl hOwn hRx rfl (fun u hu => by simp at hu; subst hu; rfl) (fun e => by cases e) (by omega) hBk.size (by unfold maxLen; omega) ?_
        intro o7 c7 w7 ho7 hB7 _
        have hBk7 := hBk.trans hB7
        conv => whnf
        refine VNext.keep (fromDrew hBk7) ?_
        conv => whnf
        refine vs_append (B := w1.heap.size) (sz := 1) (by_ := 16) (m := l.length - i) (n := i + 1) rfl rfl rfl rfl rfl rfl ho7 (hrD w7 hBk7) (by simp) (svals_one _) (loS_none hnil) (by omega) hBk7.size (by unfold maxLen; omega) ?_
        intro o9 c9 w9 ho9 hB9 _
        have hBk9 := hBk7.trans hB9
        conv => whnf
        refine VNext.keep (fromDrew hBk9) ?_
        conv => whnf
        obtain ⟨l9, hl9⟩ : ∃ m, m = l.take i ++ [x] ++ l.drop i := ⟨_, rfl⟩
        have hll : i + 1 + (l.length - i) = l9.length := by rw [hl9]; simp; omega
        have hls : svals (l.take i) ++ [Value.string x] ++ svals (l.drop i) = svals l9 := by rw [hl9]; simp [svals]
        rw [hls, hll] at ho9
        rw [hll]
        have hcap := Own.cap ho9
        refine VEnd.mk ⟨o9, c9, l9, rfl, ho9.row, by omega, hcap.1, hcap.2, fun y => ?_, hBk9⟩
        rw [hl9]
        simp only [List.mem_append, List.mem_singleton]
        constructor
        · rintro ((h | h) | h)
          · exact .inl (List.mem_of_mem_take h)
          · exact .inr h
          · exact .inl (List.mem_of_mem_drop h)
        · rintro (h | h)
          · rw [← List.take_append_drop i l] at h
            rcases List.mem_append.1 h with h | h
            · exact .inl (.inl h)
            · exact .inr h
          · exact .inl (.inr h)
    · conv => whnf
      have hR6 := Row.alloc1 w1.drew [.string x] 9
      have hB6 := balloc hBd (Nat.le_refl _) (.cells #[.string x] 9)
      refine VNext.keep (fromDrew hB6) ?_
      conv => whnf
      have hO0 : Own ((w1.drew.alloc (.cells #[.string x] 9)).alloc (.cells #[] 9)) w1.heap.size 9 1 (some ⟨(w1.drew.alloc (.cells #[.string x] 9)).heap.size, 0, none⟩) 0 0 [] := Own.ofBlk (Blk.new _ #[] _) hB6.size (Nat.le_refl _) (Nat.zero_le _) rfl rfl
      have hB0 := balloc hB6 (Nat.le_refl _) (.cells #[] 9)
      have hR0 := hR6.alloc (.cells #[] 9)
      refine VNext.keep (fromDrew hB0) ?_
      conv => whnf
      refine vs_append (B := w1.heap.size) (sz := 1) (by_ := 16) (m := i) (n := 0) rfl rfl rfl rfl rfl rfl hO0 (hrT _ hB0) (by simp; omega) (svals_one _) hnil (by omega) hB0.size (by unfold maxLen; omega) ?_
      intro o4 c4 w4 ho4 hB4 hg4
      rw [Nat.zero_add, List.nil_append] at ho4
      have hOwn := ho4
      have hBk := hB0.trans hB4
      have hRx := Row.grown hR0 hg4 (by simp [ownB])
      conv => whnf
      refine VNext.keep (fromDrew hBk) ?_
      rw [Nat.zero_add]
      conv => whnf
      refine vs_append (B := w1.heap.size) (sz := 1) (by_ := 16) (m := 1) (n := i) rfl rfl rfl rfl rfl rfl hOwn hRx rfl (fun u hu => by simp at hu; subst hu; rfl) (fun e => by cases e) (by omega) hBk.size (by unfold maxLen; omega) ?_
      intro o7 c7 w7 ho7 hB7 _
      have hBk7 := hBk.trans hB7
      conv => whnf
      refine VNext.keep (fromDrew hBk7) ?_
      conv => whnf
      refine vs_append (B := w1.heap.size) (sz := 1) (by_ := 16) (m := l.length - i) (n := i + 1) rfl rfl rfl rfl rfl rfl ho7 (hrD w7 hBk7) (by simp) (svals_one _) (loS_none hnil) (by omega) hBk7.size (by unfold maxLen; omega) ?_
      intro o9 c9 w9 ho9 hB9 _
      have hBk9 := hBk7.trans hB9
      conv => whnf
      refine VNext.keep (fromDrew hBk9) ?_
      conv => whnf
      obtain ⟨l9, hl9⟩ : ∃ m, m = l.take i ++ [x] ++ l.drop i := ⟨_, rfl⟩
      have hll : i + 1 + (l.length - i) = l9.length := by rw [hl9]; simp; omega
      have hls : svals (l.take i) ++ [Value.string x] ++ svals (l.drop i) = svals l9 := by rw [hl9]; simp [svals]
      rw [hls, hll] at ho9
      rw [hll]
      have hcap := Own.cap ho9
      refine VEnd.mk ⟨o9, c9, l9, rfl, ho9.row, by omega, hcap.1, hcap.2, fun y => ?_, hBk9⟩
      rw [hl9]
      simp only [List.mem_append, List.mem_singleton]
      constructor
      · rintro ((h | h) | h)
        · exact .inl (List.mem_of_mem_take h)
        · exact .inr h
        · exact .inl (List.mem_of_mem_drop h)
      · rintro (h | h)
        · rw [← List.take_append_drop i l] at h
          rcases List.mem_append.1 h with h | h
          · exact .inl (.inl h)
          · exact .inr h
        · exact .inl (.inr h)
end Go.Proofs.YtinpgogjkmmjpaaDoor.Id
