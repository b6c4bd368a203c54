/- Joined parts of the proof. The walks of identity's forest, Root, Same and Until -/
import Derived.Test.YtgfgndaoocfpdaaGreatDoorPk3
import Derived.Test.YtgfgndaoocfpdaaGreatDoorPk11
import Derived.Test.YtgfgndaoocfpdaaGreatDoorPk10
set_option linter.unusedVariables false
set_option linter.unusedSimpArgs false
set_option maxRecDepth 100000
set_option maxHeartbeats 16000000
namespace Go.Proofs.YtgfgndaoocfpdaaGreatDoor.Id
open Go Go.RowKit Go.Proofs.YtgfgndaoocfpdaaGreatDoor.Vc Go.Proofs.YtgfgndaoocfpdaaGreatDoor.Ky
attribute [local irreducible] loadVar storeVar Instr.indexAt Instr.index Instr.sliceAt Instr.makeSlice Instr.lookup Instr.mapUpdate Instr.range Instr.next Instr.entry Instr.makeMap Builtin.append_ Builtin.copy_ Builtin.len_ Builtin.min_ Builtin.max_ Builtin.cap_ Builtin.delete_ Builtin.clear_ convert binOp eqGuard Op.unary Calls
def lkc (k : Lk) : List Value := [.string k.a, .string k.b, .int .i64 k.t]
theorem lkc_len (k : Lk) : (lkc k).length = 3 := rfl
def unt (t : Int) (l : List Lk) : List Lk := l.filter fun k => decide (k.t ≤ t)
theorem unt_snoc (t : Int) (l : List Lk) (k : Lk) : unt t (l ++ [k]) = if k.t ≤ t then unt t l ++ [k] else unt t l := by
 unfold unt; rw [List.filter_append]; by_cases h : k.t ≤ t <;> simp [h]
theorem unt_len (t : Int) (l : List Lk) : (unt t l).length ≤ l.length := List.length_filter_le _ _
theorem svals_one (l : List ByteArray) : ∀ u ∈ svals l, u.oneCell' = true := by
 intro u hu
 simp only [svals, List.mem_map] at hu
 obtain ⟨x, _, rfl⟩ := hu
 rfl
@[simp] theorem svals_len (l : List ByteArray) : (svals l).length = l.length := by simp [svals]
def hasB (l : List ByteArray) (x : ByteArray) : Bool := l.any fun y => sEq y x
theorem hasB_iff (l : List ByteArray) (x : ByteArray) : hasB l x = true ↔ x ∈ l := by
 unfold hasB
 rw [List.any_eq_true]
 constructor
 ·rintro ⟨y, hy, e⟩; rw [← (sEq_iff _ _).1 e]; exact hy
 ·intro h; exact ⟨x, h, (sEq_iff _ _).2 rfl⟩
theorem hasB_not (l : List ByteArray) (x : ByteArray) : hasB l x = false ↔ x ∉ l := by rw [← hasB_iff]; simp
theorem has_ok (oa : Option Addr) (c : Nat) (l : List ByteArray) (x : ByteArray) (w : World) (hr : Row w oa (svals l)) (hmx : l.length ≤ 1099511627776) :
  Ret Tryz.prog 82 #[.slice oa l.length c, .string x] w fun v w' => v = .bool (hasB l x) ∧ w' = w := by
 refine ret_of_vc Tryz.func82 rfl mixed (by kernel_rfl) ?_
 conv=>whnf
 refine vloop (X := Nat) ws82_1 (fun i => [(5, .int .i64 i)]) (fun i w' => i ≤ l.length ∧ w' = w ∧ x ∉ l.take i) (fun i => l.length - i) 0 (by kernel_rfl)
  ?_ ⟨Nat.zero_le _, rfl, by simp⟩ ?_
 ·exact ⟨rfl, trivial⟩
 rintro i w1 j ⟨hi, rfl, hp⟩
 conv=>whnf
 refine vif_split (fun hlt => ?_) (fun hge => ?_)
 ·have hlt : i < l.length := by have := of_decide_eq_true hlt; omega
  obtain ⟨b, o, rfl, hbl, hc⟩ := hr.at (by rw [svals_len]; omega)
  have hg := svals_get hlt
  conv=>whnf
  (repeat (first | (refine VReq.mk (by first | decide | omega) ?_; conv=>whnf) | (refine VPend.mk rfl ?_; conv=>whnf) | (refine VNext.keep rfl ?_; conv=>whnf) | (refine vs_slI1 _ rfl rfl rfl (by assumption) ?_; conv=>whnf) | (refine vs_slI _ rfl rfl rfl (by assumption) ?_; conv=>whnf) | (refine vs_arr1 _ rfl rfl rfl (by assumption) ?_; conv=>whnf) | (refine vs_loadF (by with_reducible assumption) (by assumption) rfl rfl ?_; conv=>whnf) | (refine vs_loadF0 (by with_reducible assumption) (by assumption) rfl rfl ?_; conv=>whnf) | (refine vs_loadI (by with_reducible assumption) (by assumption) rfl ?_; conv=>whnf) | (refine vs_loadB rfl (by with_reducible assumption) (by assumption) ?_; conv=>whnf)))
  apply vif_split <;> intro h
  ·have h : l[i] = x := (sEq_iff _ _).1 h
   rw [(hasB_iff l x).2 (by rw [← h]; exact List.getElem_mem hlt)]
   conv=>whnf
   exact VEnd.mk ⟨rfl, rfl⟩
  ·have h : l[i] ≠ x := fun e => by rw [(sEq_iff _ _).2 e] at h; cases h
   conv=>whnf
   refine VBack.mk ⟨_, ?_, (i + 1), rfl, ?_, ?_⟩
   ·show l.length - (i + 1) < l.length - i; omega
   ·exact ⟨intEq (incr (by omega)), trivial⟩
   ·refine ⟨hlt, rfl, ?_⟩
    rw [List.take_succ_eq_append_getElem hlt]
    simp only [List.mem_append, List.mem_singleton, not_or]
    exact ⟨hp, fun e => h e.symm⟩
 ·have hge : ¬ i < l.length := by have := of_decide_eq_false hge; omega
  obtain rfl : i = l.length := by omega
  rw [List.take_length] at hp
  rw [(hasB_not l x).2 hp]
  conv=>whnf
  exact VEnd.mk ⟨rfl, rfl⟩
theorem fromDrew {B : Nat} {u v : World} (h : Below B u v) : Below B u.drew v := ⟨h.os, h.tape, h.output, h.size, h.block⟩
theorem Own.cap {w : World} {B : Nat} {E : TypeId} {sz : Nat} {oa : Option Addr} {n c : Nat} {xs : List Value} (h : Vc.Own w B E sz oa n c xs) : n ≤ c ∧ (oa = none → c = 0) := by
 rcases h.2 with ⟨h1, h0⟩ | ⟨g, cap, cur, hv, _, _, h1, _⟩
 ·injection h1 with _ _ e; subst e; exact ⟨by omega, fun _ => rfl⟩
 ·injection hv with e1 _ e3; subst e3; exact ⟨h1, fun e => by rw [e] at e1; cases e1⟩
theorem Row.grown {w w' : World} {b : Nat} {vs : List Value} {row : Option Nat} (h : Row w (some ⟨b, 0, none⟩) vs) (hg : w.grownBy w' row) (hne : some b ≠ row) : Row w' (some ⟨b, 0, none⟩) vs := by
 rcases h with h | ⟨b', o, he, hlt, hc⟩
 ·exact .inl h
 ·injection he with he
  injection he with e1 e2
  subst e1; subst e2
  refine .inr ⟨b, 0, rfl, Nat.lt_of_lt_of_le hlt hg.size, fun j v hj => ?_⟩
  have := hc j v hj
  unfold World.cell? at this ⊢
  simp only at this ⊢
  rw [hg.block b hlt hne]; exact this
theorem insert_ok (oa : Option Addr) (c : Nat) (l : List ByteArray) (x : ByteArray) (w : World) (hr : Row w oa (svals l)) (hc : l.length ≤ c) (hnil : oa = none → c = 0) (hmx : l.length ≤ 1099511627776) :
  Ret Tryz.prog 113 #[.slice oa l.length c, .string x] w fun v w' => ∃ oa' c' l', v = .slice oa' l'.length c' ∧ Row w' oa' (svals l') ∧ l'.length = l.length + 1 ∧ l'.length ≤ c' ∧ (oa' = none → c' = 0) ∧ (∀ y, y ∈ l' ↔ y ∈ l ∨ y = x) ∧ Below w.heap.size w w' := by
 refine ret_of_vc Tryz.func113 rfl mixed (by kernel_rfl) ?_
 conv=>whnf
 refine vloop (X := Nat) ws113_1 (fun i => [(5, .int .i64 i)]) (fun i w' => i ≤ l.length ∧ w' = w) (fun i => l.length - i) 0 (by kernel_rfl)
  ?_ ⟨Nat.zero_le _, rfl⟩ ?_
 ·exact ⟨rfl, trivial⟩
 rintro i w1 j ⟨hi, rfl⟩
 have fin : True := trivial
 conv=>whnf
 refine vif_split (fun hlt => ?_) (fun hge => ?_)
 ·have hlt : i < l.length := by have := of_decide_eq_true hlt; omega
  obtain ⟨b, o, rfl, hbl, hA⟩ := hr.at (by rw [svals_len]; omega)
  have hg := svals_get hlt
  conv=>whnf
  (repeat (first | (refine VReq.mk (by first | decide | omega) ?_; conv=>whnf) | (refine VPend.mk rfl ?_; conv=>whnf) | (refine VNext.keep rfl ?_; conv=>whnf) | (refine vs_slI1 _ rfl rfl rfl (by assumption) ?_; conv=>whnf) | (refine vs_slI _ rfl rfl rfl (by assumption) ?_; conv=>whnf) | (refine vs_arr1 _ rfl rfl rfl (by assumption) ?_; conv=>whnf) | (refine vs_loadF (by with_reducible assumption) (by assumption) rfl rfl ?_; conv=>whnf) | (refine vs_loadF0 (by with_reducible assumption) (by assumption) rfl rfl ?_; conv=>whnf) | (refine vs_loadI (by with_reducible assumption) (by assumption) rfl ?_; conv=>whnf) | (refine vs_loadB rfl (by with_reducible assumption) (by assumption) ?_; conv=>whnf)))
  apply vif_split <;> intro h
  ·conv=>whnf
   refine VBack.mk ⟨_, ?_, (i + 1), rfl, ?_, ?_⟩
   ·show l.length - (i + 1) < l.length - i; omega
   ·exact ⟨intEq (incr (by omega)), trivial⟩
   ·exact ⟨hlt, rfl⟩
  ·conv=>whnf
   (refine vdrawB plan113 (by kernel_rfl) ?_; conv=>whnf)
   have hci : i ≤ c := by omega
   have hrT : ∀ u, Below w1.heap.size w1 u → Row u _ (svals (l.take i)) := fun u hu => by
    have := (hr.below hu).take i
    rwa [show (svals l).take i = svals (l.take i) by simp [svals, List.map_take]] at this
   have hrD : ∀ u, Below w1.heap.size w1 u → Row u (loS _ i 1 c) (svals (l.drop i)) := fun u hu => by
    have := (hr.below hu).lo' (lo := i) (sz := 1) (c := c) (by rw [svals_len]; omega)
    rwa [Nat.mul_one, show (svals l).drop i = svals (l.drop i) by simp [svals, List.map_drop]] at this
   have hBd : Below w1.heap.size w1 w1.drew := belowDrew (Below.refl _ _)
   refine vs_sliceHi (h := i) rfl rfl rfl (by omega) hc ?_
   conv=>whnf
   refine VPend.mk rfl ?_
   conv=>whnf
   refine VPend.mk (fun u _ => ?_) ?_
   ·conv=>whnf
    exact vs_sliceHi (h := i) rfl rfl rfl (by omega) hc (VPend.mk rfl rfl)
   conv=>whnf
   refine vs_sliceLo (lo := i) rfl rfl rfl (by omega) ?_
   conv=>whnf
   refine VPend.mk rfl ?_
   conv=>whnf
   refine VPend.mk (fun u _ => ?_) ?_
   ·conv=>whnf
    exact vs_sliceLo (lo := i) rfl rfl rfl (by omega) (VPend.mk rfl rfl)
   conv=>whnf
   have hsz := hBd.size
   refine ⟨?_, ?_⟩
   ·conv=>whnf
    have hB0 : Below w1.heap.size w1 (w1.drew.alloc (.cells #[] 9)) := balloc hBd (Nat.le_refl _) _
    have hO0 : Vc.Own (w1.drew.alloc (.cells #[] 9)) w1.heap.size 9 1 (some ⟨w1.heap.size, 0, none⟩) 0 0 [] := Vc.Own.ofBlk (Blk.new w1.drew #[] _) (Nat.le_refl _) (Nat.le_refl _) (Nat.zero_le _) rfl rfl
    refine VNext.keep (fromDrew hB0) ?_
    conv=>whnf
    refine ⟨?_, ?_⟩
    ·conv=>whnf
     refine vs_append (B := w1.heap.size) (sz := 1) (by_ := 16) (m := i) (n := 0) rfl rfl rfl rfl rfl rfl hO0 (hrT _ hB0) (by simp; omega) (svals_one _) hnil (by omega) hB0.size (by unfold maxLen; omega) ?_
     intro o4 c4 w4 ho4 hB4 _
     rw [Nat.zero_add, List.nil_append] at ho4
     have hB4' := hB0.trans hB4
     conv=>whnf
     refine VNext.keep (fromDrew hB4') ?_
     conv=>whnf
     have hOwn := ho4.alloc (.cells #[.string x] 9)
     have hRx := Row.alloc1 w4 [.string x] 9
     have hBk := balloc hB4' (Nat.le_refl _) (.cells #[.string x] 9)
     refine VNext.keep (fromDrew hBk) ?_
     rw [Nat.zero_add]
     conv=>whnf
     refine vs_append (B := w1.heap.size) (sz := 1) (by_ := 16) (m := 1) (n := i) rfl rfl rfl rfl rfl rfl hOwn hRx rfl (fun u hu => by simp at hu; subst hu; rfl) (fun e => by cases e) (by omega) hBk.size (by unfold maxLen; omega) ?_
     intro o7 c7 w7 ho7 hB7 _
     have hBk7 := hBk.trans hB7
     conv=>whnf
     refine VNext.keep (fromDrew hBk7) ?_
     conv=>whnf
     refine vs_append (B := w1.heap.size) (sz := 1) (by_ := 16) (m := l.length - i) (n := i + 1) rfl rfl rfl rfl rfl rfl ho7 (hrD w7 hBk7) (by simp) (svals_one _) (loS_none hnil) (by omega) hBk7.size (by unfold maxLen; omega) ?_
     intro o9 c9 w9 ho9 hB9 _
     have hBk9 := hBk7.trans hB9
     conv=>whnf
     refine VNext.keep (fromDrew hBk9) ?_
     conv=>whnf
     obtain ⟨l9, hl9⟩ : ∃ m, m = l.take i ++ [x] ++ l.drop i := ⟨_, rfl⟩
     have hll : i + 1 + (l.length - i) = l9.length := by rw [hl9]; simp; omega
     have hls : svals (l.take i) ++ [Value.string x] ++ svals (l.drop i) = svals l9 := by rw [hl9]; simp [svals]
     rw [hls, hll] at ho9
     rw [hll]
     have hcap := Own.cap ho9
     refine VEnd.mk ⟨o9, c9, l9, rfl, ho9.row, by omega, hcap.1, hcap.2, fun y => ?_, hBk9⟩
     rw [hl9]
     simp only [List.mem_append, List.mem_singleton]
     constructor
     ·rintro ((h | h) | h)
      ·exact .inl (List.mem_of_mem_take h)
      ·exact .inr h
      ·exact .inl (List.mem_of_mem_drop h)
     ·rintro (h | h)
      ·rw [← List.take_append_drop i l] at h
       rcases List.mem_append.1 h with h | h
       ·exact .inl (.inl h)
       ·exact .inr h
      ·exact .inl (.inr h)
    ·conv=>whnf
     have hO6 := hO0.alloc (.cells #[.string x] 9)
     have hR6 := Row.alloc1 (w1.drew.alloc (.cells #[] 9)) [.string x] 9
     have hB6 := balloc hB0 (Nat.le_refl _) (.cells #[.string x] 9)
     refine VNext.keep (fromDrew hB6) ?_
     conv=>whnf
     refine vs_append (B := w1.heap.size) (sz := 1) (by_ := 16) (m := i) (n := 0) rfl rfl rfl rfl rfl rfl hO6 (hrT _ hB6) (by simp; omega) (svals_one _) hnil (by omega) hB6.size (by unfold maxLen; omega) ?_
     intro o4 c4 w4 ho4 hB4 hg4
     rw [Nat.zero_add, List.nil_append] at ho4
     have hOwn := ho4
     have hBk := hB6.trans hB4
     have hRx := Row.grown hR6 hg4 (by simp [ownB])
     conv=>whnf
     refine VNext.keep (fromDrew hBk) ?_
     rw [Nat.zero_add]
     conv=>whnf
     refine vs_append (B := w1.heap.size) (sz := 1) (by_ := 16) (m := 1) (n := i) rfl rfl rfl rfl rfl rfl hOwn hRx rfl (fun u hu => by simp at hu; subst hu; rfl) (fun e => by cases e) (by omega) hBk.size (by unfold maxLen; omega) ?_
     intro o7 c7 w7 ho7 hB7 _
     have hBk7 := hBk.trans hB7
     conv=>whnf
     refine VNext.keep (fromDrew hBk7) ?_
     conv=>whnf
     refine vs_append (B := w1.heap.size) (sz := 1) (by_ := 16) (m := l.length - i) (n := i + 1) rfl rfl rfl rfl rfl rfl ho7 (hrD w7 hBk7) (by simp) (svals_one _) (loS_none hnil) (by omega) hBk7.size (by unfold maxLen; omega) ?_
     intro o9 c9 w9 ho9 hB9 _
     have hBk9 := hBk7.trans hB9
     conv=>whnf
     refine VNext.keep (fromDrew hBk9) ?_
     conv=>whnf
     obtain ⟨l9, hl9⟩ : ∃ m, m = l.take i ++ [x] ++ l.drop i := ⟨_, rfl⟩
     have hll : i + 1 + (l.length - i) = l9.length := by rw [hl9]; simp; omega
     have hls : svals (l.take i) ++ [Value.string x] ++ svals (l.drop i) = svals l9 := by rw [hl9]; simp [svals]
     rw [hls, hll] at ho9
     rw [hll]
     have hcap := Own.cap ho9
     refine VEnd.mk ⟨o9, c9, l9, rfl, ho9.row, by omega, hcap.1, hcap.2, fun y => ?_, hBk9⟩
     rw [hl9]
     simp only [List.mem_append, List.mem_singleton]
     constructor
     ·rintro ((h | h) | h)
      ·exact .inl (List.mem_of_mem_take h)
      ·exact .inr h
      ·exact .inl (List.mem_of_mem_drop h)
     ·rintro (h | h)
      ·rw [← List.take_append_drop i l] at h
       rcases List.mem_append.1 h with h | h
       ·exact .inl (.inl h)
       ·exact .inr h
      ·exact .inl (.inr h)
   ·conv=>whnf
    have hR6 := Row.alloc1 w1.drew [.string x] 9
    have hB6 := balloc hBd (Nat.le_refl _) (.cells #[.string x] 9)
    refine VNext.keep (fromDrew hB6) ?_
    conv=>whnf
    have hO0 : Vc.Own ((w1.drew.alloc (.cells #[.string x] 9)).alloc (.cells #[] 9)) w1.heap.size 9 1 (some ⟨(w1.drew.alloc (.cells #[.string x] 9)).heap.size, 0, none⟩) 0 0 [] := Vc.Own.ofBlk (Blk.new _ #[] _) hB6.size (Nat.le_refl _) (Nat.zero_le _) rfl rfl
    have hB0 := balloc hB6 (Nat.le_refl _) (.cells #[] 9)
    have hR0 := hR6.alloc (.cells #[] 9)
    refine VNext.keep (fromDrew hB0) ?_
    conv=>whnf
    refine vs_append (B := w1.heap.size) (sz := 1) (by_ := 16) (m := i) (n := 0) rfl rfl rfl rfl rfl rfl hO0 (hrT _ hB0) (by simp; omega) (svals_one _) hnil (by omega) hB0.size (by unfold maxLen; omega) ?_
    intro o4 c4 w4 ho4 hB4 hg4
    rw [Nat.zero_add, List.nil_append] at ho4
    have hOwn := ho4
    have hBk := hB0.trans hB4
    have hRx := Row.grown hR0 hg4 (by simp [ownB])
    conv=>whnf
    refine VNext.keep (fromDrew hBk) ?_
    rw [Nat.zero_add]
    conv=>whnf
    refine vs_append (B := w1.heap.size) (sz := 1) (by_ := 16) (m := 1) (n := i) rfl rfl rfl rfl rfl rfl hOwn hRx rfl (fun u hu => by simp at hu; subst hu; rfl) (fun e => by cases e) (by omega) hBk.size (by unfold maxLen; omega) ?_
    intro o7 c7 w7 ho7 hB7 _
    have hBk7 := hBk.trans hB7
    conv=>whnf
    refine VNext.keep (fromDrew hBk7) ?_
    conv=>whnf
    refine vs_append (B := w1.heap.size) (sz := 1) (by_ := 16) (m := l.length - i) (n := i + 1) rfl rfl rfl rfl rfl rfl ho7 (hrD w7 hBk7) (by simp) (svals_one _) (loS_none hnil) (by omega) hBk7.size (by unfold maxLen; omega) ?_
    intro o9 c9 w9 ho9 hB9 _
    have hBk9 := hBk7.trans hB9
    conv=>whnf
    refine VNext.keep (fromDrew hBk9) ?_
    conv=>whnf
    obtain ⟨l9, hl9⟩ : ∃ m, m = l.take i ++ [x] ++ l.drop i := ⟨_, rfl⟩
    have hll : i + 1 + (l.length - i) = l9.length := by rw [hl9]; simp; omega
    have hls : svals (l.take i) ++ [Value.string x] ++ svals (l.drop i) = svals l9 := by rw [hl9]; simp [svals]
    rw [hls, hll] at ho9
    rw [hll]
    have hcap := Own.cap ho9
    refine VEnd.mk ⟨o9, c9, l9, rfl, ho9.row, by omega, hcap.1, hcap.2, fun y => ?_, hBk9⟩
    rw [hl9]
    simp only [List.mem_append, List.mem_singleton]
    constructor
    ·rintro ((h | h) | h)
     ·exact .inl (List.mem_of_mem_take h)
     ·exact .inr h
     ·exact .inl (List.mem_of_mem_drop h)
    ·rintro (h | h)
     ·rw [← List.take_append_drop i l] at h
      rcases List.mem_append.1 h with h | h
      ·exact .inl (.inl h)
      ·exact .inr h
     ·exact .inl (.inr h)
 ·have hge : ¬ i < l.length := by have := of_decide_eq_false hge; omega
  conv=>whnf
  (refine vdrawB plan113 (by kernel_rfl) ?_; conv=>whnf)
  have hci : i ≤ c := by omega
  have hrT : ∀ u, Below w1.heap.size w1 u → Row u _ (svals (l.take i)) := fun u hu => by
   have := (hr.below hu).take i
   rwa [show (svals l).take i = svals (l.take i) by simp [svals, List.map_take]] at this
  have hrD : ∀ u, Below w1.heap.size w1 u → Row u (loS _ i 1 c) (svals (l.drop i)) := fun u hu => by
   have := (hr.below hu).lo' (lo := i) (sz := 1) (c := c) (by rw [svals_len]; omega)
   rwa [Nat.mul_one, show (svals l).drop i = svals (l.drop i) by simp [svals, List.map_drop]] at this
  have hBd : Below w1.heap.size w1 w1.drew := belowDrew (Below.refl _ _)
  refine vs_sliceHi (h := i) rfl rfl rfl (by omega) hc ?_
  conv=>whnf
  refine VPend.mk rfl ?_
  conv=>whnf
  refine VPend.mk (fun u _ => ?_) ?_
  ·conv=>whnf
   exact vs_sliceHi (h := i) rfl rfl rfl (by omega) hc (VPend.mk rfl rfl)
  conv=>whnf
  refine vs_sliceLo (lo := i) rfl rfl rfl (by omega) ?_
  conv=>whnf
  refine VPend.mk rfl ?_
  conv=>whnf
  refine VPend.mk (fun u _ => ?_) ?_
  ·conv=>whnf
   exact vs_sliceLo (lo := i) rfl rfl rfl (by omega) (VPend.mk rfl rfl)
  conv=>whnf
  have hsz := hBd.size
  refine ⟨?_, ?_⟩
  ·conv=>whnf
   have hB0 : Below w1.heap.size w1 (w1.drew.alloc (.cells #[] 9)) := balloc hBd (Nat.le_refl _) _
   have hO0 : Vc.Own (w1.drew.alloc (.cells #[] 9)) w1.heap.size 9 1 (some ⟨w1.heap.size, 0, none⟩) 0 0 [] := Vc.Own.ofBlk (Blk.new w1.drew #[] _) (Nat.le_refl _) (Nat.le_refl _) (Nat.zero_le _) rfl rfl
   refine VNext.keep (fromDrew hB0) ?_
   conv=>whnf
   refine ⟨?_, ?_⟩
   ·conv=>whnf
    refine vs_append (B := w1.heap.size) (sz := 1) (by_ := 16) (m := i) (n := 0) rfl rfl rfl rfl rfl rfl hO0 (hrT _ hB0) (by simp; omega) (svals_one _) hnil (by omega) hB0.size (by unfold maxLen; omega) ?_
    intro o4 c4 w4 ho4 hB4 _
    rw [Nat.zero_add, List.nil_append] at ho4
    have hB4' := hB0.trans hB4
    conv=>whnf
    refine VNext.keep (fromDrew hB4') ?_
    conv=>whnf
    have hOwn := ho4.alloc (.cells #[.string x] 9)
    have hRx := Row.alloc1 w4 [.string x] 9
    have hBk := balloc hB4' (Nat.le_refl _) (.cells #[.string x] 9)
    refine VNext.keep (fromDrew hBk) ?_
    rw [Nat.zero_add]
    conv=>whnf
    refine vs_append (B := w1.heap.size) (sz := 1) (by_ := 16) (m := 1) (n := i) rfl rfl rfl rfl rfl rfl hOwn hRx rfl (fun u hu => by simp at hu; subst hu; rfl) (fun e => by cases e) (by omega) hBk.size (by unfold maxLen; omega) ?_
    intro o7 c7 w7 ho7 hB7 _
    have hBk7 := hBk.trans hB7
    conv=>whnf
    refine VNext.keep (fromDrew hBk7) ?_
    conv=>whnf
    refine vs_append (B := w1.heap.size) (sz := 1) (by_ := 16) (m := l.length - i) (n := i + 1) rfl rfl rfl rfl rfl rfl ho7 (hrD w7 hBk7) (by simp) (svals_one _) (loS_none hnil) (by omega) hBk7.size (by unfold maxLen; omega) ?_
    intro o9 c9 w9 ho9 hB9 _
    have hBk9 := hBk7.trans hB9
    conv=>whnf
    refine VNext.keep (fromDrew hBk9) ?_
    conv=>whnf
    obtain ⟨l9, hl9⟩ : ∃ m, m = l.take i ++ [x] ++ l.drop i := ⟨_, rfl⟩
    have hll : i + 1 + (l.length - i) = l9.length := by rw [hl9]; simp; omega
    have hls : svals (l.take i) ++ [Value.string x] ++ svals (l.drop i) = svals l9 := by rw [hl9]; simp [svals]
    rw [hls, hll] at ho9
    rw [hll]
    have hcap := Own.cap ho9
    refine VEnd.mk ⟨o9, c9, l9, rfl, ho9.row, by omega, hcap.1, hcap.2, fun y => ?_, hBk9⟩
    rw [hl9]
    simp only [List.mem_append, List.mem_singleton]
    constructor
    ·rintro ((h | h) | h)
     ·exact .inl (List.mem_of_mem_take h)
     ·exact .inr h
     ·exact .inl (List.mem_of_mem_drop h)
    ·rintro (h | h)
     ·rw [← List.take_append_drop i l] at h
      rcases List.mem_append.1 h with h | h
      ·exact .inl (.inl h)
      ·exact .inr h
     ·exact .inl (.inr h)
   ·conv=>whnf
    have hO6 := hO0.alloc (.cells #[.string x] 9)
    have hR6 := Row.alloc1 (w1.drew.alloc (.cells #[] 9)) [.string x] 9
    have hB6 := balloc hB0 (Nat.le_refl _) (.cells #[.string x] 9)
    refine VNext.keep (fromDrew hB6) ?_
    conv=>whnf
    refine vs_append (B := w1.heap.size) (sz := 1) (by_ := 16) (m := i) (n := 0) rfl rfl rfl rfl rfl rfl hO6 (hrT _ hB6) (by simp; omega) (svals_one _) hnil (by omega) hB6.size (by unfold maxLen; omega) ?_
    intro o4 c4 w4 ho4 hB4 hg4
    rw [Nat.zero_add, List.nil_append] at ho4
    have hOwn := ho4
    have hBk := hB6.trans hB4
    have hRx := Row.grown hR6 hg4 (by simp [ownB])
    conv=>whnf
    refine VNext.keep (fromDrew hBk) ?_
    rw [Nat.zero_add]
    conv=>whnf
    refine vs_append (B := w1.heap.size) (sz := 1) (by_ := 16) (m := 1) (n := i) rfl rfl rfl rfl rfl rfl hOwn hRx rfl (fun u hu => by simp at hu; subst hu; rfl) (fun e => by cases e) (by omega) hBk.size (by unfold maxLen; omega) ?_
    intro o7 c7 w7 ho7 hB7 _
    have hBk7 := hBk.trans hB7
    conv=>whnf
    refine VNext.keep (fromDrew hBk7) ?_
    conv=>whnf
    refine vs_append (B := w1.heap.size) (sz := 1) (by_ := 16) (m := l.length - i) (n := i + 1) rfl rfl rfl rfl rfl rfl ho7 (hrD w7 hBk7) (by simp) (svals_one _) (loS_none hnil) (by omega) hBk7.size (by unfold maxLen; omega) ?_
    intro o9 c9 w9 ho9 hB9 _
    have hBk9 := hBk7.trans hB9
    conv=>whnf
    refine VNext.keep (fromDrew hBk9) ?_
    conv=>whnf
    obtain ⟨l9, hl9⟩ : ∃ m, m = l.take i ++ [x] ++ l.drop i := ⟨_, rfl⟩
    have hll : i + 1 + (l.length - i) = l9.length := by rw [hl9]; simp; omega
    have hls : svals (l.take i) ++ [Value.string x] ++ svals (l.drop i) = svals l9 := by rw [hl9]; simp [svals]
    rw [hls, hll] at ho9
    rw [hll]
    have hcap := Own.cap ho9
    refine VEnd.mk ⟨o9, c9, l9, rfl, ho9.row, by omega, hcap.1, hcap.2, fun y => ?_, hBk9⟩
    rw [hl9]
    simp only [List.mem_append, List.mem_singleton]
    constructor
    ·rintro ((h | h) | h)
     ·exact .inl (List.mem_of_mem_take h)
     ·exact .inr h
     ·exact .inl (List.mem_of_mem_drop h)
    ·rintro (h | h)
     ·rw [← List.take_append_drop i l] at h
      rcases List.mem_append.1 h with h | h
      ·exact .inl (.inl h)
      ·exact .inr h
     ·exact .inl (.inr h)
  ·conv=>whnf
   have hR6 := Row.alloc1 w1.drew [.string x] 9
   have hB6 := balloc hBd (Nat.le_refl _) (.cells #[.string x] 9)
   refine VNext.keep (fromDrew hB6) ?_
   conv=>whnf
   have hO0 : Vc.Own ((w1.drew.alloc (.cells #[.string x] 9)).alloc (.cells #[] 9)) w1.heap.size 9 1 (some ⟨(w1.drew.alloc (.cells #[.string x] 9)).heap.size, 0, none⟩) 0 0 [] := Vc.Own.ofBlk (Blk.new _ #[] _) hB6.size (Nat.le_refl _) (Nat.zero_le _) rfl rfl
   have hB0 := balloc hB6 (Nat.le_refl _) (.cells #[] 9)
   have hR0 := hR6.alloc (.cells #[] 9)
   refine VNext.keep (fromDrew hB0) ?_
   conv=>whnf
   refine vs_append (B := w1.heap.size) (sz := 1) (by_ := 16) (m := i) (n := 0) rfl rfl rfl rfl rfl rfl hO0 (hrT _ hB0) (by simp; omega) (svals_one _) hnil (by omega) hB0.size (by unfold maxLen; omega) ?_
   intro o4 c4 w4 ho4 hB4 hg4
   rw [Nat.zero_add, List.nil_append] at ho4
   have hOwn := ho4
   have hBk := hB0.trans hB4
   have hRx := Row.grown hR0 hg4 (by simp [ownB])
   conv=>whnf
   refine VNext.keep (fromDrew hBk) ?_
   rw [Nat.zero_add]
   conv=>whnf
   refine vs_append (B := w1.heap.size) (sz := 1) (by_ := 16) (m := 1) (n := i) rfl rfl rfl rfl rfl rfl hOwn hRx rfl (fun u hu => by simp at hu; subst hu; rfl) (fun e => by cases e) (by omega) hBk.size (by unfold maxLen; omega) ?_
   intro o7 c7 w7 ho7 hB7 _
   have hBk7 := hBk.trans hB7
   conv=>whnf
   refine VNext.keep (fromDrew hBk7) ?_
   conv=>whnf
   refine vs_append (B := w1.heap.size) (sz := 1) (by_ := 16) (m := l.length - i) (n := i + 1) rfl rfl rfl rfl rfl rfl ho7 (hrD w7 hBk7) (by simp) (svals_one _) (loS_none hnil) (by omega) hBk7.size (by unfold maxLen; omega) ?_
   intro o9 c9 w9 ho9 hB9 _
   have hBk9 := hBk7.trans hB9
   conv=>whnf
   refine VNext.keep (fromDrew hBk9) ?_
   conv=>whnf
   obtain ⟨l9, hl9⟩ : ∃ m, m = l.take i ++ [x] ++ l.drop i := ⟨_, rfl⟩
   have hll : i + 1 + (l.length - i) = l9.length := by rw [hl9]; simp; omega
   have hls : svals (l.take i) ++ [Value.string x] ++ svals (l.drop i) = svals l9 := by rw [hl9]; simp [svals]
   rw [hls, hll] at ho9
   rw [hll]
   have hcap := Own.cap ho9
   refine VEnd.mk ⟨o9, c9, l9, rfl, ho9.row, by omega, hcap.1, hcap.2, fun y => ?_, hBk9⟩
   rw [hl9]
   simp only [List.mem_append, List.mem_singleton]
   constructor
   ·rintro ((h | h) | h)
    ·exact .inl (List.mem_of_mem_take h)
    ·exact .inr h
    ·exact .inl (List.mem_of_mem_drop h)
   ·rintro (h | h)
    ·rw [← List.take_append_drop i l] at h
     rcases List.mem_append.1 h with h | h
     ·exact .inl (.inl h)
     ·exact .inr h
    ·exact .inl (.inr h)
def away (L : List ByteArray) : List Lk → Nat
 | [] => 0
 | k :: l => (bif hasB L k.a then 0 else 1) + (bif hasB L k.b then 0 else 1) + away L l
theorem away_le {L M : List ByteArray} (h : ∀ y, y ∈ L → y ∈ M) (l : List Lk) : away M l ≤ away L l := by
 induction l with
 | nil => exact Nat.le_refl _
 | cons k l ih =>
  have e : ∀ z, (bif hasB M z then 0 else 1 : Nat) ≤ (bif hasB L z then 0 else 1) := fun z => by
   cases hL : hasB L z with
   | true => rw [(hasB_iff M z).2 (h z ((hasB_iff L z).1 hL))]; exact Nat.le_refl _
   | false => cases hasB M z <;> simp
  have := e k.a
  have := e k.b
  simp only [away]
  omega
theorem away_lt {L M : List ByteArray} (h : ∀ y, y ∈ L → y ∈ M) {s : ByteArray} (hs : s ∉ L) (hm : s ∈ M) : ∀ (l : List Lk), (∃ k ∈ l, k.a = s ∨ k.b = s) → away M l < away L l := by
 intro l
 induction l with
 | nil => rintro ⟨k, hk, _⟩; simp at hk
 | cons k l ih =>
  have e : ∀ z, (bif hasB M z then 0 else 1 : Nat) ≤ (bif hasB L z then 0 else 1) := fun z => by
   cases hL : hasB L z with
   | true => rw [(hasB_iff M z).2 (h z ((hasB_iff L z).1 hL))]; exact Nat.le_refl _
   | false => cases hasB M z <;> simp
  have e1 : (bif hasB M s then 0 else 1 : Nat) < (bif hasB L s then 0 else 1) := by
   rw [(hasB_iff M s).2 hm, (hasB_not L s).2 hs]; decide
  have a1 := e k.a
  have a2 := e k.b
  have a3 := away_le h l
  rintro ⟨k', hk, hks⟩
  simp only [away]
  rcases List.mem_cons.1 hk with rfl | hk
  ·rcases hks with hks | hks
   ·rw [hks] at a1 ⊢; omega
   ·rw [hks] at a2 ⊢; omega
  ·have := ih ⟨k', hk, hks⟩
   omega
theorem members_ok (oa : Option Addr) (c : Nat) (ls : List Lk) (id : ByteArray) (w : World) (hr : Row w oa (recs lkc ls)) (hmx : ls.length ≤ 1000000) :
  Ret Tryz.prog 83 #[.slice oa ls.length c, .string id] w fun v w' => ∃ oa' c' L, v = .slice oa' L.length c' ∧ Row w' oa' (svals L) ∧ L.length ≤ 4000000 ∧ (∀ y, y ∈ L ↔ con ls id y) ∧ Below w.heap.size w w' := by
 refine ret_of_vc Tryz.func83 rfl mixed (by kernel_rfl) ?_
 have hab : away [id] ls ≤ 2 * ls.length := by
  have : ∀ (L : List ByteArray) (l : List Lk), away L l ≤ 2 * l.length := fun L l => by
   induction l with
   | nil => exact Nat.le_refl _
   | cons k l ih =>
    simp only [away, List.length_cons]
    have : ∀ b : Bool, (bif b then 0 else 1 : Nat) ≤ 1 := fun b => by cases b <;> decide
    have := this (hasB L k.a)
    have := ‹∀ b : Bool, (bif b then 0 else 1 : Nat) ≤ 1› (hasB L k.b)
    omega
  exact this _ _
 conv=>whnf
 refine vloop (X := List ByteArray × Option Addr × Nat × Bool) ws83_1 (fun x => [(5, .slice x.2.1 x.1.length x.2.2.1), (6, .bool x.2.2.2)]) (fun x w' => Below w.heap.size w w' ∧ Row w' x.2.1 (svals x.1) ∧ x.1.length ≤ x.2.2.1 ∧ (x.2.1 = none → x.2.2.1 = 0) ∧ x.1.length + away x.1 ls ≤ 1 + 2 * ls.length ∧ id ∈ x.1 ∧ (∀ y, y ∈ x.1 → con ls id y) ∧ (x.2.2.2 = false → ∀ k ∈ ls, (k.a ∈ x.1 ↔ k.b ∈ x.1))) (fun x => 2 * away x.1 ls + (bif x.2.2.2 then 1 else 0)) ([id], some ⟨w.heap.size, 0, none⟩, 1, true) (by kernel_rfl)
  ?_ ⟨balloc (Below.refl _ _) (Nat.le_refl _) _, Row.alloc1 w [.string id] _, Nat.le_refl _, (fun e => by cases e), by simp only [List.length_cons, List.length_nil]; omega, by simp, (fun y hy => by simp at hy; subst hy; exact rfl), fun e => by cases e⟩ ?_
 ·exact ⟨rfl, rfl, trivial⟩
 rintro ⟨L, oo, cc, ag⟩ w1 j ⟨hB1, hL1, hc1, hn1, hlen, hid, hcon, hcl⟩
 simp only at hL1 hc1 hn1 hlen hid hcon hcl ⊢
 conv=>whnf
 cases ag with
 | false =>
  conv=>whnf
  have hclo := hcl rfl
  refine VEnd.mk ⟨oo, cc, L, rfl, hL1, by omega, fun y => ⟨hcon y, fun h => ?_⟩, hB1⟩
  exact (con_closed (fun z => z ∈ L) _ ls rfl hclo id y h).1 hid
 | true =>
  conv=>whnf
  refine vloop (X := Nat × List ByteArray × Option Addr × Nat × Bool) ws83_2 (fun x => [(7, .int .i64 x.1), (5, .slice x.2.2.1 x.2.1.length x.2.2.2.1), (6, .bool x.2.2.2.2)]) (fun x w' => x.1 ≤ ls.length ∧ Below w.heap.size w w' ∧ Row w' x.2.2.1 (svals x.2.1) ∧ x.2.1.length ≤ x.2.2.2.1 ∧ (x.2.2.1 = none → x.2.2.2.1 = 0) ∧ x.2.1.length + away x.2.1 ls ≤ 1 + 2 * ls.length ∧ id ∈ x.2.1 ∧ (∀ y, y ∈ x.2.1 → con ls id y) ∧
    (x.2.2.2.2 = false → away x.2.1 ls ≤ away L ls ∧ ∀ k ∈ ls.take x.1, (k.a ∈ x.2.1 ↔ k.b ∈ x.2.1)) ∧ (x.2.2.2.2 = true → away x.2.1 ls < away L ls)) (fun x => ls.length - x.1) (0, L, oo, cc, false) (by kernel_rfl)
   ?_ ⟨Nat.zero_le _, hB1, hL1, hc1, hn1, hlen, hid, hcon, fun _ => ⟨Nat.le_refl _, fun k hk => by simp at hk⟩, fun e => by cases e⟩ ?_
  ·exact ⟨rfl, rfl, rfl, trivial⟩
  clear hB1 hL1 hc1 hn1 hlen hid hcon hcl
  rintro ⟨i, M, o2, c2, ag⟩ w2 j2 ⟨hi, hB2, hL2, hc2, hn2, hlen, hid, hcon, hcl, hag⟩
  simp only at hi hL2 hc2 hn2 hlen hid hcon hcl hag ⊢
  conv=>whnf
  refine vif_split (fun hlt => ?_) (fun hge => ?_)
  ·have hlt : i < ls.length := by have := of_decide_eq_true hlt; omega
   obtain ⟨b, o, rfl, hbl, hA⟩ := hr.at (by rw [recs_len lkc_len]; omega)
   have hseg := recs_seg lkc_len ls i hlt
   have hA2 := hA.below hB2 hbl
   have hkm : ls[i] ∈ ls := List.getElem_mem hlt
   have hlk := con_link _ ls rfl ls[i] hkm
   have htk := List.take_succ_eq_append_getElem hlt
   obtain ⟨k, hkk⟩ : ∃ k, k = ls[i] := ⟨_, rfl⟩
   rw [← hkk] at hseg hkm hlk htk
   conv=>whnf
   (refine vdrawB plan83 (by kernel_rfl) ?_; conv=>whnf)
   have hAd : At w2.drew b o (recs lkc ls) := hA2
   have hbd : b < w2.drew.heap.size := Nat.lt_of_lt_of_le hbl hB2.size
   have hMl : M.length ≤ 1099511627776 := by omega
   (refine vs_slI _ rfl rfl rfl hlt ?_; (conv=>whnf); refine VPend.mk rfl ?_; (conv=>whnf); refine VPend.mk (fun u hu => ?_) ?_; (focus ((conv=>whnf); exact vs_slI _ rfl rfl rfl hlt (VPend.mk rfl rfl))); (conv=>whnf))
   (refine VPend.mk (fun u _ => ?_) ?_; (focus (conv=>whnf)); (conv=>whnf))
   (refine vs_loadF (j := 0) hAd hseg rfl rfl ?_; (conv=>whnf); refine VPend.mk rfl ?_; (conv=>whnf); refine VPend.mk (fun u hu => ?_) ?_; (focus ((conv=>whnf); exact vs_loadF (j := 0) (At.below hAd hu hbd) hseg rfl rfl (VPend.mk rfl rfl))); (conv=>whnf))
   (refine vs_slI _ rfl rfl rfl hlt ?_; (conv=>whnf); refine VPend.mk rfl ?_; (conv=>whnf); refine VPend.mk (fun u hu => ?_) ?_; (focus ((conv=>whnf); exact vs_slI _ rfl rfl rfl hlt (VPend.mk rfl rfl))); (conv=>whnf))
   (refine VPend.mk (fun u _ => ?_) ?_; (focus (conv=>whnf)); (conv=>whnf))
   (refine vs_loadF (j := 1) hAd hseg rfl rfl ?_; (conv=>whnf); refine VPend.mk rfl ?_; (conv=>whnf); refine VPend.mk (fun u hu => ?_) ?_; (focus ((conv=>whnf); exact vs_loadF (j := 1) (At.below hAd hu hbd) hseg rfl rfl (VPend.mk rfl rfl))); (conv=>whnf))
   refine vcall (by kernel_rfl) (has_ok o2 c2 M k.a w2.drew hL2 hMl) ?_
   rintro _ w3 ⟨rfl, rfl⟩
   conv=>whnf
   refine VNext.keep (Below.refl _ _) ?_
   conv=>whnf
   refine vcall (by kernel_rfl) (has_ok o2 c2 M k.b w2.drew hL2 hMl) ?_
   rintro _ w3 ⟨rfl, rfl⟩
   conv=>whnf
   refine VNext.keep (Below.refl _ _) ?_
   conv=>whnf
   have hBd : Below w.heap.size w w2.drew := belowDrew hB2
   have fact : ∀ (s : ByteArray) (M' : List ByteArray), s ∉ M → (∀ y, y ∈ M' ↔ y ∈ M ∨ y = s) → M'.length = M.length + 1 → (k.a = s ∨ k.b = s) → con ls id s → M'.length + away M' ls ≤ 1 + 2 * ls.length ∧ id ∈ M' ∧ (∀ y, y ∈ M' → con ls id y) ∧ away M' ls < away L ls := fun s M' hs hM hl hks hcs => by
    have h1 := away_lt (L := M) (M := M') (fun y hy => (hM y).2 (.inl hy)) hs ((hM s).2 (.inr rfl)) ls ⟨k, hkm, hks⟩
    refine ⟨by omega, (hM id).2 (.inl hid), fun y hy => ?_, ?_⟩
    ·rcases (hM y).1 hy with h | h
     ·exact hcon y h
     ·rw [h]; exact hcs
    ·cases ag with
     | true => have := hag rfl; omega
     | false => have := (hcl rfl).1; omega
   refine vif_split (fun hab => ?_) (fun hab => ?_)
   ·have hab : hasB M k.a = hasB M k.b := by simpa using hab
    have habm : k.a ∈ M ↔ k.b ∈ M := by rw [← hasB_iff, ← hasB_iff, hab]
    conv=>whnf
    refine VBack.mk ⟨_, ?_, (i + 1, M, o2, c2, ag), rfl, ?_, ?_⟩
    ·show ls.length - (i + 1) < ls.length - i; omega
    ·exact ⟨intEq (incr (by omega)), rfl, rfl, trivial⟩
    ·refine ⟨hlt, hBd, hL2, hc2, hn2, hlen, hid, hcon, fun e => ⟨(hcl e).1, fun k' hk' => ?_⟩, hag⟩
     rw [htk] at hk'
     rcases List.mem_append.1 hk' with h | h
     ·exact (hcl e).2 k' h
     ·have : k' = k := by simpa using h
      rw [this]; exact habm
   ·have hab : hasB M k.a ≠ hasB M k.b := by intro e; simp [e] at hab
    have hA3 := hAd
    conv=>whnf
    (repeat (first | (refine VReq.mk (by first | decide | omega) ?_; conv=>whnf) | (refine VPend.mk rfl ?_; conv=>whnf) | (refine VNext.keep rfl ?_; conv=>whnf) | (refine vs_slI1 _ rfl rfl rfl (by assumption) ?_; conv=>whnf) | (refine vs_slI _ rfl rfl rfl (by assumption) ?_; conv=>whnf) | (refine vs_arr1 _ rfl rfl rfl (by assumption) ?_; conv=>whnf) | (refine vs_loadF (by with_reducible assumption) (by assumption) rfl rfl ?_; conv=>whnf) | (refine vs_loadF0 (by with_reducible assumption) (by assumption) rfl rfl ?_; conv=>whnf) | (refine vs_loadI (by with_reducible assumption) (by assumption) rfl ?_; conv=>whnf) | (refine vs_loadB rfl (by with_reducible assumption) (by assumption) ?_; conv=>whnf)))
    cases ha : hasB M k.a with
    | true =>
     have hb : hasB M k.b = false := by cases hb : hasB M k.b with
      | false => rfl
      | true => exact absurd (ha.trans hb.symm) hab
     have hcs : con ls id k.b := (hcon _ ((hasB_iff _ _).1 ha)).trans hlk
     conv=>whnf
     (repeat (first | (refine VReq.mk (by first | decide | omega) ?_; conv=>whnf) | (refine VPend.mk rfl ?_; conv=>whnf) | (refine VNext.keep rfl ?_; conv=>whnf) | (refine vs_slI1 _ rfl rfl rfl (by assumption) ?_; conv=>whnf) | (refine vs_slI _ rfl rfl rfl (by assumption) ?_; conv=>whnf) | (refine vs_arr1 _ rfl rfl rfl (by assumption) ?_; conv=>whnf) | (refine vs_loadF (by with_reducible assumption) (by assumption) rfl rfl ?_; conv=>whnf) | (refine vs_loadF0 (by with_reducible assumption) (by assumption) rfl rfl ?_; conv=>whnf) | (refine vs_loadI (by with_reducible assumption) (by assumption) rfl ?_; conv=>whnf) | (refine vs_loadB rfl (by with_reducible assumption) (by assumption) ?_; conv=>whnf)))
     refine vcall (by kernel_rfl) (insert_ok o2 c2 M k.b w2.drew hL2 hc2 hn2 hMl) ?_
     rintro _ w4 ⟨o4, c4, M', rfl, hr4, hl4, hc4, hn4, hm4, hB4⟩
     obtain ⟨f1, f2, f3, f4⟩ := fact k.b M' ((hasB_not _ _).1 hb) hm4 hl4 (.inr rfl) hcs
     conv=>whnf
     refine VBack.mk ⟨_, ?_, (i + 1, M', o4, c4, true), rfl, ?_, ?_⟩
     ·show ls.length - (i + 1) < ls.length - i; omega
     ·exact ⟨intEq (incr (by omega)), rfl, rfl, trivial⟩
     ·exact ⟨hlt, hBd.trans (hB4.mono hBd.size), hr4, hc4, hn4, f1, f2, f3, (fun e => by cases e), fun _ => f4⟩
    | false =>
     have hb : hasB M k.b = true := by cases hb : hasB M k.b with
      | true => rfl
      | false => exact absurd (ha.trans hb.symm) hab
     have hcs : con ls id k.a := (hcon _ ((hasB_iff _ _).1 hb)).trans hlk.symm
     conv=>whnf
     refine vcall (by kernel_rfl) (insert_ok o2 c2 M k.a w2.drew hL2 hc2 hn2 hMl) ?_
     rintro _ w4 ⟨o4, c4, M', rfl, hr4, hl4, hc4, hn4, hm4, hB4⟩
     obtain ⟨f1, f2, f3, f4⟩ := fact k.a M' ((hasB_not _ _).1 ha) hm4 hl4 (.inl rfl) hcs
     conv=>whnf
     refine VBack.mk ⟨_, ?_, (i + 1, M', o4, c4, true), rfl, ?_, ?_⟩
     ·show ls.length - (i + 1) < ls.length - i; omega
     ·exact ⟨intEq (incr (by omega)), rfl, rfl, trivial⟩
     ·exact ⟨hlt, hBd.trans (hB4.mono hBd.size), hr4, hc4, hn4, f1, f2, f3, (fun e => by cases e), fun _ => f4⟩
  ·have hge : ¬ i < ls.length := by have := of_decide_eq_false hge; omega
   obtain rfl : i = ls.length := by omega
   rw [List.take_length] at hcl
   conv=>whnf
   refine VBack.mk ⟨_, ?_, (M, o2, c2, ag), rfl, ?_, ?_⟩
   ·cases ag with
    | true => have := hag rfl; simp only [cond_true]; omega
    | false => have := (hcl rfl).1; simp only [cond_true, cond_false]; omega
   ·exact ⟨rfl, rfl, trivial⟩
   ·exact ⟨hB2, hL2, hc2, hn2, hlen, hid, hcon, fun e => (hcl e).2⟩
theorem same2_ok (oa : Option Addr) (c : Nat) (ls : List Lk) (x y : ByteArray) (w : World) (hr : Row w oa (recs lkc ls)) (hmx : ls.length ≤ 1000000) :
  Ret Tryz.prog 50 #[.slice oa ls.length c, .string x, .string y] w fun v w' => v = .bool (decide (rt ls x = rt ls y)) ∧ Below w.heap.size w w' := by
 refine ret_of_vc Tryz.func50 rfl mixed (by kernel_rfl) ?_
 conv=>whnf
 refine vcall (by kernel_rfl) (members_ok oa c ls x w hr hmx) ?_
 rintro _ w1 ⟨o1, c1, L, rfl, hr1, hl1, hL, hB⟩
 conv=>whnf
 refine vcall (by kernel_rfl) (has_ok o1 c1 L y w1 hr1 (by omega)) ?_
 rintro _ w2 ⟨rfl, rfl⟩
 conv=>whnf
 refine VEnd.mk ⟨?_, hB⟩
 show Value.bool _ = _
 congr 1
 rw [Bool.eq_iff_iff, hasB_iff, hL y]
 simp [con]
end Go.Proofs.YtgfgndaoocfpdaaGreatDoor.Id
namespace Go.Proofs.YtgfgndaoocfpdaaGreatDoor.Cl
open Go Go.Proofs.YtgfgndaoocfpdaaGreatDoor.Vc Go.Proofs.YtgfgndaoocfpdaaGreatDoor.Ax Go.Proofs.YtgfgndaoocfpdaaGreatDoor.Id
def lkE (e : Ev) : Lk := ⟨ba e.id, ba e.other, e.time⟩
def ofK (k : Int) (l : List Ev) : List Ev := l.filter fun e => decide (e.kind = k)
def lksE (l : List Ev) : List Lk := (ofK 3 l).map lkE
structure Ex where
 id : By
 client : By
 seq : Int
 time : Int
 arm : Int
 ver : Int
def exF (x : Ex) : List FV := [sF x.id, sF x.client, iF x.seq, iF x.time, iF x.arm, iF x.ver]
abbrev exL (l : List Ex) : AV := .lst 6 (l.map exF)
def exE (e : Ev) : Ex := ⟨e.id, e.client, e.seq, e.time, e.arm, e.ver⟩
def rtA (ls : List Lk) (t : Int) (id : By) : ByteArray := rt (unt t ls) (ba id)
def owP (ls : List Lk) (t : Int) (id : By) (x : Ex) : Bool := decide (x.time ≤ t) && decide (rtA ls t x.id = rtA ls t id)
def owO (ls : List Lk) (xs : List Ex) (id : By) (t : Int) : Option Nat := xs.findIdx? (owP ls t id)
def owI (ls : List Lk) (xs : List Ex) (id : By) (t : Int) : Int := match owO ls xs id t with | some i => (i : Int) | none => -1
theorem owO_some {ls : List Lk} {xs : List Ex} {id : By} {t : Int} {i : Nat} (hi : i < xs.length) (h : owP ls t id xs[i] = true) (hno : ∀ j (h1 : j < i), owP ls t id (xs[j]'(by omega)) = false) : owO ls xs id t = some i := by
 unfold owO
 rw [List.findIdx?_eq_some_iff_getElem]
 exact ⟨hi, h, fun j hj => by simp [hno j hj]⟩
theorem owO_none {ls : List Lk} {xs : List Ex} {id : By} {t : Int} (hno : ∀ j (h1 : j < xs.length), owP ls t id xs[j] = false) : owO ls xs id t = none := by
 unfold owO
 rw [List.findIdx?_eq_none_iff]
 intro x hx
 obtain ⟨j, hj, rfl⟩ := List.getElem_of_mem hx
 exact hno j hj
theorem owO_lt {ls : List Lk} {xs : List Ex} {id : By} {t : Int} {i : Nat} (h : owO ls xs id t = some i) : ∃ hi : i < xs.length, owP ls t id xs[i] = true := by
 unfold owO at h
 rw [List.findIdx?_eq_some_iff_getElem] at h
 exact ⟨h.1, h.2.1⟩
def fstN (ls : List Lk) (name : By) (o : List Ex) (e : Ev) : List Ex := if e.name = name ∧ owI ls o e.id e.time < 0 then o ++ [exE e] else o
def fstX (ls : List Lk) (name : By) (l : List Ev) : List Ex := l.foldl (fstN ls name) []
theorem fstX_snoc (ls : List Lk) (name : By) (l : List Ev) (e : Ev) : fstX ls name (l ++ [e]) = fstN ls name (fstX ls name l) e := by unfold fstX; rw [List.foldl_append]; rfl
def fstS (l : List Ev) (name : By) : List Ex := fstX (lksE l) name (ofK 1 l)
theorem fstX_len (ls : List Lk) (name : By) (l : List Ev) : (fstX ls name l).length ≤ l.length := by
 have : ∀ (l : List Ev) (o : List Ex), (l.foldl (fstN ls name) o).length ≤ o.length + l.length := by
  intro l
  induction l with
  | nil => intro o; simp
  | cons e r ih =>
   intro o
   rw [List.foldl_cons]
   have h1 := ih (fstN ls name o e)
   have h2 : (fstN ls name o e).length ≤ o.length + 1 := by unfold fstN; split <;> simp
   simp only [List.length_cons]
   omega
 have := this l []
 simpa [fstX] using this
structure Mt where
 kind : Int
 name : By
 below : By
 window : Int
 cap : Int
 least : Int
 before : Int
def mtF (m : Mt) : List FV := [iF m.kind, sF m.name, sF m.below, iF m.window, iF m.cap, iF m.least, iF m.before]
def mtA (m : Mt) : AV := .agg ((mtF m).map FV.up)
def mtW (m : Mt) (e : Ev) : Int := if m.kind = 1 ∨ m.kind = 4 then e.val else 1
def mtV (m : Mt) (l : List Ev) : Int := l.foldl (fun a e => if e.name = m.name ∧ m.least ≤ e.val then a + mtW m e else a) 0
def mtB (m : Mt) (l : List Ev) : Int := l.foldl (fun a e => if m.kind = 4 ∧ e.name = m.below then a + e.val else a) 0
def lim (m : Mt) (n : Int) : Int := max 0 (min n m.cap)
structure Sm where
 x : Ex
 value : Int
 below : Int
 before : Int
 mixed : Bool
def smF (s : Sm) : List FV := exF s.x ++ [iF s.value, iF s.below, iF s.before, .v (.bool s.mixed)]
abbrev smL (l : List Sm) : AV := .lst 10 (l.map smF)
def insE (ls : List Lk) (xs : List Ex) (w : Int) (k : Nat) (x : Ex) (l : List Ev) : List Ev := l.filter fun e => decide (owO ls xs e.id e.time = some k) && decide (e.time < x.time + w)
def mixE (ls : List Lk) (xs : List Ex) (name : By) (w : Int) (k : Nat) (x : Ex) (l : List Ev) : Bool := (insE ls xs w k x l).any fun e => decide (e.name = name) && !decide (e.arm = x.arm)
def befE (ls : List Lk) (b : Int) (x : Ex) (l : List Ev) : List Ev := l.filter fun e => decide (x.time - b ≤ e.time) && (decide (e.time < x.time) && decide (rtA ls x.time e.id = rtA ls x.time x.id))
def smpE (l : List Ev) (name : By) (m : Mt) (k : Nat) (x : Ex) : Sm :=
 let ls := lksE l
 let xs := fstS l name
 let ins := insE ls xs m.window k x (ofK 2 l)
 ⟨x, lim m (mtV m ins), lim m (mtB m ins), if m.before = 0 then 0 else lim m (mtV m (befE ls m.before x (ofK 2 l))), mixE ls xs name m.window k x (ofK 1 l)⟩
def smpS (l : List Ev) (name : By) (m : Mt) (mark : Int) : List Sm := ((fstS l name).zipIdx.filter fun p => decide (p.1.time + m.window ≤ mark)).map fun p => smpE l name m p.2 p.1
def zu (n : Int) : Nat := if n < 0 then (-2 * n - 1).toNat else (2 * n).toNat
def zz (u : Nat) : Int := if u % 2 = 1 then -((u / 2 : Nat) : Int) - 1 else ((u / 2 : Nat) : Int)
theorem zz_zu (n : Int) : zz (zu n) = n := by
 unfold zz zu
 by_cases h : n < 0
 ·rw [if_pos h]; split <;> omega
 ·rw [if_neg h]; split <;> omega
theorem zu_lt {n : Int} (h : I64 n) : zu n < 18446744073709551616 := by
 unfold zu I64 at *
 split <;> omega
def grp : Nat → Nat → By
 | 0, u => [UInt8.ofNat u]
 | f + 1, u => if u < 128 then [UInt8.ofNat u] else UInt8.ofNat (128 + u % 128) :: grp f (u / 128)
def num (n : Int) : By := grp 9 (zu n)
inductive RN where
 | bad (e : Int)
 | ok (n : Int) (k : Nat)
def rdN : By → Nat → Nat → RN
 | [], _, _ => .bad 16
 | c :: r, i, u => if i = 9 ∧ 1 < c.toNat then .bad 3 else if 128 ≤ c.toNat then rdN r (i + 1) (u + c.toNat % 128 * 128 ^ i) else if c.toNat = 0 ∧ 0 < i then .bad 1 else .ok (zz (u + c.toNat % 128 * 128 ^ i)) (i + 1)
theorem pow128 (i : Nat) : 128 ^ (i + 1) = 128 * 128 ^ i := by rw [Nat.pow_succ, Nat.mul_comm]
theorem rd_grp (r : By) : ∀ (f u i acc : Nat), i + f = 9 → u < 2 * 128 ^ f → (i = 0 ∨ u ≠ 0) → rdN (grp f u ++ r) i acc = .ok (zz (acc + u * 128 ^ i)) (i + (grp f u).length) := by
 intro f
 induction f with
 | zero =>
  intro u i acc hi hu h0
  have hu2 : u < 2 := by simpa using hu
  simp only [grp, List.cons_append, List.nil_append, rdN]
  rw [toNat_ofNat (by omega)]
  rw [if_neg (by omega), if_neg (by omega), if_neg (by omega), Nat.mod_eq_of_lt (by omega : u < 128)]
  simp
 | succ f ih =>
  intro u i acc hi hu h0
  unfold grp
  by_cases h : u < 128
  ·rw [if_pos h]
   simp only [List.cons_append, List.nil_append, rdN]
   rw [toNat_ofNat (by omega)]
   rw [if_neg (by omega), if_neg (by omega), if_neg (by omega), Nat.mod_eq_of_lt h]
   simp
  ·rw [if_neg h]
   have hm : u % 128 < 128 := Nat.mod_lt _ (by decide)
   simp only [List.cons_append, rdN]
   rw [toNat_ofNat (by omega)]
   rw [if_neg (by omega), if_pos (by omega)]
   rw [pow128] at hu
   rw [ih (u / 128) (i + 1) _ (by omega) (by omega) (by omega)]
   have e1 : (128 + u % 128) % 128 = u % 128 := by omega
   have e2 : u % 128 * 128 ^ i + u / 128 * 128 ^ (i + 1) = u * 128 ^ i := by
    rw [pow128, ← Nat.mul_assoc, ← Nat.add_mul]
    have : u % 128 + u / 128 * 128 = u := by omega
    rw [this]
   rw [e1, Nat.add_assoc, e2]
   simp only [List.length_cons]
   congr 1
   omega
theorem rd_num (n : Int) (hn : I64 n) (r : By) : rdN (num n ++ r) 0 0 = .ok n (num n).length := by
 unfold num
 rw [rd_grp r 9 (zu n) 0 0 rfl (by have := zu_lt hn; omega) (.inl rfl)]
 simp [zz_zu]
def rnT (b : By) (e : Int) : Int × Nat × Int :=
 if e = 0 then (match rdN b 0 0 with
  | .bad e' => (0, 0, e')
  | .ok n k => (n, k, 0)) else (0, 0, e)
theorem rnT_num {n : Int} (hn : I64 n) (r : By) : rnT (num n ++ r) 0 = (n, (num n).length, 0) := by
 unfold rnT
 rw [if_pos rfl, rd_num n hn r]
def cnT (b : By) (e most em : Int) : Int × Nat × Int :=
 let t := rnT b e
 let e1 := if t.2.2 = 0 then (if t.1 < 0 then 3 else if most < t.1 then em else 0) else t.2.2
 (if e1 = 0 then t.1 else 0, t.2.1, e1)
section
open Go.RowKit
theorem wr_u64 {n : Nat} (h : n < 18446744073709551616) : IntKind.u64.wrap (n : Int) = n := by
 have e : IntKind.u64.bits = 64 := rfl
 have s : IntKind.u64.signed = false := rfl
 simp only [IntKind.wrap, e, s, Bool.false_and, Bool.false_eq_true, if_false]
 omega
theorem wr_u8 {n : Nat} (h : n < 256) : IntKind.u8.wrap (n : Int) = n := by
 have e : IntKind.u8.bits = 8 := rfl
 have s : IntKind.u8.signed = false := rfl
 simp only [IntKind.wrap, e, s, Bool.false_and, Bool.false_eq_true, if_false]
 omega
theorem ofInt_nat (k n : Nat) : BitVec.ofInt k (n : Int) = BitVec.ofNat k n := by
 apply BitVec.eq_of_toNat_eq
 simp
theorem bo_or64 (a b : Nat) (ha : a < 18446744073709551616) (hb : b < 18446744073709551616) : bitsOp .or .u64 a b = ((a ||| b : Nat) : Int) := by
 have e : IntKind.u64.bits = 64 := rfl
 have h := Nat.or_lt_two_pow (n := 64) ha hb
 simp only [bitsOp, e, ofInt_nat, BitVec.toNat_or, BitVec.toNat_ofNat]
 rw [Nat.mod_eq_of_lt ha, Nat.mod_eq_of_lt hb, wr_u64 h]
theorem bo_and64 (a b : Nat) (ha : a < 18446744073709551616) (hb : b < 18446744073709551616) : bitsOp .and .u64 a b = ((a &&& b : Nat) : Int) := by
 have e : IntKind.u64.bits = 64 := rfl
 have h := Nat.and_lt_two_pow (n := 64) a hb
 simp only [bitsOp, e, ofInt_nat, BitVec.toNat_and, BitVec.toNat_ofNat]
 rw [Nat.mod_eq_of_lt ha, Nat.mod_eq_of_lt hb, wr_u64 h]
end
def w64 (n : Int) : Int := Go.IntKind.i64.wrap n
def b1 (l : Li) : By := l.flatMap num
def rl : Li → List (Int × Nat)
 | [] => []
 | x :: r => match rl r with
  | [] => [(x, 1)]
  | p :: t => if x = p.1 then (x, p.2 + 1) :: t else (x, 1) :: p :: t
def enP (p : Int × Nat) : By := num p.1 ++ num p.2
def b2 (l : Li) : By := (rl l).flatMap enP
def st : Int → Li → By
 | _, [] => []
 | p, x :: r => num (w64 (x - p)) ++ st x r
def b3 (l : Li) : By := st 0 l
def ins (d : Li) (x : Int) : Li :=
 match d with
 | [] => [x]
 | y :: r => if y < x then y :: ins r x else if y = x then y :: r else x :: y :: r
def ds (l : Li) : Li := l.foldl ins []
def idx : Li → Int → Nat
 | [], _ => 0
 | y :: r, x => if y = x then 0 else idx r x + 1
def b4 (l : Li) : By := num (ds l).length ++ b1 (ds l) ++ l.flatMap fun x => num (idx (ds l) x)
def wid : Nat → Nat → Nat
 | 0, _ => 0
 | f + 1, u => if u = 0 then 0 else wid f (u / 2) + 1
def dif (lo x : Int) : Nat := (x - lo).toNat
def bitA (lo : Int) (w : Nat) (l : Li) (p : Nat) : Bool := (dif lo (l.getD (p / w) 0)).testBit (p % w)
def byA (bit : Nat → Bool) (p j : Nat) : Nat → Nat
 | 0 => 0
 | t + 1 => byA bit p j t + (if 8 * j + t < p ∧ bit (8 * j + t) = true then 2 ^ t else 0)
def pk (bit : Nat → Bool) (n p : Nat) : By := (List.range n).map fun j => UInt8.ofNat (byA bit p j 8)
def lo (l : Li) : Int := (ds l).headD 0
def hi (l : Li) : Int := (ds l).getLastD 0
def wd (l : Li) : Nat := wid 64 (dif (lo l) (hi l))
def sz5 (n w : Nat) : Nat := (n * w + 7) / 8
def b5 (l : Li) : By := num (lo l) ++ num (wd l) ++ pk (bitA (lo l) (wd l) l) (sz5 l.length (wd l)) (l.length * wd l)
def bd : Nat → Li → By
 | 1, l => b1 l
 | 2, l => b2 l
 | 3, l => b3 l
 | 4, l => b4 l
 | _, l => b5 l
def en (k : Nat) (l : Li) : By := num k ++ num l.length ++ bd k l
def sh (a b : By) : By := if b.length < a.length then b else a
def best (l : Li) : Nat → By
 | 0 => en 1 l
 | k + 1 => sh (best l k) (en (k + 2) l)
def ints (l : Li) : By := if l = [] then num 1 ++ num 0 else best l 4
example : ints [7, 7, 7, 7] = [4, 8, 14, 8] := by decide
example : ints [] = [2, 0] := by decide
def SS (d : Li) : Prop := d.Pairwise (· < ·)
theorem ins_mem (d : Li) (x y : Int) : y ∈ ins d x ↔ y ∈ d ∨ y = x := by
 induction d with
 | nil => simp [ins]
 | cons z r ih =>
  unfold ins
  split
  ·simp only [List.mem_cons, ih, or_assoc]
  ·split
   ·rename_i e; subst e; simp only [List.mem_cons]; constructor
    ·intro h; exact .inl h
    ·rintro (h | rfl)
     ·exact h
     ·exact .inl rfl
   ·simp only [List.mem_cons]; constructor
    ·rintro (h | h | h)
     ·exact .inr h
     ·exact .inl (.inl h)
     ·exact .inl (.inr h)
    ·rintro ((h | h) | h)
     ·exact .inr (.inl h)
     ·exact .inr (.inr h)
     ·exact .inl h
theorem ins_ss {d : Li} {x : Int} (h : SS d) : SS (ins d x) := by
 induction d with
 | nil => simp [ins, SS]
 | cons z r ih =>
  have h1 := List.pairwise_cons.1 h
  unfold ins
  split
  ·rename_i hz
   refine List.pairwise_cons.2 ⟨fun a ha => ?_, ih h1.2⟩
   rcases (ins_mem r x a).1 ha with h2 | h2
   ·exact h1.1 a h2
   ·omega
  ·split
   ·exact h
   ·refine List.pairwise_cons.2 ⟨fun a ha => ?_, h⟩
    rcases List.mem_cons.1 ha with h2 | h2
    ·omega
    ·have := h1.1 a h2; omega
theorem ds_fold (l : Li) : ∀ d, SS d → SS (l.foldl ins d) ∧ ∀ y, y ∈ l.foldl ins d ↔ y ∈ d ∨ y ∈ l := by
 induction l with
 | nil => intro d h; simp [h]
 | cons x r ih =>
  intro d h
  have := ih (ins d x) (ins_ss h)
  refine ⟨this.1, fun y => ?_⟩
  rw [List.foldl_cons, this.2 y, ins_mem, List.mem_cons, or_assoc]
theorem ds_ss (l : Li) : SS (ds l) := (ds_fold l [] List.Pairwise.nil).1
theorem ds_mem (l : Li) (y : Int) : y ∈ ds l ↔ y ∈ l := by rw [ds, (ds_fold l [] List.Pairwise.nil).2 y]; simp
theorem ins_len (d : Li) (x : Int) : (ins d x).length ≤ d.length + 1 := by
 induction d with
 | nil => simp [ins]
 | cons y r ih =>
  unfold ins
  split
  ·simp only [List.length_cons]; omega
  ·split <;> simp
theorem ds_len (l : Li) : (ds l).length ≤ l.length := by
 have : ∀ (l d : Li), (l.foldl ins d).length ≤ d.length + l.length := by
  intro l
  induction l with
  | nil => intro d; simp
  | cons x r ih => intro d; have h1 := ih (ins d x); have h2 := ins_len d x; simp only [List.foldl_cons, List.length_cons]; omega
 have := this l []
 simpa [ds] using this
theorem idx_lt {d : Li} {x : Int} (h : x ∈ d) : idx d x < d.length ∧ d[idx d x]? = some x := by
 induction d with
 | nil => cases h
 | cons y r ih =>
  unfold idx
  by_cases e : y = x
  ·rw [if_pos e]; simp [e]
  ·rw [if_neg e]
   have := ih (by rcases List.mem_cons.1 h with h | h; exact absurd h.symm e; exact h)
   simp only [List.length_cons, List.getElem?_cons_succ]
   exact ⟨by omega, this.2⟩
theorem lo_le {l : Li} {x : Int} (h : x ∈ l) : lo l ≤ x ∧ lo l ∈ l := by
 have hm := (ds_mem l x).2 h
 have hs := ds_ss l
 have hb := fun y => (ds_mem l y)
 unfold lo
 cases hd : ds l with
 | nil => rw [hd] at hm; cases hm
 | cons y r =>
  rw [hd] at hm hs
  have h1 := List.pairwise_cons.1 hs
  refine ⟨?_, (hb y).1 (by rw [hd]; exact List.mem_cons_self)⟩
  show y ≤ x
  rcases List.mem_cons.1 hm with e | e
  ·omega
  ·have := h1.1 x e; omega
theorem last_ge {d : Li} (hs : SS d) {x : Int} (h : x ∈ d) : x ≤ d.getLastD 0 ∧ d.getLastD 0 ∈ d := by
 induction d generalizing x with
 | nil => cases h
 | cons y r ih =>
  have h1 := List.pairwise_cons.1 hs
  cases r with
  | nil => simp at h ⊢; omega
  | cons z s =>
   have e : (y :: z :: s).getLastD 0 = (z :: s).getLastD 0 := by simp [List.getLastD]
   rw [e]
   have hz := ih h1.2 (x := z) List.mem_cons_self
   rcases List.mem_cons.1 h with h2 | h2
   ·have := h1.1 z List.mem_cons_self
    exact ⟨by omega, List.mem_cons_of_mem _ hz.2⟩
   ·have := ih h1.2 h2
    exact ⟨this.1, List.mem_cons_of_mem _ this.2⟩
theorem hi_ge {l : Li} {x : Int} (h : x ∈ l) : x ≤ hi l ∧ hi l ∈ l := by
 have := last_ge (ds_ss l) ((ds_mem l x).2 h)
 exact ⟨this.1, (ds_mem l _).1 this.2⟩
theorem wid_spec : ∀ (f u : Nat), u < 2 ^ f → u < 2 ^ wid f u ∧ wid f u ≤ f := by
 intro f
 induction f with
 | zero => intro u h; simp [wid] at h ⊢; omega
 | succ f ih =>
  intro u h
  unfold wid
  split
  ·simp [*]
  ·have := ih (u / 2) (by rw [Nat.pow_succ] at h; omega)
   refine ⟨?_, by omega⟩
   rw [Nat.pow_succ]
   omega
theorem wid_min : ∀ (f u k : Nat), u < 2 ^ k → wid f u ≤ k := by
 intro f
 induction f with
 | zero => intro u k _; simp [wid]
 | succ f ih =>
  intro u k h
  unfold wid
  split
  ·omega
  ·cases k with
   | zero => simp at h; omega
   | succ k => have := ih (u / 2) k (by rw [Nat.pow_succ] at h; omega); omega
theorem byA_lt (bit : Nat → Bool) (p j : Nat) : ∀ t, byA bit p j t < 2 ^ t := by
 intro t
 induction t with
 | zero => simp [byA]
 | succ t ih => unfold byA; rw [Nat.pow_succ]; split <;> omega
theorem byA_bit (bit : Nat → Bool) (p j : Nat) : ∀ t s, s < t → (byA bit p j t).testBit s = (decide (8 * j + s < p) && bit (8 * j + s)) := by
 intro t
 induction t with
 | zero => intro s h; omega
 | succ t ih =>
  intro s hs
  unfold byA
  have hl := byA_lt bit p j t
  have key : ∀ c : Nat, c ≤ 1 → (byA bit p j t + c * 2 ^ t).testBit s = if s < t then (byA bit p j t).testBit s else decide (c = 1) := by
   intro c hc
   rw [Nat.add_comm, Nat.mul_comm, Nat.testBit_two_pow_mul_add c hl]
   split
   ·rfl
   ·have : s - t = 0 := by omega
    rw [this]
    have : c = 0 ∨ c = 1 := by omega
    rcases this with rfl | rfl <;> rfl
  by_cases hb : 8 * j + t < p ∧ bit (8 * j + t) = true
  ·rw [if_pos hb]
   have := key 1 (Nat.le_refl _)
   rw [Nat.one_mul] at this
   rw [this]
   split
   ·exact ih s (by assumption)
   ·have e : s = t := by omega
    subst e
    simp [hb.1, hb.2]
  ·rw [if_neg hb]
   have := key 0 (Nat.zero_le _)
   rw [Nat.zero_mul] at this
   rw [this]
   split
   ·exact ih s (by assumption)
   ·have e : s = t := by omega
    subst e
    by_cases h1 : 8 * j + s < p
    ·have : bit (8 * j + s) = false := by
      cases hbb : bit (8 * j + s) with
      | false => rfl
      | true => exact absurd ⟨h1, hbb⟩ hb
     simp [this]
    ·simp [h1]
theorem pk_len (bit : Nat → Bool) (n p : Nat) : (pk bit n p).length = n := by simp [pk]
theorem w64_of (n : Int) : w64 n = (n + 9223372036854775808) % 18446744073709551616 - 9223372036854775808 := by
 have e : Go.IntKind.i64.bits = 64 := rfl
 have s : Go.IntKind.i64.signed = true := rfl
 simp only [w64, Go.IntKind.wrap, e, s, Bool.true_and, decide_eq_true_eq]
 split <;> omega
theorem w64_id {n : Int} (h : I64 n) : w64 n = n := by rw [w64_of]; unfold I64 at h; omega
def Pr (b : By) (n : Nat) (body : Li → By) (Q : Li → By → Prop) : Prop := ∀ l0 r, AllI l0 → l0.length = n → b = body l0 ++ r → Q l0 r
theorem Pr.mono {b : By} {n : Nat} {body : Li → By} {Q Q' : Li → By → Prop} (h : Pr b n body Q) (k : ∀ l0 r, AllI l0 → l0.length = n → Q l0 r → Q' l0 r) : Pr b n body Q' :=
 fun l0 r h1 h2 h3 => k l0 r h1 h2 (h l0 r h1 h2 h3)
theorem Pr.start (b : By) (n : Nat) (body : Li → By) : Pr b n body fun l0 r => b = body l0 ++ r := fun _ _ _ _ h => h
theorem rd1 {y : Int} {z b : By} {e : Int} (hy : I64 y) (he : e = 0) (h : b = num y ++ z) : (rnT b e).1 = y ∧ (rnT b e).2.2 = 0 ∧ b.drop (rnT b e).2.1 = z := by
 subst he; subst h
 rw [rnT_num hy]
 exact ⟨rfl, rfl, List.drop_left⟩
theorem AllI.at {l : Li} {i : Nat} {x : Int} (h : AllI l) (e : l[i]? = some x) : I64 x := h x (List.mem_of_getElem? e)
theorem AllI.app {l m : Li} (h : AllI l) (hm : AllI m) : AllI (l ++ m) := fun y hy => (List.mem_append.1 hy).elim (h y) (hm y)
theorem AllI.nil : AllI [] := fun _ h => absurd h (by simp)
def Q1 (b' : By) (out : Li) (e : Int) (l0 : Li) (r : By) : Prop := e = 0 ∧ ∃ rest, l0 = out ++ rest ∧ b' = b1 rest ++ r
theorem Q1.start {b : By} {l0 : Li} {r : By} (h : b = b1 l0 ++ r) : Q1 b [] 0 l0 r := ⟨rfl, l0, rfl, h⟩
theorem Q1.step {b' : By} {out : Li} {e : Int} {l0 : Li} {r : By} (ha : AllI l0) (hlt : out.length < l0.length) (h : Q1 b' out e l0 r) :
  Q1 (b'.drop (rnT b' e).2.1) (out ++ [(rnT b' e).1]) (rnT b' e).2.2 l0 r := by
 obtain ⟨he, rest, h1, h2⟩ := h
 cases rest with
 | nil => rw [h1] at hlt; simp at hlt
 | cons y rest =>
  have hy : I64 y := ha y (by rw [h1]; simp)
  have := rd1 (b := b') (z := b1 rest ++ r) hy he (by rw [h2]; simp [b1])
  rw [this.1, this.2.1, this.2.2]
  exact ⟨rfl, rest, by rw [h1]; simp, rfl⟩
theorem Q1.fin {b' : By} {out : Li} {e : Int} {l0 : Li} {r : By} (hlen : e = 0 → out.length = l0.length) (h : Q1 b' out e l0 r) : e = 0 ∧ out = l0 ∧ b' = r := by
 obtain ⟨he, rest, h1, h2⟩ := h
 have := hlen he
 have hr : rest = [] := by
  rw [h1, List.length_append] at this
  exact List.eq_nil_of_length_eq_zero (by omega)
 subst hr
 exact ⟨he, by rw [h1]; simp, by rw [h2]; simp [b1]⟩
def sm : Int → Li → Li
 | _, [] => []
 | p, y :: r => w64 (p + y) :: sm (w64 (p + y)) r
theorem rl_split (l : Li) (h : l ≠ []) : ∃ y m t, l = List.replicate (m + 1) y ++ t ∧ rl l = (y, m + 1) :: rl t := by
 induction l with
 | nil => exact absurd rfl h
 | cons x r ih =>
  by_cases hr : r = []
  ·subst hr; exact ⟨x, 0, [], rfl, rfl⟩
  ·obtain ⟨y, m, t, h1, h2⟩ := ih hr
   by_cases e : x = y
   ·subst e
    refine ⟨x, m + 1, t, ?_, ?_⟩
    ·rw [h1, List.replicate_succ (n := m + 1)]; rfl
    ·simp only [rl, h2]; simp
   ·refine ⟨x, 0, r, rfl, ?_⟩
    simp only [rl, h2]
    rw [if_neg e]
def Q2 (b' : By) (out : Li) (e : Int) (l0 : Li) (r : By) : Prop := e = 0 ∧ ∃ rest, l0 = out ++ rest ∧ b' = b2 rest ++ r
theorem Q2.start {b : By} {l0 : Li} {r : By} (h : b = b2 l0 ++ r) : Q2 b [] 0 l0 r := ⟨rfl, l0, rfl, h⟩
theorem Q2.step {b' : By} {out : Li} {e : Int} {l0 : Li} {r : By} (ha : AllI l0) (hl : l0.length ≤ 9223372036854775807) (hlt : out.length < l0.length) (h : Q2 b' out e l0 r) :
  ∃ m : Nat, (rnT (b'.drop (rnT b' e).2.1) (rnT b' e).2.2).2.2 = 0 ∧ (rnT (b'.drop (rnT b' e).2.1) (rnT b' e).2.2).1 = ((m + 1 : Nat) : Int) ∧ m + 1 + out.length ≤ l0.length ∧
   Q2 ((b'.drop (rnT b' e).2.1).drop (rnT (b'.drop (rnT b' e).2.1) (rnT b' e).2.2).2.1) (out ++ List.replicate (m + 1) (rnT b' e).1) 0 l0 r := by
 obtain ⟨he, rest, h1, h2⟩ := h
 have hne : rest ≠ [] := by rintro rfl; rw [h1] at hlt; simp at hlt
 obtain ⟨y, m, t, h3, h4⟩ := rl_split rest hne
 have hy : I64 y := ha y (by rw [h1, h3]; simp)
 have hlen : m + 1 + out.length ≤ l0.length := by rw [h1, h3]; simp; omega
 have r1 := rd1 (b := b') (z := num ((m + 1 : Nat) : Int) ++ (b2 t ++ r)) hy he (by rw [h2, b2, h4]; simp [enP, b2])
 rw [r1.1, r1.2.1, r1.2.2]
 have r2 := rd1 (e := 0) (i64_nat (by omega : m + 1 ≤ 9223372036854775807)) rfl (rfl : num ((m + 1 : Nat) : Int) ++ (b2 t ++ r) = _)
 refine ⟨m, r2.2.1, r2.1, hlen, ?_⟩
 rw [r2.2.2]
 exact ⟨rfl, t, by rw [h1, h3]; simp, rfl⟩
theorem Q2.fin {b' : By} {out : Li} {e : Int} {l0 : Li} {r : By} (hlen : out.length = l0.length) (h : Q2 b' out e l0 r) : out = l0 ∧ b' = r := by
 obtain ⟨_, rest, h1, h2⟩ := h
 have hr : rest = [] := by
  rw [h1, List.length_append] at hlen
  exact List.eq_nil_of_length_eq_zero (by omega)
 subst hr
 exact ⟨by rw [h1]; simp, by rw [h2]; simp [b2, rl]⟩
def ixs (d l : Li) : By := l.flatMap fun x => num (idx d x)
def Q4k (k : Int) (b' : By) (keys : Li) (e : Int) (l0 : Li) (r : By) : Prop := k = (ds l0).length ∧ Q1 b' keys e (ds l0) (ixs (ds l0) l0 ++ r)
theorem Q4k.start {b : By} {n : Nat} (hn : n ≤ 512) {most em : Int} (hm : (n : Int) ≤ most) : Pr b n b4 fun l0 r => (cnT b 0 most em).2.2 = 0 ∧ Q4k (cnT b 0 most em).1 (b.drop (cnT b 0 most em).2.1) [] (cnT b 0 most em).2.2 l0 r := fun l0 r _ hl h => by
 have hd := ds_len l0
 have r1 := rd1 (b := b) (z := b1 (ds l0) ++ (ixs (ds l0) l0 ++ r)) (e := 0) (i64_nat (by omega : (ds l0).length ≤ 9223372036854775807)) rfl (by rw [h]; simp [b4, ixs])
 have e1 : (cnT b 0 most em).2.2 = 0 := by
  simp only [cnT]
  rw [r1.1, r1.2.1, if_pos rfl, if_neg (by omega), if_neg (by omega)]
 have e2 : (cnT b 0 most em).1 = (ds l0).length := by
  have : (cnT b 0 most em).1 = if (cnT b 0 most em).2.2 = 0 then (rnT b 0).1 else 0 := rfl
  rw [this, if_pos e1, r1.1]
 have e3 : (cnT b 0 most em).2.1 = (rnT b 0).2.1 := rfl
 refine ⟨e1, ?_⟩
 rw [e2, e1, e3, r1.2.2]
 exact ⟨rfl, Q1.start rfl⟩
def Q4 (keys : Li) (b' : By) (out : Li) (e : Int) (l0 : Li) (r : By) : Prop := keys = ds l0 ∧ e = 0 ∧ ∃ rest, l0 = out ++ rest ∧ b' = ixs (ds l0) rest ++ r
theorem Q4.start {k : Int} {b' : By} {keys : Li} {e : Int} {l0 : Li} {r : By} (hlen : e = 0 → (keys.length : Int) = k) (h : Q4k k b' keys e l0 r) : Q4 keys b' [] e l0 r := by
 obtain ⟨h1, h2⟩ := h
 have := h2.fin fun he => by have := hlen he; omega
 exact ⟨this.2.1, this.1, l0, rfl, this.2.2⟩
theorem Q4.step {keys : Li} {b' : By} {out : Li} {e : Int} {l0 : Li} {r : By} (hl : l0.length ≤ 512) (hlt : out.length < l0.length) (h : Q4 keys b' out e l0 r) :
  ∃ (i : Nat) (x : Int), (rnT b' e).2.2 = 0 ∧ (rnT b' e).1 = (i : Int) ∧ keys[i]? = some x ∧ Q4 keys (b'.drop (rnT b' e).2.1) (out ++ [x]) 0 l0 r := by
 obtain ⟨hk, he, rest, h1, h2⟩ := h
 cases rest with
 | nil => rw [h1] at hlt; simp at hlt
 | cons y rest =>
  have hm : y ∈ ds l0 := (ds_mem l0 y).2 (by rw [h1]; simp)
  have hi := idx_lt hm
  have hd := ds_len l0
  have r1 := rd1 (b := b') (z := ixs (ds l0) rest ++ r) (i64_nat (by omega : idx (ds l0) y ≤ 9223372036854775807)) he (by rw [h2]; simp [ixs])
  refine ⟨idx (ds l0) y, y, r1.2.1, r1.1, by rw [hk]; exact hi.2, hk, rfl, rest, by rw [h1]; simp, r1.2.2⟩
theorem Q4.fin {keys : Li} {b' : By} {out : Li} {e : Int} {l0 : Li} {r : By} (hlen : out.length = l0.length) (h : Q4 keys b' out e l0 r) : out = l0 ∧ b' = r := by
 obtain ⟨_, _, rest, h1, h2⟩ := h
 have hr : rest = [] := by
  rw [h1, List.length_append] at hlen
  exact List.eq_nil_of_length_eq_zero (by omega)
 subst hr
 exact ⟨by rw [h1]; simp, by rw [h2]; simp [ixs]⟩
def Q5 (least : Int) (w : Nat) (b' : By) (l0 : Li) (r : By) : Prop := least = lo l0 ∧ w = wd l0 ∧ b' = pk (bitA (lo l0) (wd l0) l0) (sz5 l0.length (wd l0)) (l0.length * wd l0) ++ r
theorem dif_lt {l : Li} (h : AllI l) {x : Int} (hx : x ∈ l) : dif (lo l) x < 2 ^ wd l := by
 have h1 := lo_le hx
 have h2 := hi_ge hx
 have h3 := h _ h1.2
 have h4 := h _ h2.2
 unfold I64 at h3 h4
 have h5 := (wid_spec 64 (dif (lo l) (hi l)) (by unfold dif; omega)).1
 refine Nat.lt_of_le_of_lt ?_ h5
 unfold dif; omega
theorem Q5.bit {least : Int} {w : Nat} {b' : By} {l0 : Li} {r : By} (h : Q5 least w b' l0 r) {i k : Nat} (hi : i < l0.length) (hk : k < w) :
  ∃ c, b'[(i * w + k) / 8]? = some c ∧ c.toNat.testBit ((i * w + k) % 8) = (dif least (l0.getD i 0)).testBit k := by
 obtain ⟨h1, h2, h3⟩ := h
 subst h2
 have hw : 0 < wd l0 := by omega
 have hat : i * wd l0 + k < l0.length * wd l0 := by
  have := Nat.mul_le_mul_right (wd l0) (show i + 1 ≤ l0.length from hi)
  rw [Nat.add_mul, Nat.one_mul] at this; omega
 have h8 : (i * wd l0 + k) / 8 < sz5 l0.length (wd l0) := by unfold sz5; omega
 refine ⟨UInt8.ofNat (byA (bitA (lo l0) (wd l0) l0) (l0.length * wd l0) ((i * wd l0 + k) / 8) 8), by rw [h3, List.getElem?_append_left (by rw [pk_len]; exact h8)]; simp only [pk, List.getElem?_map, List.getElem?_range h8, Option.map_some], ?_⟩
 have hlt := byA_lt (bitA (lo l0) (wd l0) l0) (l0.length * wd l0) ((i * wd l0 + k) / 8) 8
 rw [toNat_ofNat (by omega), byA_bit _ _ _ _ _ (by omega)]
 have e : 8 * ((i * wd l0 + k) / 8) + (i * wd l0 + k) % 8 = i * wd l0 + k := by omega
 rw [e, decide_eq_true hat, Bool.true_and, h1]
 unfold bitA
 have e1 : (i * wd l0 + k) / wd l0 = i := by rw [Nat.mul_comm, Nat.mul_add_div hw, Nat.div_eq_of_lt hk, Nat.add_zero]
 have e2 : (i * wd l0 + k) % wd l0 = k := by rw [Nat.mul_comm, Nat.mul_add_mod, Nat.mod_eq_of_lt hk]
 rw [e1, e2]
theorem Q5.val {least : Int} {w : Nat} {b' : By} {l0 : Li} {r : By} (h : Q5 least w b' l0 r) (ha : AllI l0) {i : Nat} {x : Int} (hx : l0[i]? = some x) : w64 (least + (dif least (l0.getD i 0) % 2 ^ w : Nat)) = x := by
 obtain ⟨h1, h2, _⟩ := h
 have hm := List.mem_of_getElem? hx
 have e : l0.getD i 0 = x := by rw [List.getD_eq_getElem?_getD, hx]; rfl
 have h3 := dif_lt ha hm
 have h4 := lo_le hm
 rw [e, h1, h2, Nat.mod_eq_of_lt h3]
 have : lo l0 + (dif (lo l0) x : Nat) = x := by unfold dif; omega
 rw [this]
 exact w64_id (ha x hm)
theorem Q5.size {least : Int} {w : Nat} {b' : By} {l0 : Li} {r : By} (h : Q5 least w b' l0 r) : sz5 l0.length w ≤ b'.length := by
 obtain ⟨_, h2, h3⟩ := h
 rw [h3, h2, List.length_append, pk_len]; omega
section
open Go.RowKit Go.Proofs
structure Sc where
 num : Int
 unit : Int
 range : Int
structure Wg where
 ver : Int
 c : Int
 t : Int
def scF (s : Sc) : List FV := [iF s.num, iF s.unit, iF s.range]
abbrev scL (l : List Sc) : AV := .lst 3 (l.map scF)
def wgF (w : Wg) : List FV := [iF w.ver, iF w.c, iF w.t]
abbrev wgL (l : List Wg) : AV := .lst 3 (l.map wgF)
def cls (n : Int) : Nat := wid 64 n.toNat
def flr (a b : Int) : Int := if a.tmod b < 0 then a.tdiv b - 1 else a.tdiv b
def sumV (l : List Sm) : Int := l.foldl (fun a s => a + s.value) 0
def selA (arm : Int) (q : List Sm) : List Sm := q.filter fun x => decide (x.x.arm = arm)
def selC (arm : Int) (c : Nat) (q : List Sm) : List Sm := q.filter fun x => decide (x.x.arm = arm) && decide (cls x.before = c)
def mean (l : List Sm) : Int := flr (sumV l) l.length
def preS (q : List Sm) (before arm cap : Int) : Int :=
 if 0 < (selC arm (cls before) q).length then mean (selC arm (cls before) q)
 else if 0 < (selA arm q).length then mean (selA arm q) else flr cap 2
def okW (n : Int) : Prop := 1 ≤ n ∧ n ≤ 10000
instance (n : Int) : Decidable (okW n) := by unfold okW; infer_instance
def okV (cap : Int) (l : List Sm) : Prop := ∀ x ∈ l, 0 ≤ x.value ∧ x.value ≤ cap
instance (cap : Int) (l : List Sm) : Decidable (okV cap l) := by unfold okV; infer_instance
def preA (adj : Bool) (q : List Sm) (before arm cap : Int) : Int := if adj = true then preS q before arm cap else 0
def ofC (q : List Sm) (x : Sm) (w : Wg) (cap : Int) : Prop := (x.x.arm = 1 ∨ x.x.arm = 2) ∧ okW w.c ∧ okW w.t ∧ (1 ≤ cap ∧ cap ≤ 1048576) ∧ okV cap (q ++ [x])
instance (q : List Sm) (x : Sm) (w : Wg) (cap : Int) : Decidable (ofC q x w cap) := by unfold ofC; infer_instance
def ofS (q : List Sm) (x : Sm) (w : Wg) (cap : Int) (adj : Bool) : Sc :=
 ⟨if x.x.arm = 1 then w.c * w.t * (preA adj q x.before 2 cap - preA adj q x.before 1 cap) - (w.c + w.t) * w.t * (x.value - preA adj q x.before 1 cap)
  else w.c * w.t * (preA adj q x.before 2 cap - preA adj q x.before 1 cap) + (w.c + w.t) * w.c * (x.value - preA adj q x.before 2 cap),
  w.c * w.t * cap, cap * (2 * (w.c * w.t) + (w.c + w.t) * max w.c w.t)⟩
def ofO (q : List Sm) (x : Sm) (w : Wg) (cap : Int) (adj : Bool) : Option Sc := if ofC q x w cap then some (ofS q x w cap adj) else none
def fndW (w : List Wg) (v : Int) : Option Wg := w.find? fun x => decide (x.ver = v)
def oneS (w : List Wg) (cap : Int) (adj : Bool) (q : List Sm) (x : Sm) : List Sc :=
 match fndW w x.x.ver with
 | none => []
 | some v => (ofO q x v cap adj).toList
def allR (w : List Wg) (cap : Int) (adj : Bool) : List Sm → List Sm → List Sc
 | _, [] => []
 | q, x :: r => oneS w cap adj q x ++ allR w cap adj (q ++ [x]) r
def allS (s : List Sm) (w : List Wg) (cap : Int) (adj : Bool) : List Sc := allR w cap adj [] s
theorem allR_drop {s : List Sm} {w : List Wg} {cap : Int} {adj : Bool} {i : Nat} (h : i < s.length) : allR w cap adj (s.take i) (s.drop i) = oneS w cap adj (s.take i) s[i] ++ allR w cap adj (s.take (i + 1)) (s.drop (i + 1)) := by
 rw [List.drop_eq_getElem_cons h, List.take_succ_eq_append_getElem h]
 rfl
theorem allR_len (w : List Wg) (cap : Int) (adj : Bool) : ∀ (r q : List Sm), (allR w cap adj q r).length ≤ r.length := by
 intro r
 induction r with
 | nil => intro q; exact Nat.zero_le _
 | cons x r ih =>
  intro q
  have h1 := ih (q ++ [x])
  have h2 : (oneS w cap adj q x).length ≤ 1 := by
   unfold oneS
   split
   ·exact Nat.zero_le _
   ·rename_i v _
    cases ofO q x v cap adj <;> simp
  simp only [allR, List.length_append, List.length_cons]
  omega
theorem allS_len (s : List Sm) (w : List Wg) (cap : Int) (adj : Bool) : (allS s w cap adj).length ≤ s.length := allR_len w cap adj s []
def okS (s : Sc) : Prop := 1 ≤ s.unit ∧ s.unit ≤ s.range ∧ s.range ≤ 562949953421312 ∧ s.unit - s.range ≤ s.num ∧ s.num ≤ s.range - s.unit
instance (s : Sc) : Decidable (okS s) := by unfold okS; infer_instance
def okE (e : Int) : Prop := -1000 ≤ e ∧ e ≤ 1000
instance (e : Int) : Decidable (okE e) := by unfold okE; infer_instance
def gain (s : Sc) (e bet : Int) : Int := bet * (s.num * 1000 - s.unit * e)
def fctN (s : Sc) (e bet : Int) (up : Bool) : Int :=
 if okS s ∧ okE e then (if up = true then 8 * s.range * 1000 + gain s e bet else 8 * s.range * 1000 - gain s e bet) else 1
def fctD (s : Sc) (e : Int) : Int := if okS s ∧ okE e then 8 * s.range * 1000 else 1
def dvC (yn1 yn0 un : Nat) : Nat → Nat → Nat → Nat
 | 0, q, _ => q
 | f + 1, q, r => if 4294967296 ≤ q ∨ 4294967296 * r + un < q * yn0 then (if 4294967296 ≤ r + yn1 then q - 1 else dvC yn1 yn0 un f (q - 1) (r + yn1)) else q
def dvQ (yn1 yn0 u un : Nat) : Nat := dvC yn1 yn0 un 4294967296 (u / yn1) (u % yn1)
def dvR (u un q y : Nat) : Nat := ((u * 4294967296 + un) % 18446744073709551616 + 18446744073709551616 - q * y % 18446744073709551616) % 18446744073709551616
def dvS (y : Nat) : Nat := 64 - wid 64 y
def dvY (y : Nat) : Nat := y * 2 ^ dvS y % 18446744073709551616
def dvU (hi lo y : Nat) : Nat := hi * 2 ^ dvS y % 18446744073709551616 ||| lo / 2 ^ (64 - dvS y)
def dvL (lo y : Nat) : Nat := lo * 2 ^ dvS y % 18446744073709551616
def dvA (hi lo y : Nat) : Nat := dvQ (dvY y / 4294967296) (dvY y % 4294967296) (dvU hi lo y) (dvL lo y / 4294967296)
def dvV (hi lo y : Nat) : Nat := dvR (dvU hi lo y) (dvL lo y / 4294967296) (dvA hi lo y) (dvY y)
def dvB (hi lo y : Nat) : Nat := dvQ (dvY y / 4294967296) (dvY y % 4294967296) (dvV hi lo y) (dvL lo y % 4294967296)
def divQ (hi lo y : Nat) : Nat := if hi = 0 then lo / y else (dvA hi lo y * 4294967296 + dvB hi lo y) % 18446744073709551616
def divR (hi lo y : Nat) : Nat := if hi = 0 then lo % y else dvR (dvV hi lo y) (dvL lo y % 4294967296) (dvB hi lo y) (dvY y) / 2 ^ dvS y
def grw (w num den : Int) : Int :=
 if w < 0 ∨ 2305843009213693952 < w ∨ den < 1 ∨ 4611686018427387904 < den ∨ num < 0 then 0
 else if den.toNat ≤ w.toNat * num.toNat / 18446744073709551616 then 2305843009213693952
 else ((min (divQ (w.toNat * num.toNat / 18446744073709551616) (w.toNat * num.toNat % 18446744073709551616) den.toNat) 2305843009213693952 : Nat) : Int)
theorem grw_rng (w num den : Int) : 0 ≤ grw w num den ∧ grw w num den ≤ 2305843009213693952 := by
 unfold grw
 split
 ·omega
 split
 ·omega
 ·generalize divQ _ _ _ = q
  omega
structure WS where
 a : Int
 b : Int
 c : Int
 out : List Int
def wsN (e : Int) (up : Bool) (x : WS) (s : Sc) : WS :=
 let a := grw x.a (fctN s e 1 up) (fctD s e)
 let b := grw x.b (fctN s e 2 up) (fctD s e)
 let c := grw x.c (fctN s e 4 up) (fctD s e)
 ⟨a, b, c, x.out ++ [(a + b + c).tdiv 3]⟩
def ws0 : WS := ⟨4294967296, 4294967296, 4294967296, []⟩
def wsP (e : Int) (up : Bool) (l : List Sc) : WS := l.foldl (wsN e up) ws0
def pthS (l : List Sc) (e : Int) (up : Bool) : List Int := (wsP e up l).out
theorem wsP_take {e : Int} {up : Bool} {l : List Sc} {i : Nat} (h : i < l.length) : wsP e up (l.take (i + 1)) = wsN e up (wsP e up (l.take i)) l[i] := by
 unfold wsP; rw [List.take_succ_eq_append_getElem h, List.foldl_append]; rfl
structure WOk (x : WS) (n : Nat) : Prop where
 a : 0 ≤ x.a ∧ x.a ≤ 2305843009213693952
 b : 0 ≤ x.b ∧ x.b ≤ 2305843009213693952
 c : 0 ≤ x.c ∧ x.c ≤ 2305843009213693952
 len : x.out.length = n
theorem ws0_ok : WOk ws0 0 := ⟨by decide, by decide, by decide, rfl⟩
theorem wsN_ok {e : Int} {up : Bool} {x : WS} {n : Nat} (h : WOk x n) (s : Sc) : WOk (wsN e up x s) (n + 1) := ⟨grw_rng _ _ _, grw_rng _ _ _, grw_rng _ _ _, by unfold wsN; simp [h.len]⟩
theorem wsP_ok (e : Int) (up : Bool) (l : List Sc) : WOk (wsP e up l) l.length := by
 have h : ∀ i, i ≤ l.length → WOk (wsP e up (l.take i)) i := by
  intro i
  induction i with
  | zero => intro _; exact ws0_ok
  | succ i ih => intro hi; rw [wsP_take (by omega)]; exact wsN_ok (ih (by omega)) _
 have := h l.length (Nat.le_refl _)
 rwa [List.take_length] at this
theorem pthS_len (l : List Sc) (e : Int) (up : Bool) : (pthS l e up).length = l.length := (wsP_ok e up l).len
def thr (level sides : Int) : Int :=
 if level < 1 ∨ 999 < level ∨ sides < 1 ∨ 1000 < sides then 2305843009213693953 else (sides * 1000 * 4294967296 + level - 1).tdiv level
def fstT : List Int → Int → Nat → Nat
 | [], _, _ => 0
 | w :: r, t, i => if t ≤ w then i + 1 else fstT r t (i + 1)
def fst1 (l : List Int) (t : Int) : Nat := fstT l t 0
theorem fstT_le : ∀ (l : List Int) (t : Int) (i : Nat), fstT l t i ≤ i + l.length := by
 intro l
 induction l with
 | nil => intro t i; exact Nat.zero_le _
 | cons w r ih =>
  intro t i
  have := ih t (i + 1)
  unfold fstT
  split
  ·simp only [List.length_cons]; omega
  ·simp only [List.length_cons]; omega
theorem fst1_le (l : List Int) (t : Int) : fst1 l t ≤ l.length := by have := fstT_le l t 0; unfold fst1; omega
theorem fstT_drop {l : List Int} {t : Int} {i : Nat} (h : i < l.length) : fstT (l.drop i) t i = if t ≤ l[i] then i + 1 else fstT (l.drop (i + 1)) t (i + 1) := by
 rw [List.drop_eq_getElem_cons h]; rfl
def excS (l : List Sc) (e level : Int) (up : Bool) : Bool := decide (0 < fst1 (pthS l e up) (thr level 2))
def srch (p : Nat → Bool) : Nat → Nat → Nat → Nat
 | 0, i, _ => i
 | f + 1, i, j => if i < j then (if p ((i + j) / 2) = true then srch p f ((i + j) / 2 + 1) j else srch p f i ((i + j) / 2)) else i
def lowS (l : List Sc) (level : Int) : Int := (srch (fun h => excS l ((h : Int) - 1000) level true) 2001 0 2001 : Nat) - 1000
def uppS (l : List Sc) (level : Int) : Int := 1000 - (srch (fun h => excS l (1000 - (h : Int)) level false) 2001 0 2001 : Nat)
theorem srch_rng {p : Nat → Bool} : ∀ (f i j : Nat), i ≤ j → i ≤ srch p f i j ∧ srch p f i j ≤ j := by
 intro f
 induction f with
 | zero => intro i j h; exact ⟨Nat.le_refl _, h⟩
 | succ f ih =>
  intro i j h
  unfold srch
  split
  ·split
   ·have := ih ((i + j) / 2 + 1) j (by omega); omega
   ·have := ih i ((i + j) / 2) (by omega); omega
  ·omega
structure BS where
 w : Int
 C : Int → Int × Int
 out : List Int
def okB (w a b c t arm : Int) : Prop := (0 ≤ w ∧ w ≤ 2305843009213693952) ∧ (0 ≤ a ∧ a ≤ 512) ∧ (0 ≤ b ∧ b ≤ 512) ∧ okW c ∧ okW t ∧ (arm = 1 ∨ arm = 2)
instance (w a b c t arm : Int) : Decidable (okB w a b c t arm) := by unfold okB; infer_instance
def stpW (w a b c t arm : Int) : Int :=
 if okB w a b c t arm then (if arm = 1 then grw w ((a + 1) * (c + t)) ((a + b + 2) * c) else grw w ((b + 1) * (c + t)) ((a + b + 2) * t)) else w
def stpC (w a b c t arm : Int) : Int × Int :=
 if okB w a b c t arm then (if arm = 1 then (a + 1, b) else (a, b + 1)) else (a, b)
def cntW (w : List Wg) (x : Ex) : Option Wg :=
 if x.arm = 1 ∨ x.arm = 2 then (match fndW w x.ver with
  | some v => if okW v.c ∧ okW v.t then some v else none
  | none => none) else none
def bsN (w : List Wg) (s : BS) (x : Ex) : BS :=
 match cntW w x with
 | none => s
 | some v =>
  let c := s.C x.ver
  let n := stpW s.w c.1 c.2 v.c v.t x.arm
  let d := stpC s.w c.1 c.2 v.c v.t x.arm
  ⟨n, fun k => if k = x.ver then d else s.C k, s.out ++ [n]⟩
def bs0 : BS := ⟨4294967296, fun _ => (0, 0), []⟩
def bsP (w : List Wg) (x : List Ex) : BS := x.foldl (bsN w) bs0
def balS (x : List Ex) (w : List Wg) : List Int := (bsP w x).out
theorem bsP_take {w : List Wg} {x : List Ex} {i : Nat} (h : i < x.length) : bsP w (x.take (i + 1)) = bsN w (bsP w (x.take i)) x[i] := by
 unfold bsP; rw [List.take_succ_eq_append_getElem h, List.foldl_append]; rfl
def alrS (x : List Ex) (w : List Wg) (level : Int) : Nat := fst1 (balS x w) (thr level 1)
end
attribute [local irreducible] loadVar storeVar Instr.indexAt Instr.index Instr.sliceAt Instr.makeSlice Instr.lookup Instr.mapUpdate Instr.range Instr.next Instr.entry Instr.makeMap Builtin.append_ Builtin.copy_ Builtin.len_ Builtin.min_ Builtin.max_ Builtin.cap_ Builtin.delete_ Builtin.clear_ convert binOp eqGuard Op.unary Calls
section
open Go.RowKit Go.Proofs
abbrev sv (s : ByteArray) : AV := .v (.string s)
def lkF (k : Lk) : List FV := [.v (.string k.a), .v (.string k.b), .v (.int .i64 k.t)]
abbrev lksA (l : List Lk) : AV := .lst 3 (l.map lkF)
def mF (F : ByteArray → Option ByteArray) : ABlk := .map fun k => (F k).map Value.string
section
variable {G : Glob}
theorem frootA {F : ByteArray → Option ByteArray} {R : ByteArray → ByteArray} {d : ByteArray → Nat} (hf : Fo F R d) (id : ByteArray) : AFn Tryz.prog G 124 [.mp 0, sv id] 1 [(0, mF F)] (fun a n H => a = sv (R id) ∧ n = 1 ∧ H = [(0, mF F)]) := by
 refine afn_of Tryz.func124 rfl mixed (by kernel_rfl) ?_
 conv=>whnf
 refine aloop ws124_1 1 [1] (fun c : ByteArray => [(1, sv c)]) (fun _ => [(0, mF F)]) (fun c => R c = R id) d [] [] id (by kernel_rfl) (fun _ => rfl) rfl rfl (by trivial) (by trivial) ?_
 intro c hc
 conv=>whnf
 refine ⟨?_⟩
 cases hF : F c with
 | none =>
  have e : R id = c := by rw [← hc]; exact hf.top c hF
  simp only [hF, Option.map_none, Option.getD_none, Option.isSome_none]
  conv=>whnf
  exact aend (sv (R id)) 1 [(0, mF F)] [] [] ⟨rfl, rfl, rfl⟩ rfl (by trivial) (by rw [e]; trivial)
 | some c' =>
  simp only [hF, Option.map_some, Option.getD_some, Option.isSome_some]
  conv=>whnf
  exact aback c' [] [] rfl (hf.step c c' hF).2 ((hf.step c c' hF).1.trans hc) (by trivial) (by trivial)
theorem fjoinA {F : ByteArray → Option ByteArray} {R : ByteArray → ByteArray} {d : ByteArray → Nat} (hf : Fo F R d) (x y : ByteArray) : AFn Tryz.prog G 122 [.mp 0, sv x, sv y] 1 [(0, mF F)] (fun a n H => ∃ F' d', a = bv (!decide (R x = R y)) ∧ n = 1 ∧ H = [(0, mF F')] ∧ Fo F' (jn R x y) d') := by
 refine afn_of Tryz.func122 rfl mixed (by kernel_rfl) ?_
 conv=>whnf
 refine acallM [0] [] (by kernel_rfl) (frootA hf x) rfl (by trivial) (by trivial) ?_
 rintro _ _ _ ⟨rfl, rfl, rfl⟩
 refine ⟨rfl, ?_⟩
 conv=>whnf
 refine acallM [0] [] (by kernel_rfl) (frootA hf y) rfl (by trivial) (by trivial) ?_
 rintro _ _ _ ⟨rfl, rfl, rfl⟩
 refine ⟨rfl, ?_⟩
 conv=>whnf
 apply vif_split <;> intro h
 ·have h : R x = R y := (sEq_iff _ _).1 h
  conv=>whnf
  exact aend (bv false) 1 [(0, mF F)] [] [] ⟨F, d, by simp [h], rfl, rfl, by rw [jn_eq h]; exact hf⟩ rfl (by trivial) (by trivial)
 ·have h : R x ≠ R y := fun e => by rw [(sEq_iff _ _).2 e] at h; cases h
  conv=>whnf
  refine aend (bv true) 1 [(0, mF fun k => if k = smax (R x) (R y) then some (smin (R x) (R y)) else F k)] [] [] ⟨_, _, by simp [h], rfl, rfl, hf.join h⟩ rfl ⟨?_, trivial⟩ (by trivial)
  show (fun k' => if k' = smax (R x) (R y) then some (Value.string (smin (R x) (R y))) else (F k').map Value.string) = fun k => (if k = smax (R x) (R y) then some (smin (R x) (R y)) else F k).map Value.string
  funext k
  split <;> rfl
structure FX where
 i : Nat
 F : ByteArray → Option ByteArray
 d : ByteArray → Nat
theorem iofA (ls : List Lk) (hl : ls.length ≤ 1000000) : AFn Tryz.prog G 123 [lksA ls] 0 [] (fun a n H => ∃ F d, a = .mp 0 ∧ n = 1 ∧ H = [(0, mF F)] ∧ Fo F (rt ls) d) := by
 refine afn_of Tryz.func123 rfl mixed (by kernel_rfl) ?_
 conv=>whnf
 refine aloop ws123_1 1 [9] (fun x : FX => [(9, iv x.i)]) (fun x => [(0, mF x.F)]) (fun x => x.i ≤ ls.length ∧ Fo x.F (rt (ls.take x.i)) x.d) (fun x => ls.length - x.i) [] [] ⟨0, fun _ => none, fun _ => 0⟩ (by kernel_rfl) (fun _ => rfl) rfl ⟨Nat.zero_le _, Fo.nil⟩ (by trivial) (by trivial) ?_
 rintro ⟨i, F, d⟩ ⟨hi, hf⟩
 change i ≤ ls.length at hi
 change Fo F (rt (ls.take i)) d at hf
 conv=>whnf
 apply vif_split <;> intro h
 ·have hlt : i < ls.length := by simp at h; omega
  conv=>whnf
  refine AIn.mk' i rfl (lmZ hlt) ?_
  conv=>whnf
  refine ARd.mapAt (List.getElem?_eq_getElem hlt) ?_
  conv=>whnf
  refine acallM [0] [] (by kernel_rfl) (fjoinA hf ls[i].a ls[i].b) rfl (by trivial) (by trivial) ?_
  rintro _ _ _ ⟨F', d', rfl, rfl, rfl, hf'⟩
  refine ⟨rfl, ?_⟩
  conv=>whnf
  refine AAr.i64 (by dsimp only; omega) ?_
  conv=>whnf
  exact aback ⟨i + 1, F', d'⟩ [] [] rfl (by show ls.length - (i + 1) < ls.length - i; omega) ⟨hlt, by show Fo F' (rt (ls.take (i + 1))) d'; rw [List.take_succ_eq_append_getElem hlt, rt_snoc]; exact hf'⟩ (by trivial) (by trivial)
 ·have hie : i = ls.length := by simp at h; omega
  subst hie
  rw [List.take_length] at hf
  conv=>whnf
  exact aend (.mp 0) 1 [(0, mF F)] [(0, .lab 0)] [] ⟨F, d, rfl, rfl, rfl, hf⟩ rfl (by trivial) (by trivial)
theorem forestA (ls : List Lk) (hl : ls.length ≤ 1000000) : AFn Tryz.prog G 105 [lksA ls] 0 [] (Own1 135 3 ((frs ls).map lkF)) := by
 refine afn_of Tryz.func105 rfl mixed (by kernel_rfl) ?_
 conv=>whnf
 refine aloop ws105_1 2 [3, 10] (fun x : FX => [(3, .own 1), (10, iv x.i)]) (fun x => [(1, .rows 135 3 ((frs (ls.take x.i)).map lkF)), (0, mF x.F)]) (fun x => x.i ≤ ls.length ∧ Fo x.F (rt (ls.take x.i)) x.d) (fun x => ls.length - x.i) [(1, .nil)] [] ⟨0, fun _ => none, fun _ => 0⟩ (by kernel_rfl) (fun _ => rfl) rfl ⟨Nat.zero_le _, Fo.nil⟩ (by trivial) (by trivial) ?_
 rintro ⟨i, F, d⟩ ⟨hi, hf⟩
 change i ≤ ls.length at hi
 change Fo F (rt (ls.take i)) d at hf
 have hfl := frs_len (ls.take i)
 rw [List.length_take] at hfl
 conv=>whnf
 apply vif_split <;> intro h
 ·have hlt : i < ls.length := by simp at h; omega
  have hsn : ls.take (i + 1) = ls.take i ++ [ls[i]] := List.take_succ_eq_append_getElem hlt
  have hfs := frs_snoc (ls.take i) ls[i]
  rw [← hsn, frs_rt] at hfs
  conv=>whnf
  refine AIn.mk' i rfl (lmZ hlt) ?_
  conv=>whnf
  refine ARd.mapAt (List.getElem?_eq_getElem hlt) ?_
  conv=>whnf
  refine acallM [0] [] (by kernel_rfl) (fjoinA hf ls[i].a ls[i].b) rfl (by trivial) (by trivial) ?_
  rintro _ _ _ ⟨F', d', rfl, rfl, rfl, hf'⟩
  refine ⟨rfl, ?_⟩
  have hf2 : Fo F' (rt (ls.take (i + 1))) d' := by rw [hsn, rt_snoc]; exact hf'
  conv=>whnf
  apply vif_split <;> intro h
  ·rw [if_neg (by simpa using h)] at hfs
   conv=>whnf
   refine VReq.mk (app_ok (by simp only [List.length_map, List.length_cons, List.length_nil]; omega) (by kernel_rfl)) ?_
   conv=>whnf
   refine AAr.i64 (by dsimp only; omega) ?_
   conv=>whnf
   refine aback ⟨i + 1, F', d'⟩ [(1, .lab 4)] [] rfl (by show ls.length - (i + 1) < ls.length - i; omega) ⟨hlt, hf2⟩ ⟨⟨rfl, rfl, ?_⟩, (by trivial), trivial⟩ (by trivial)
   show _ = (frs (ls.take (i + 1))).map lkF
   rw [hfs, List.map_append]
   rfl
  ·rw [if_pos (by simpa using h)] at hfs
   conv=>whnf
   refine AAr.i64 (by dsimp only; omega) ?_
   conv=>whnf
   refine aback ⟨i + 1, F', d'⟩ [(1, .lab 1)] [] rfl (by show ls.length - (i + 1) < ls.length - i; omega) ⟨hlt, hf2⟩ ⟨⟨rfl, rfl, ?_⟩, (by trivial), trivial⟩ (by trivial)
   show _ = (frs (ls.take (i + 1))).map lkF
   rw [hfs]
 ·have hie : i = ls.length := by simp at h; omega
  subst hie
  rw [List.take_length]
  conv=>whnf
  exact aend (.own 0) 1 _ [(0, .lab 1)] [] ⟨rfl, rfl, rfl⟩ rfl (by trivial) (by trivial)
end
end
end Go.Proofs.YtgfgndaoocfpdaaGreatDoor.Cl
