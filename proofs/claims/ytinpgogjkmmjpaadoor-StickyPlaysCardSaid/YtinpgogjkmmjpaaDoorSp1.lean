/- The plain meaning of a register's slots, and the walk of sticky.slot. Conditions: the library's table of spaces holds what it was laid with. -/
import Derived.Test.YtinpgogjkmmjpaaDoorId4
import Derived.Test.YtinpgogjkmmjpaaDoorFd2
namespace Go.Proofs.YtinpgogjkmmjpaaDoor.Sp
open Go Go.RowKit Go.Proofs.YtinpgogjkmmjpaaDoor.Vc Go.Proofs.YtinpgogjkmmjpaaDoor.Ky Go.Proofs.YtinpgogjkmmjpaaDoor.Id
attribute [local irreducible] loadVar storeVar Instr.indexAt Instr.index Instr.sliceAt Instr.makeSlice Instr.lookup Instr.mapUpdate Instr.range Instr.next Instr.entry Instr.makeMap Builtin.append_ Builtin.copy_ Builtin.len_ Builtin.min_ Builtin.max_ Builtin.cap_ Builtin.delete_ Builtin.clear_ convert binOp eqGuard Op.unary Calls

structure Rg where
  now : Int
  links : List Lk
  slots : List Sl
  deriving DecidableEq
/-- a register, by value -/
structure RegV (w : World) (r : Rg) (v : Value) : Prop where
  ex : ∃ oa ca ob cb, v = .agg #[.int .i64 r.now, .slice oa r.links.length ca, .slice ob r.slots.length cb] ∧ r.links.length ≤ ca ∧ (oa = none → ca = 0) ∧ Row w oa (recs lkc r.links) ∧ r.slots.length ≤ cb ∧ (ob = none → cb = 0) ∧ Row w ob (recs slc r.slots)
theorem RegV.below {w w' : World} {r : Rg} {v : Value} (h : RegV w r v) (hB : Below w.heap.size w w') : RegV w' r v :=
  let ⟨oa, ca, ob, cb, e, a, b, c, d, f, g⟩ := h.ex; ⟨oa, ca, ob, cb, e, a, b, c.below hB, d, f, g.below hB⟩

def slotA (now : Int) (s : Sl) : Prop := 1 ≤ s.arm ∧ s.arm ≤ 8 ∧ 0 ≤ s.from_ ∧ s.from_ ≤ now ∧ ((s.fin = 0 ∧ s.to_ = 0) ∨ ((s.fin = 1 ∨ s.fin = 2) ∧ s.from_ ≤ s.to_ ∧ s.to_ ≤ now))
instance (now : Int) (s : Sl) : Decidable (slotA now s) := by unfold slotA; exact inferInstance
def slotB (now : Int) (s : Sl) : Bool := keyB s.id && keyB s.layer && keyB s.exp && decide (slotA now s)

set_option maxHeartbeats 1000000 in
set_option maxRecDepth 100000 in
theorem slot1_ok (r : Rg) (rv : Value) (s : Sl) (w : World) (hA : Asc w) (hr : RegV w r rv) (hl1 : s.id.size ≤ 1099511627776) (hl2 : s.layer.size ≤ 1099511627776) (hl3 : s.exp.size ≤ 1099511627776) :
    Ret Tryd.prog 44 #[rv, .agg (slc s).toArray] w fun v w' => v = .bool (slotB r.now s) ∧ Below w.heap.size w w' := by
  obtain ⟨oa, ca, ob, cb, rfl, _, _, _, _, _, _⟩ := hr.ex
  have hsB : slotB r.now s = (keyB s.id && keyB s.layer && keyB s.exp && decide (slotA r.now s)) := rfl
  obtain ⟨sb, hsb⟩ : ∃ b, b = slotB r.now s := ⟨_, rfl⟩
  rw [← hsb] at hsB ⊢
  obtain ⟨k1, hk1⟩ : ∃ b, b = keyB s.id := ⟨_, rfl⟩
  obtain ⟨k2, hk2⟩ : ∃ b, b = keyB s.layer := ⟨_, rfl⟩
  obtain ⟨k3, hk3⟩ : ∃ b, b = keyB s.exp := ⟨_, rfl⟩
  rw [← hk1, ← hk2, ← hk3] at hsB
  refine ret_of_vc Tryd.func44 rfl mixed (by kernel_rfl) ?_
  conv => whnf
  obtain ⟨w1, hw1⟩ : ∃ u, u = (w.alloc (.cells #[.int .i64 r.now, .slice oa r.links.length ca, .slice ob r.slots.length cb] 27)).alloc (.cells (slc s).toArray 43) := ⟨_, rfl⟩
  have hB1 : Below w.heap.size w w1 := by rw [hw1]; exact balloc (balloc (Below.refl _ _) (Nat.le_refl _) _) (Nat.le_refl _) _
  have hbR : Blk w1 w.heap.size [.int .i64 r.now, .slice oa r.links.length ca, .slice ob r.slots.length cb] 27 := by rw [hw1]; exact (Blk.new w _ _).alloc _
  have hbS : Blk w1 (w.alloc (.cells #[.int .i64 r.now, .slice oa r.links.length ca, .slice ob r.slots.length cb] 27)).heap.size (slc s) 43 := by rw [hw1]; exact Blk.new _ _ _
  obtain ⟨bs, hbs⟩ : ∃ b, b = (w.alloc (.cells #[.int .i64 r.now, .slice oa r.links.length ca, .slice ob r.slots.length cb] 27)).heap.size := ⟨_, rfl⟩
  rw [← hbs] at hbS
  rw [← hw1, ← hbs]
  have hne : w.heap.size < bs := by rw [hbs]; simp
  have hA1 := hA.below hB1
  clear hw1 hbs
  refine vs_loadB rfl hbS rfl ?_
  conv => whnf
  refine vcall (by kernel_rfl) (key1_ok s.id w1 hA1 hl1) ?_
  rintro _ w2 ⟨rfl, hB2⟩
  rw [← hk1]
  have hbR2 := hbR.below hB2 hbR.lt
  have hbS2 := hbS.below hB2 hbS.lt
  have hA2 := hA1.below hB2
  have hB2' := hB1.trans (hB2.mono hB1.size)
  clear hbR hbS hA1 hB1 hB2
  conv => whnf
  refine vif_split (fun h => ?_) (fun h => ?_)
  · have : sb = false := by rw [hsB]; cases k1 <;> simp_all
    subst this
    conv => whnf
    exact VEnd.mk ⟨rfl, hB2'⟩
  have hk1t : k1 = true := by cases k1 <;> simp_all
  conv => whnf
  refine vs_loadB rfl hbS2 rfl ?_
  conv => whnf
  refine vcall (by kernel_rfl) (key1_ok s.layer w2 hA2 hl2) ?_
  rintro _ w3 ⟨rfl, hB3⟩
  rw [← hk2]
  have hbR3 := hbR2.below hB3 hbR2.lt
  have hbS3 := hbS2.below hB3 hbS2.lt
  have hA3 := hA2.below hB3
  have hB3' := hB2'.trans (hB3.mono hB2'.size)
  clear hbR2 hbS2 hA2 hB2' hB3
  conv => whnf
  refine vif_split (fun h => ?_) (fun h => ?_)
  · have : sb = false := by rw [hsB]; cases k2 <;> simp_all
    subst this
    conv => whnf
    exact VEnd.mk ⟨rfl, hB3'⟩
  have hk2t : k2 = true := by cases k2 <;> simp_all
  conv => whnf
  refine vs_loadB rfl hbS3 rfl ?_
  conv => whnf
  refine vcall (by kernel_rfl) (key1_ok s.exp w3 hA3 hl3) ?_
  rintro _ w4 ⟨rfl, hB4⟩
  rw [← hk3]
  have hbR4 := hbR3.below hB4 hbR3.lt
  have hbS4 := hbS3.below hB4 hbS3.lt
  have hB4' := hB3'.trans (hB4.mono hB3'.size)
  clear hbR3 hbS3 hA3 hB3' hB4
  conv => whnf
  refine vif_split (fun h => ?_) (fun h => ?_)
  · have : sb = false := by rw [hsB]; cases k3 <;> simp_all
    subst this
    conv => whnf
    exact VEnd.mk ⟨rfl, hB4'⟩
  have hk3t : k3 = true := by cases k3 <;> simp_all
  have hsb2 : sb = decide (slotA r.now s) := by rw [hsB, hk1t, hk2t, hk3t]; rfl
  have hsA : slotA r.now s ↔ 1 ≤ s.arm ∧ s.arm ≤ 8 ∧ 0 ≤ s.from_ ∧ s.from_ ≤ r.now ∧ ((s.fin = 0 ∧ s.to_ = 0) ∨ ((s.fin = 1 ∨ s.fin = 2) ∧ s.from_ ≤ s.to_ ∧ s.to_ ≤ r.now)) := Iff.rfl
  have yes : (1 ≤ s.arm ∧ s.arm ≤ 8 ∧ 0 ≤ s.from_ ∧ s.from_ ≤ r.now ∧ ((s.fin = 0 ∧ s.to_ = 0) ∨ ((s.fin = 1 ∨ s.fin = 2) ∧ s.from_ ≤ s.to_ ∧ s.to_ ≤ r.now))) → true = sb := fun h => by rw [hsb2]; exact (decide_eq_true (hsA.2 h)).symm
  have no : ¬ (1 ≤ s.arm ∧ s.arm ≤ 8 ∧ 0 ≤ s.from_ ∧ s.from_ ≤ r.now ∧ ((s.fin = 0 ∧ s.to_ = 0) ∨ ((s.fin = 1 ∨ s.fin = 2) ∧ s.from_ ≤ s.to_ ∧ s.to_ ≤ r.now))) → false = sb := fun h => by rw [hsb2]; exact (decide_eq_false fun x => h (hsA.1 x)).symm
  clear hsA hsb2 hsB hk1 hk2 hk3 hsb hA hr
  conv => whnf
  (repeat' (first | (refine vif_split (fun h => ?_) (fun h => ?_) <;> (conv => whnf)) | (refine vs_loadB rfl hbS4 rfl ?_; (conv => whnf)) | (refine vs_loadB rfl hbR4 rfl ?_; (conv => whnf))))
  all_goals first
    | exact VEnd.mk ⟨congrArg Value.bool (no (by (try simp only [cond_true, cond_false, Bool.not_eq_true', Bool.not_eq_false', decide_eq_true_eq, decide_eq_false_iff_not, beq_iff_eq, bne_iff_ne, beq_eq_false_iff_ne, bne_eq_false_iff_eq, ne_eq, Bool.not_eq_eq_eq_not, Bool.not_true, Bool.not_false, Bool.false_eq_true, Bool.true_eq_false] at *) <;> omega)), hB4'⟩
    | (refine VEnd.mk ⟨congrArg Value.bool ?_, hB4'⟩
       by_cases hP : (1 ≤ s.arm ∧ s.arm ≤ 8 ∧ 0 ≤ s.from_ ∧ s.from_ ≤ r.now ∧ ((s.fin = 0 ∧ s.to_ = 0) ∨ ((s.fin = 1 ∨ s.fin = 2) ∧ s.from_ ≤ s.to_ ∧ s.to_ ≤ r.now)))
       · rw [← yes hP]; clear yes no; exact (by (try simp only [cond_true, cond_false, Bool.not_eq_true', Bool.not_eq_false', decide_eq_true_eq, decide_eq_false_iff_not, beq_iff_eq, bne_iff_ne, beq_eq_false_iff_ne, bne_eq_false_iff_eq, ne_eq, Bool.not_eq_eq_eq_not, Bool.not_true, Bool.not_false, Bool.false_eq_true, Bool.true_eq_false] at *) <;> omega)
       · rw [← no hP]; clear yes no; exact (by (try simp only [cond_true, cond_false, Bool.not_eq_true', Bool.not_eq_false', decide_eq_true_eq, decide_eq_false_iff_not, beq_iff_eq, bne_iff_ne, beq_eq_false_iff_ne, bne_eq_false_iff_eq, ne_eq, Bool.not_eq_eq_eq_not, Bool.not_true, Bool.not_false, Bool.false_eq_true, Bool.true_eq_false] at *) <;> omega))
end Go.Proofs.YtinpgogjkmmjpaaDoor.Sp
