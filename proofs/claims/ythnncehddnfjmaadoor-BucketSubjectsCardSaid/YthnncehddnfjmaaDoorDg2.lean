/- The walks of digest.Sum, of the program. Conditions: the slice reads as the bytes l, fewer than 2^62. -/
import Derived.Test.YthnncehddnfjmaaDoorDg1
set_option linter.unusedVariables false
set_option linter.unusedSimpArgs false
namespace Go.Proofs.YthnncehddnfjmaaDoor.Dg
open Go Go.RowKit Go.Proofs.YthnncehddnfjmaaDoor.Vc
attribute [local irreducible] loadVar storeVar Instr.indexAt Instr.index Instr.sliceAt Instr.makeSlice Instr.lookup Instr.mapUpdate Instr.range Instr.next Instr.entry Instr.makeMap Builtin.append_ Builtin.copy_ Builtin.len_ Builtin.min_ Builtin.max_ Builtin.cap_ Builtin.delete_ Builtin.clear_ convert binOp eqGuard Op.unary Calls

def S4.word (s : S4) (m : Int) : S4 :=
  let t := S4.rounds ⟨s.a, s.b, s.c, xor s.d m⟩ 2
  ⟨xor t.a m, t.b, t.c, t.d⟩
set_option maxRecDepth 100000 in
theorem word_ok (b : Nat) (T : TypeId) (m : Int) (s : S4) (w : World) (hb : Blk w b s.cells T) :
    Ret Tryd.prog 66 #[.pointer (some ⟨b, 0, none⟩), .int .u64 m] w fun _ w' => ∃ t, t = s.word m ∧ Only b w w' ∧ Blk w' b t.cells T := by
  refine ret_of_vc Tryd.func66 rfl mixed (by kernel_rfl) ?_
  conv => whnf
  (refine vdrawAt plan66 (by kernel_rfl) ?_; conv => whnf)
  repeat (first | (refine VReq.mk (by first | decide | omega) ?_; conv => whnf) | (refine VPend.mk rfl ?_; conv => whnf) | (refine VNext.keep rfl ?_; conv => whnf) | (refine vs_loadB rfl (by assumption) rfl ?_; conv => whnf) | (refine vs_arrL rfl rfl rfl ?_; conv => whnf) | (refine vs_storeB (by assumption) rfl rfl rfl ?_; intro _ _ _; conv => whnf))
  rename_i w1 o1 hb1
  refine vcall (by kernel_rfl) (rounds_ok b T 2 (by decide) ⟨s.a, s.b, s.c, xor s.d m⟩ _ hb1) ?_
  rintro _ w2 ⟨t, ht, o2, hb2⟩
  conv => whnf
  (refine vdrawAt plan66 (by kernel_rfl) ?_; conv => whnf)
  repeat (first | (refine VReq.mk (by first | decide | omega) ?_; conv => whnf) | (refine VPend.mk rfl ?_; conv => whnf) | (refine VNext.keep rfl ?_; conv => whnf) | (refine vs_loadB rfl (by assumption) rfl ?_; conv => whnf) | (refine vs_arrL rfl rfl rfl ?_; conv => whnf) | (refine vs_storeB (by assumption) rfl rfl rfl ?_; intro _ _ _; conv => whnf))
  rename_i w3 o3 hb3
  have he : s.word m = ⟨xor t.a m, t.b, t.c, t.d⟩ := by rw [ht]; rfl
  refine VEnd.mk ⟨⟨xor t.a m, t.b, t.c, t.d⟩, he.symm, ?_, hb3⟩
  exact Only.step o3 ((o1.ofDrew).trans o2)

def orI (x y : Int) : Int := bitsOp .or .u64 x y
def shl8 (b : UInt8) (k : Nat) : Int := IntKind.u64.wrap ((b.toNat : Int) * 2 ^ (8 * k))
def wordTo (l : List UInt8) : Nat → Int
  | 0 => 0
  | n + 1 => orI (wordTo l n) (shl8 (l.getD n 0) n)
def S4.init (k0 k1 : Int) : S4 := ⟨xor k0 8317987319222330741, xor k1 7237128888997146477, xor k0 7816392313619706465, xor k1 8387220255154660723⟩
def S4.upto (k0 k1 : Int) (l : List UInt8) : Nat → S4
  | 0 => .init k0 k1
  | i + 1 => (S4.upto k0 k1 l i).word (wordTo (l.drop (8 * i)) 8)
def lastTo (l : List UInt8) : Nat → Int
  | 0 => IntKind.u64.wrap (IntKind.u64.wrap l.length * 2 ^ 56)
  | n + 1 => orI (lastTo l n) (shl8 (l.getD (l.length - l.length % 8 + n) 0) n)
def S4.done (s : S4) : Int :=
  let t := S4.rounds ⟨s.a, s.b, xor s.c 255, s.d⟩ 4
  xor (xor (xor t.a t.b) t.c) t.d
def sumI (k0 k1 : Int) (l : List UInt8) : Int := ((S4.upto k0 k1 l (l.length / 8)).word (lastTo l (l.length % 8))).done

theorem shl8_eq (x : UInt8) (k : Nat) (hk : k < 8) (n : Int) (hn : n = (8 * k : Nat)) :
    IntKind.u64.wrap (IntKind.u64.wrap (x.toNat : Int) * 2 ^ min n.toNat IntKind.u64.bits) = shl8 x k := by
  subst hn
  have h1 : IntKind.u64.wrap (x.toNat : Int) = x.toNat := IntWalk.u64_in _ (by have := x.toNat_lt; omega)
  have h2 : min ((8 * k : Nat) : Int).toNat IntKind.u64.bits = 8 * k := by simp [IntKind.bits]; omega
  rw [h1, h2]
  rfl
theorem getD_drop (l : List UInt8) (i k : Nat) (h : i + k < l.length) : (l.drop i).getD k 0 = l[i + k] := by
  simp [List.getD_eq_getElem?_getD, List.getElem?_drop, h]
theorem tmod_nat (a b : Nat) : Int.tmod (a : Int) (b : Int) = ((a % b : Nat) : Int) := rfl

set_option maxRecDepth 100000 in
theorem sum_ok (k0 k1 : Int) (oa : Option Addr) (c : Nat) (l : List UInt8) (w : World) (hl : l.length < 4611686018427387904) (hr : Row w oa (bvals l)) :
    Ret Tryd.prog 57 #[.int .u64 k0, .int .u64 k1, .slice oa l.length c] w fun v w' => v = .int .u64 (sumI k0 k1 l) ∧ Below w.heap.size w w' := by
  refine ret_of_vc Tryd.func57 rfl mixed (by kernel_rfl) ?_
  conv => whnf
  refine vs_storeN (Blk.new _ _ _) rfl rfl rfl ?_
  intro w1 o1 hb1
  have hB1 : Below w.heap.size w w1 := ((Below.refl _ _).alloc (Nat.le_refl _) _).trans (o1.below (Nat.le_refl _))
  conv => whnf
  repeat (first | (refine VReq.mk (by first | decide | omega) ?_; conv => whnf) | (refine VPend.mk rfl ?_; conv => whnf) | (refine VNext.keep rfl ?_; conv => whnf) | (refine vs_loadB rfl (by assumption) rfl ?_; conv => whnf) | (refine vs_arrL rfl rfl rfl ?_; conv => whnf) | (refine vs_storeB (by assumption) rfl rfl rfl ?_; intro _ _ _; conv => whnf))
  refine vloop (X := Nat) ws57_1 (fun i => [(9, .int .i64 (8 * i : Nat))]) (fun i w' => 8 * i ≤ l.length ∧ Below w.heap.size w w' ∧ ∃ t, t = S4.upto k0 k1 l i ∧ Blk w' w.heap.size t.cells 105) (fun i => l.length - 8 * i) 0 (by kernel_rfl)
    ?_ ⟨Nat.zero_le _, hB1, _, rfl, hb1⟩ ?_
  · exact ⟨rfl, trivial⟩
  rintro i w2 j ⟨hi, hB2, t, ht, hb2⟩
  conv => whnf
  have e8 : IntKind.i64.wrap ((8 * i : Nat) + 8) = ((8 * i + 8 : Nat) : Int) := by rw [IntWalk.i64_in _ (by omega)]; omega
  refine vif_split (fun hlt => ?_) (fun hge => ?_)
  · have hlt : 8 * i + 8 ≤ l.length := by rw [e8] at hlt; have := of_decide_eq_true hlt; omega
    obtain ⟨b, o, rfl, hbl, hc⟩ := hr.get (by simp; omega)
    conv => whnf
    refine vloop (X := Nat) ws57_2 (fun k => [(10, .int .u64 (wordTo (l.drop (8 * i)) k)), (33, .int .i64 k)]) (fun k w' => k ≤ 8 ∧ w' = w2) (fun k => 8 - k) 0 (by kernel_rfl) ?_ ⟨by omega, rfl⟩ ?_
    · exact ⟨rfl, rfl, trivial⟩
    rintro k _ j2 ⟨hk, rfl⟩
    conv => whnf
    refine vif_split (fun hlt2 => ?_) (fun hge2 => ?_)
    · have hlt2 : k < 8 := by have := of_decide_eq_true hlt2; omega
      conv => whnf
      refine vs_sl1 (8 * i + k) rfl rfl (by rw [IntWalk.i64_in _ (by omega)]; omega) (by omega) ?_
      conv => whnf
      refine vs_load1 rfl (by rw [hB2.cell (p := ⟨b, o + (8 * i + k), none⟩) hbl]; exact hc _ _ (bvals_get (by omega))) ?_
      conv => whnf
      refine VReq.mk (by rw [IntWalk.i64_in _ (by omega)]; omega) ?_
      conv => whnf
      refine VBack.mk ⟨_, ?_, k + 1, rfl, ?_, ?_⟩
      · show 8 - (k + 1) < 8 - k; omega
      · refine ⟨intEq ?_, intEq (incr (by omega)), trivial⟩
        rw [shl8_eq _ k hlt2 _ (by rw [IntWalk.i64_in _ (by omega)]; omega), ← getD_drop l (8 * i) k (by omega)]
        rfl
      · exact ⟨hlt2, rfl⟩
    · have hge2 : ¬ k < 8 := by have := of_decide_eq_false hge2; omega
      obtain rfl : k = 8 := by omega
      conv => whnf
      refine vcall (by kernel_rfl) (word_ok _ _ _ _ _ hb2) ?_
      rintro _ w3 ⟨t3, ht3, o3, hb3⟩
      conv => whnf
      refine VBack.mk ⟨_, ?_, i + 1, rfl, ?_, ?_⟩
      · show l.length - 8 * (i + 1) < l.length - 8 * i; omega
      · exact ⟨intEq (by rw [e8, Nat.mul_add]), trivial⟩
      · refine ⟨by omega, hB2.trans (o3.below (Nat.le_refl _)), t3, ?_, hb3⟩
        rw [ht3, ht]; rfl
  · have hge : ¬ 8 * i + 8 ≤ l.length := by rw [e8] at hge; have := of_decide_eq_false hge; omega
    have hi8 : i = l.length / 8 := by omega
    obtain ⟨r, hr8⟩ : ∃ r, r = l.length % 8 := ⟨_, rfl⟩
    conv => whnf
    repeat (first | (refine VReq.mk (by first | decide | omega) ?_; conv => whnf) | (refine VPend.mk rfl ?_; conv => whnf) | (refine VNext.keep rfl ?_; conv => whnf) | (refine vs_loadB rfl (by assumption) rfl ?_; conv => whnf) | (refine vs_arrL rfl rfl rfl ?_; conv => whnf) | (refine vs_storeB (by assumption) rfl rfl rfl ?_; intro _ _ _; conv => whnf))
    refine vloop (X := Nat) ws57_3 (fun k => [(8, .int .u64 (lastTo l k)), (53, .int .i64 r), (54, .int .i64 k)]) (fun k w' => k ≤ r ∧ w' = w2) (fun k => r - k) 0 (by kernel_rfl) ?_ ⟨by omega, rfl⟩ ?_
    · exact ⟨rfl, intEq (by rw [hr8]; rfl), rfl, trivial⟩
    rintro k _ j2 ⟨hk, rfl⟩
    conv => whnf
    refine vif_split (fun hlt2 => ?_) (fun hge2 => ?_)
    · have hlt2 : k < r := by have := of_decide_eq_true hlt2; omega
      obtain ⟨b, o, rfl, hbl, hc⟩ := hr.get (by simp; omega)
      conv => whnf
      repeat (first | (refine VReq.mk (by first | decide | omega) ?_; conv => whnf) | (refine VPend.mk rfl ?_; conv => whnf) | (refine VNext.keep rfl ?_; conv => whnf) | (refine vs_loadB rfl (by assumption) rfl ?_; conv => whnf) | (refine vs_arrL rfl rfl rfl ?_; conv => whnf) | (refine vs_storeB (by assumption) rfl rfl rfl ?_; intro _ _ _; conv => whnf))
      refine vs_sl1 (l.length - r + k) rfl rfl ?_ (by omega) ?_
      · have e1 : Int.tmod (l.length : Int) 8 = r := by rw [hr8]; rfl
        rw [e1, IntWalk.i64_in ((l.length : Int) - r) (by omega), IntWalk.i64_in _ (by omega)]
        omega
      conv => whnf
      refine vs_load1 rfl (by rw [hB2.cell (p := ⟨b, o + (l.length - r + k), none⟩) hbl]; exact hc _ _ (bvals_get (by omega))) ?_
      conv => whnf
      refine VReq.mk (by rw [IntWalk.i64_in _ (by omega)]; omega) ?_
      conv => whnf
      refine VBack.mk ⟨_, ?_, k + 1, rfl, ?_, ?_⟩
      · show r - (k + 1) < r - k; omega
      · refine ⟨intEq ?_, rfl, intEq (incr (by omega)), trivial⟩
        rw [shl8_eq _ k (by omega) _ (by rw [IntWalk.i64_in _ (by omega)]; omega)]
        have := getD_drop l 0 (l.length - r + k) (by omega)
        simp only [List.drop_zero, Nat.zero_add] at this
        rw [← this, hr8]
        rfl
      · exact ⟨hlt2, rfl⟩
    · have hge2 : ¬ k < r := by have := of_decide_eq_false hge2; omega
      obtain rfl : k = r := by omega
      conv => whnf
      refine vcall (by kernel_rfl) (word_ok _ _ _ _ _ hb2) ?_
      rintro _ w3 ⟨t3, ht3, o3, hb3⟩
      conv => whnf
      repeat (first | (refine VReq.mk (by first | decide | omega) ?_; conv => whnf) | (refine VPend.mk rfl ?_; conv => whnf) | (refine VNext.keep rfl ?_; conv => whnf) | (refine vs_loadB rfl (by assumption) rfl ?_; conv => whnf) | (refine vs_arrL rfl rfl rfl ?_; conv => whnf) | (refine vs_storeB (by assumption) rfl rfl rfl ?_; intro _ _ _; conv => whnf))
      rename_i w4 o4 hb4
      refine vcall (by kernel_rfl) (rounds_ok _ _ 4 (by decide) ⟨t3.a, t3.b, xor t3.c 255, t3.d⟩ _ hb4) ?_
      rintro _ w5 ⟨t5, ht5, o5, hb5⟩
      conv => whnf
      repeat (first | (refine VReq.mk (by first | decide | omega) ?_; conv => whnf) | (refine VPend.mk rfl ?_; conv => whnf) | (refine VNext.keep rfl ?_; conv => whnf) | (refine vs_loadB rfl (by assumption) rfl ?_; conv => whnf) | (refine vs_arrL rfl rfl rfl ?_; conv => whnf) | (refine vs_storeB (by assumption) rfl rfl rfl ?_; intro _ _ _; conv => whnf))
      refine VEnd.mk ⟨?_, ?_⟩
      · have : sumI k0 k1 l = xor (xor (xor t5.a t5.b) t5.c) t5.d := by
          unfold sumI S4.done
          rw [← hi8, ← ht, ← hr8, ← ht3, ← ht5]
        rw [this]
        rfl
      · exact hB2.trans (((o3.trans o4).trans o5).below (Nat.le_refl _))

end Go.Proofs.YthnncehddnfjmaaDoor.Dg
