/- Joined parts of the proof. The walk of the made metric -/
import Derived.Test.YtgfgndaoocfpdaaGreatDoorPk18
import Derived.Test.YtgfgndaoocfpdaaGreatDoorPk19
import Derived.Test.YtgfgndaoocfpdaaGreatDoorPk17
import Derived.Test.YtgfgndaoocfpdaaGreatDoorPk8
import Derived.Test.YtgfgndaoocfpdaaGreatDoorPk2
import Derived.ProofKit
import Derived.OpenShut
import Derived.Stop.Joined
set_option linter.unusedVariables false
set_option linter.unusedSimpArgs false
set_option maxRecDepth 100000
set_option maxHeartbeats 16000000
namespace Go.Proofs.YtgfgndaoocfpdaaGreatDoor.Cl
open Go Go.RowKit Go.Proofs Go.Proofs.YtgfgndaoocfpdaaGreatDoor.Vc Go.Proofs.YtgfgndaoocfpdaaGreatDoor.Ax Go.Proofs.YtgfgndaoocfpdaaGreatDoor.Ky Go.Proofs.YtgfgndaoocfpdaaGreatDoor.Id
attribute [local irreducible] loadVar storeVar Instr.indexAt Instr.index Instr.sliceAt Instr.makeSlice Instr.lookup Instr.mapUpdate Instr.range Instr.next Instr.entry Instr.makeMap Builtin.append_ Builtin.copy_ Builtin.len_ Builtin.min_ Builtin.max_ Builtin.cap_ Builtin.delete_ Builtin.clear_ convert binOp eqGuard Op.unary Calls
structure MtP (m : Mt) : Prop where
 kind : 1 ≤ m.kind ∧ m.kind ≤ 4
 name : m.name ∈ namT
 below : (m.kind = 4 ∧ m.below ∈ namT) ∨ (¬ m.kind = 4 ∧ m.below = [])
 window : 1 ≤ m.window ∧ m.window ≤ 30
 cap : 1 ≤ m.cap ∧ m.cap ≤ 50
 cap3 : m.kind = 3 → m.cap = 1
 least : m.least = -1099511627776 ∨ (-3 ≤ m.least ∧ m.least ≤ 6)
 before : 0 ≤ m.before ∧ m.before ≤ 19
theorem namT_ky : ∀ s ∈ namT, kyM s = true := by
 intro s hs
 simp only [namT, List.mem_cons, List.not_mem_nil, or_false] at hs
 rcases hs with rfl | rfl <;> kernel_rfl
theorem namT_ln : ∀ s ∈ namT, s.length ≤ 1000 := by decide
theorem MtP.ok {m : Mt} (h : MtP m) : mtC m = 0 := by
 obtain ⟨hk, hn, hb, hw, hc, h3, hl, hf⟩ := h
 unfold mtC
 rw [if_neg (by omega), if_neg, if_neg (by omega), if_neg]
 ·rintro (⟨h4, hne⟩ | ⟨h3', hc'⟩)
  ·rcases hb with ⟨h, _⟩ | ⟨_, h⟩
   ·exact h4 h
   ·exact hne h
  ·exact hc' (h3 h3')
 ·rw [namT_ky _ hn]
  rintro (h | ⟨h4, h⟩)
  ·cases h
  ·rcases hb with ⟨_, hb⟩ | ⟨hb, _⟩
   ·rw [namT_ky _ hb] at h; cases h
   ·exact hb h4
theorem MtP.z1 {m : Mt} (h : MtP m) : m.name.length ≤ 140737488355328 := Nat.le_trans (namT_ln _ h.name) (Nat.le_of_ble_eq_true rfl)
theorem MtP.z2 {m : Mt} (h : MtP m) : m.below.length ≤ 140737488355328 := by
 rcases h.below with ⟨_, hb⟩ | ⟨_, hb⟩
 ·exact Nat.le_trans (namT_ln _ hb) (Nat.le_of_ble_eq_true rfl)
 ·rw [hb]; exact Nat.zero_le _
def NxE (L : By) (p n v q : Nat) : Prop := v < n ∧ q ≤ L.length ∧ q ≤ p + 1 ∧ AFn Tryz.prog GS 36 [.ptr 0 0, iv n] 1 [(0, srB L p)] (fun a m H => a = iv v ∧ m = 1 ∧ H = [(0, srB L q)])
theorem nxE {L : By} {p : Nat} (hp : p ≤ L.length) (h : p ≤ 100000) (n : Nat) (hn : 0 < n) (hn2 : n ≤ 256) : ∃ v q, NxE L p n v q := ⟨nxV L p n, nxA L p, nxV_lt L p n hn, nxA_le hp, by unfold nxA; split <;> omega, nextB L p n hn hn2 h hp⟩
def MtO (a : AV) (n : Nat) (H : AHeap) : Prop := ∃ m, MtP m ∧ a = mtA m ∧ n = 0 ∧ H = []
theorem metricDA (L : By) : AFn Tryz.prog GS 29 [bs L] 0 [] MtO := by
 obtain ⟨v1, q1, b1, e1, f1, c1⟩ := nxE (L := L) (p := 0) (Nat.zero_le _) (by omega) 4 (by decide) (by decide)
 obtain ⟨v2, q2, b2, e2, f2, c2⟩ := nxE e1 (by omega) 2 (by decide) (by decide)
 obtain ⟨v3, q3, b3, e3, f3, c3⟩ := nxE e2 (by omega) 30 (by decide) (by decide)
 obtain ⟨v4, q4, b4, e4, f4, c4⟩ := nxE e3 (by omega) 50 (by decide) (by decide)
 refine afn_of Tryz.func29 rfl mixed (by kernel_rfl) ?_
 conv=>whnf
 obtain ⟨nm, hnm, hnb⟩ : ∃ nm, namT[v2]? = some nm ∧ nm ∈ namT := ⟨_, List.getElem?_eq_getElem (show v2 < 2 by omega), List.getElem_mem _⟩
 refine adrawC pln29 [1] [(4, 4), (8, 22)] 3 [(4, .ptr 2 0)] [(0, .var 35 [iv 0, tv [], tv [], iv 0, iv 0, iv 0, iv 0]), (1, srB L q4), (2, .var 35 [iv (1 + (v1 : Int)), tv nm, tv [], iv (1 + (v3 : Int)), iv (1 + (v4 : Int)), iv (-1099511627776), iv 0])] (by kernel_rfl) (by kernel_rfl) ?_ ?_
 ·conv=>whnf
  repeat' (first
   | (refine And.intro ?_ ?_ <;> (conv=>whnf))
   | (refine acallM [1] [] (by kernel_rfl) c1 rfl ?_ ?_ ?_; (focus (trivial; done)); (focus (trivial; done)); rintro _ _ _ ⟨rfl, rfl, rfl⟩; refine ⟨rfl, ?_⟩; conv=>whnf)
   | (refine acallM [1] [] (by kernel_rfl) c2 rfl ?_ ?_ ?_; (focus (trivial; done)); (focus (trivial; done)); rintro _ _ _ ⟨rfl, rfl, rfl⟩; refine ⟨rfl, ?_⟩; conv=>whnf)
   | (refine acallM [1] [] (by kernel_rfl) c3 rfl ?_ ?_ ?_; (focus (trivial; done)); (focus (trivial; done)); rintro _ _ _ ⟨rfl, rfl, rfl⟩; refine ⟨rfl, ?_⟩; conv=>whnf)
   | (refine acallM [1] [] (by kernel_rfl) c4 rfl ?_ ?_ ?_; (focus (trivial; done)); (focus (trivial; done)); rintro _ _ _ ⟨rfl, rfl, rfl⟩; refine ⟨rfl, ?_⟩; conv=>whnf)
   | ((refine acallF [] (by kernel_rfl) (namTA) ?_ ?_; (focus (trivial; done)); rintro _ _ _ ⟨rfl, rfl, rfl⟩; (conv=>whnf)))
   | (refine AIn.mk' v2 rfl (lmZ b2) ?_; conv=>whnf)
   | (refine ARd.mapAt hnm ?_; conv=>whnf)
   | (refine AAr.i64 (by omega) ?_; conv=>whnf))
  all_goals first
   | (refine arbD [(2, .lab 2)] [] ?_ ?_ ?_; (focus rfl); (focus trivial); (focus trivial); done)
   | (refine arbD [(2, .lab 3)] [] ?_ ?_ ?_; (focus rfl); (focus trivial); (focus trivial); done)
 conv=>whnf
 refine vif_split (fun h3 => ?_) (fun h3 => ?_)
 ·have hv : v1 = 2 := by simp at h3; omega
  conv=>whnf
  refine vif_split (fun h4 => ?_) (fun h4 => ?_)
  ·exfalso; simp at h4; omega
  obtain ⟨v5, q5, b5, e5, f5, c5⟩ := nxE e4 (by omega) 3 (by decide) (by decide)
  obtain ⟨v6, q6, b6, e6, f6, c6⟩ := nxE e5 (by omega) 10 (by decide) (by decide)
  conv=>whnf
  refine acallM [1] [] (by kernel_rfl) c5 rfl (by trivial) (by trivial) ?_
  rintro _ _ _ ⟨rfl, rfl, rfl⟩
  refine ⟨rfl, ?_⟩
  conv=>whnf
  refine vif_split (fun h5 => ?_) (fun h5 => ?_)
  ·conv=>whnf
   refine acallM [1] [] (by kernel_rfl) c6 rfl (by trivial) (by trivial) ?_
   rintro _ _ _ ⟨rfl, rfl, rfl⟩
   refine ⟨rfl, ?_⟩
   conv=>whnf
   refine AAr.i64 (by omega) ?_
   obtain ⟨v7, q7, b7, e7, f7, c7⟩ := nxE e6 (by omega) 2 (by decide) (by decide)
   obtain ⟨v8, q8, b8, e8, f8, c8⟩ := nxE e7 (by omega) 20 (by decide) (by decide)
   conv=>whnf
   refine acallM [1] [] (by kernel_rfl) c7 rfl (by trivial) (by trivial) ?_
   rintro _ _ _ ⟨rfl, rfl, rfl⟩
   refine ⟨rfl, ?_⟩
   conv=>whnf
   refine vif_split (fun h7 => ?_) (fun h7 => ?_)
   ·conv=>whnf
    refine acallM [1] [] (by kernel_rfl) c8 rfl (by trivial) (by trivial) ?_
    rintro _ _ _ ⟨rfl, rfl, rfl⟩
    refine ⟨rfl, ?_⟩
    conv=>whnf
    conv=>whnf
    exact aend (mtA ⟨1 + (v1 : Int), nm, [], 1 + (v3 : Int), 1, ((v6 : Int) - 3), (v8 : Int)⟩) 0 [] [] [] ⟨_, ⟨by dsimp only; omega, hnb, (.inr ⟨by dsimp only; omega, rfl⟩), by dsimp only; omega, by dsimp only; omega, (fun _ => rfl), by dsimp only; omega, by dsimp only; omega⟩, rfl, rfl, rfl⟩ rfl trivial (by trivial)
   ·skip
    conv=>whnf
    exact aend (mtA ⟨1 + (v1 : Int), nm, [], 1 + (v3 : Int), 1, ((v6 : Int) - 3), 0⟩) 0 [] [] [] ⟨_, ⟨by dsimp only; omega, hnb, (.inr ⟨by dsimp only; omega, rfl⟩), by dsimp only; omega, by dsimp only; omega, (fun _ => rfl), by dsimp only; omega, by dsimp only; omega⟩, rfl, rfl, rfl⟩ rfl trivial (by trivial)
  ·skip
   obtain ⟨v7, q7, b7, e7, f7, c7⟩ := nxE e5 (by omega) 2 (by decide) (by decide)
   obtain ⟨v8, q8, b8, e8, f8, c8⟩ := nxE e7 (by omega) 20 (by decide) (by decide)
   conv=>whnf
   refine acallM [1] [] (by kernel_rfl) c7 rfl (by trivial) (by trivial) ?_
   rintro _ _ _ ⟨rfl, rfl, rfl⟩
   refine ⟨rfl, ?_⟩
   conv=>whnf
   refine vif_split (fun h7 => ?_) (fun h7 => ?_)
   ·conv=>whnf
    refine acallM [1] [] (by kernel_rfl) c8 rfl (by trivial) (by trivial) ?_
    rintro _ _ _ ⟨rfl, rfl, rfl⟩
    refine ⟨rfl, ?_⟩
    conv=>whnf
    conv=>whnf
    exact aend (mtA ⟨1 + (v1 : Int), nm, [], 1 + (v3 : Int), 1, (-1099511627776), (v8 : Int)⟩) 0 [] [] [] ⟨_, ⟨by dsimp only; omega, hnb, (.inr ⟨by dsimp only; omega, rfl⟩), by dsimp only; omega, by dsimp only; omega, (fun _ => rfl), by dsimp only; omega, by dsimp only; omega⟩, rfl, rfl, rfl⟩ rfl trivial (by trivial)
   ·skip
    conv=>whnf
    exact aend (mtA ⟨1 + (v1 : Int), nm, [], 1 + (v3 : Int), 1, (-1099511627776), 0⟩) 0 [] [] [] ⟨_, ⟨by dsimp only; omega, hnb, (.inr ⟨by dsimp only; omega, rfl⟩), by dsimp only; omega, by dsimp only; omega, (fun _ => rfl), by dsimp only; omega, by dsimp only; omega⟩, rfl, rfl, rfl⟩ rfl trivial (by trivial)
 have hn3 : ¬ (1 + (v1 : Int)) = 3 := by simpa using h3
 conv=>whnf
 refine vif_split (fun h4 => ?_) (fun h4 => ?_)
 ·have hv : v1 = 3 := by simp at h4; omega
  obtain ⟨v9, q9, b9, e9, f9, c9⟩ := nxE e4 (by omega) 2 (by decide) (by decide)
  obtain ⟨nb, hnb2, hnb3⟩ : ∃ nm, namT[v9]? = some nm ∧ nm ∈ namT := ⟨_, List.getElem?_eq_getElem (show v9 < 2 by omega), List.getElem_mem _⟩
  conv=>whnf
  (refine acallF [] (by kernel_rfl) (namTA) ?_ ?_; (focus (trivial; done)); rintro _ _ _ ⟨rfl, rfl, rfl⟩; (conv=>whnf))
  refine acallM [1] [] (by kernel_rfl) c9 rfl (by trivial) (by trivial) ?_
  rintro _ _ _ ⟨rfl, rfl, rfl⟩
  refine ⟨rfl, ?_⟩
  conv=>whnf
  refine AIn.mk' v9 rfl (lmZ b9) ?_
  conv=>whnf
  refine ARd.mapAt hnb2 ?_
  conv=>whnf
  obtain ⟨v5, q5, b5, e5, f5, c5⟩ := nxE e9 (by omega) 3 (by decide) (by decide)
  obtain ⟨v6, q6, b6, e6, f6, c6⟩ := nxE e5 (by omega) 10 (by decide) (by decide)
  conv=>whnf
  refine acallM [1] [] (by kernel_rfl) c5 rfl (by trivial) (by trivial) ?_
  rintro _ _ _ ⟨rfl, rfl, rfl⟩
  refine ⟨rfl, ?_⟩
  conv=>whnf
  refine vif_split (fun h5 => ?_) (fun h5 => ?_)
  ·conv=>whnf
   refine acallM [1] [] (by kernel_rfl) c6 rfl (by trivial) (by trivial) ?_
   rintro _ _ _ ⟨rfl, rfl, rfl⟩
   refine ⟨rfl, ?_⟩
   conv=>whnf
   refine AAr.i64 (by omega) ?_
   obtain ⟨v7, q7, b7, e7, f7, c7⟩ := nxE e6 (by omega) 2 (by decide) (by decide)
   obtain ⟨v8, q8, b8, e8, f8, c8⟩ := nxE e7 (by omega) 20 (by decide) (by decide)
   conv=>whnf
   refine acallM [1] [] (by kernel_rfl) c7 rfl (by trivial) (by trivial) ?_
   rintro _ _ _ ⟨rfl, rfl, rfl⟩
   refine ⟨rfl, ?_⟩
   conv=>whnf
   refine vif_split (fun h7 => ?_) (fun h7 => ?_)
   ·conv=>whnf
    refine acallM [1] [] (by kernel_rfl) c8 rfl (by trivial) (by trivial) ?_
    rintro _ _ _ ⟨rfl, rfl, rfl⟩
    refine ⟨rfl, ?_⟩
    conv=>whnf
    conv=>whnf
    exact aend (mtA ⟨1 + (v1 : Int), nm, nb, 1 + (v3 : Int), (1 + (v4 : Int)), ((v6 : Int) - 3), (v8 : Int)⟩) 0 [] [] [] ⟨_, ⟨by dsimp only; omega, hnb, (.inl ⟨by dsimp only; omega, hnb3⟩), by dsimp only; omega, by dsimp only; omega, (fun h => absurd h hn3), by dsimp only; omega, by dsimp only; omega⟩, rfl, rfl, rfl⟩ rfl trivial (by trivial)
   ·skip
    conv=>whnf
    exact aend (mtA ⟨1 + (v1 : Int), nm, nb, 1 + (v3 : Int), (1 + (v4 : Int)), ((v6 : Int) - 3), 0⟩) 0 [] [] [] ⟨_, ⟨by dsimp only; omega, hnb, (.inl ⟨by dsimp only; omega, hnb3⟩), by dsimp only; omega, by dsimp only; omega, (fun h => absurd h hn3), by dsimp only; omega, by dsimp only; omega⟩, rfl, rfl, rfl⟩ rfl trivial (by trivial)
  ·skip
   obtain ⟨v7, q7, b7, e7, f7, c7⟩ := nxE e5 (by omega) 2 (by decide) (by decide)
   obtain ⟨v8, q8, b8, e8, f8, c8⟩ := nxE e7 (by omega) 20 (by decide) (by decide)
   conv=>whnf
   refine acallM [1] [] (by kernel_rfl) c7 rfl (by trivial) (by trivial) ?_
   rintro _ _ _ ⟨rfl, rfl, rfl⟩
   refine ⟨rfl, ?_⟩
   conv=>whnf
   refine vif_split (fun h7 => ?_) (fun h7 => ?_)
   ·conv=>whnf
    refine acallM [1] [] (by kernel_rfl) c8 rfl (by trivial) (by trivial) ?_
    rintro _ _ _ ⟨rfl, rfl, rfl⟩
    refine ⟨rfl, ?_⟩
    conv=>whnf
    conv=>whnf
    exact aend (mtA ⟨1 + (v1 : Int), nm, nb, 1 + (v3 : Int), (1 + (v4 : Int)), (-1099511627776), (v8 : Int)⟩) 0 [] [] [] ⟨_, ⟨by dsimp only; omega, hnb, (.inl ⟨by dsimp only; omega, hnb3⟩), by dsimp only; omega, by dsimp only; omega, (fun h => absurd h hn3), by dsimp only; omega, by dsimp only; omega⟩, rfl, rfl, rfl⟩ rfl trivial (by trivial)
   ·skip
    conv=>whnf
    exact aend (mtA ⟨1 + (v1 : Int), nm, nb, 1 + (v3 : Int), (1 + (v4 : Int)), (-1099511627776), 0⟩) 0 [] [] [] ⟨_, ⟨by dsimp only; omega, hnb, (.inl ⟨by dsimp only; omega, hnb3⟩), by dsimp only; omega, by dsimp only; omega, (fun h => absurd h hn3), by dsimp only; omega, by dsimp only; omega⟩, rfl, rfl, rfl⟩ rfl trivial (by trivial)
 have hn4 : ¬ (1 + (v1 : Int)) = 4 := by simpa using h4
 conv=>whnf
 obtain ⟨v5, q5, b5, e5, f5, c5⟩ := nxE e4 (by omega) 3 (by decide) (by decide)
 obtain ⟨v6, q6, b6, e6, f6, c6⟩ := nxE e5 (by omega) 10 (by decide) (by decide)
 conv=>whnf
 refine acallM [1] [] (by kernel_rfl) c5 rfl (by trivial) (by trivial) ?_
 rintro _ _ _ ⟨rfl, rfl, rfl⟩
 refine ⟨rfl, ?_⟩
 conv=>whnf
 refine vif_split (fun h5 => ?_) (fun h5 => ?_)
 ·conv=>whnf
  refine acallM [1] [] (by kernel_rfl) c6 rfl (by trivial) (by trivial) ?_
  rintro _ _ _ ⟨rfl, rfl, rfl⟩
  refine ⟨rfl, ?_⟩
  conv=>whnf
  refine AAr.i64 (by omega) ?_
  obtain ⟨v7, q7, b7, e7, f7, c7⟩ := nxE e6 (by omega) 2 (by decide) (by decide)
  obtain ⟨v8, q8, b8, e8, f8, c8⟩ := nxE e7 (by omega) 20 (by decide) (by decide)
  conv=>whnf
  refine acallM [1] [] (by kernel_rfl) c7 rfl (by trivial) (by trivial) ?_
  rintro _ _ _ ⟨rfl, rfl, rfl⟩
  refine ⟨rfl, ?_⟩
  conv=>whnf
  refine vif_split (fun h7 => ?_) (fun h7 => ?_)
  ·conv=>whnf
   refine acallM [1] [] (by kernel_rfl) c8 rfl (by trivial) (by trivial) ?_
   rintro _ _ _ ⟨rfl, rfl, rfl⟩
   refine ⟨rfl, ?_⟩
   conv=>whnf
   conv=>whnf
   exact aend (mtA ⟨1 + (v1 : Int), nm, [], 1 + (v3 : Int), (1 + (v4 : Int)), ((v6 : Int) - 3), (v8 : Int)⟩) 0 [] [] [] ⟨_, ⟨by dsimp only; omega, hnb, (.inr ⟨hn4, rfl⟩), by dsimp only; omega, by dsimp only; omega, (fun h => absurd h hn3), by dsimp only; omega, by dsimp only; omega⟩, rfl, rfl, rfl⟩ rfl trivial (by trivial)
  ·skip
   conv=>whnf
   exact aend (mtA ⟨1 + (v1 : Int), nm, [], 1 + (v3 : Int), (1 + (v4 : Int)), ((v6 : Int) - 3), 0⟩) 0 [] [] [] ⟨_, ⟨by dsimp only; omega, hnb, (.inr ⟨hn4, rfl⟩), by dsimp only; omega, by dsimp only; omega, (fun h => absurd h hn3), by dsimp only; omega, by dsimp only; omega⟩, rfl, rfl, rfl⟩ rfl trivial (by trivial)
 ·skip
  obtain ⟨v7, q7, b7, e7, f7, c7⟩ := nxE e5 (by omega) 2 (by decide) (by decide)
  obtain ⟨v8, q8, b8, e8, f8, c8⟩ := nxE e7 (by omega) 20 (by decide) (by decide)
  conv=>whnf
  refine acallM [1] [] (by kernel_rfl) c7 rfl (by trivial) (by trivial) ?_
  rintro _ _ _ ⟨rfl, rfl, rfl⟩
  refine ⟨rfl, ?_⟩
  conv=>whnf
  refine vif_split (fun h7 => ?_) (fun h7 => ?_)
  ·conv=>whnf
   refine acallM [1] [] (by kernel_rfl) c8 rfl (by trivial) (by trivial) ?_
   rintro _ _ _ ⟨rfl, rfl, rfl⟩
   refine ⟨rfl, ?_⟩
   conv=>whnf
   conv=>whnf
   exact aend (mtA ⟨1 + (v1 : Int), nm, [], 1 + (v3 : Int), (1 + (v4 : Int)), (-1099511627776), (v8 : Int)⟩) 0 [] [] [] ⟨_, ⟨by dsimp only; omega, hnb, (.inr ⟨hn4, rfl⟩), by dsimp only; omega, by dsimp only; omega, (fun h => absurd h hn3), by dsimp only; omega, by dsimp only; omega⟩, rfl, rfl, rfl⟩ rfl trivial (by trivial)
  ·skip
   conv=>whnf
   exact aend (mtA ⟨1 + (v1 : Int), nm, [], 1 + (v3 : Int), (1 + (v4 : Int)), (-1099511627776), 0⟩) 0 [] [] [] ⟨_, ⟨by dsimp only; omega, hnb, (.inr ⟨hn4, rfl⟩), by dsimp only; omega, by dsimp only; omega, (fun h => absurd h hn3), by dsimp only; omega, by dsimp only; omega⟩, rfl, rfl, rfl⟩ rfl trivial (by trivial)
structure LL where
 m : By
 lo : Int
 hi : Int
structure LP where
 e : Nat
 s : Nat
 n : Nat
 h : Nat
 v : Nat
 l : List LL
abbrev i16F (n : Int) : FV := .v (.int .i16 n)
def llF (x : LL) : List FV := [.lst 1 (x.m.map enB), i16F x.lo, i16F x.hi]
abbrev llL (l : List LL) : AV := .lst 3 (l.map llF)
def lpA (p : LP) : AV := .agg [u8v p.e, u8v p.s, u8v p.n, u8v p.h, u8v p.v, llL p.l]
def lpB (p : LP) : ABlk := .var 27 [u8v p.e, u8v p.s, u8v p.n, u8v p.h, u8v p.v, llL p.l]
structure LpZ (p : LP) : Prop where
 e : p.e < 256
 s : p.s < 256
 n : p.n < 256
 h : p.h < 256
 v : p.v < 256
 l : p.l.length ≤ 10000000000000
 r : ∀ x ∈ p.l, (-32768 ≤ x.lo ∧ x.lo ≤ 32767) ∧ (-32768 ≤ x.hi ∧ x.hi ≤ 32767)
structure HlP (h : Hl) : Prop where
 m : MtP h.m
 k : ¬ h.m.kind = 4
 r : -1000 ≤ h.lo ∧ h.lo ≤ h.hi ∧ h.hi ≤ 1000
structure PnP (p : Pn) : Prop where
 exp : ∃ k : Nat, k < 2 ∧ expT[k]? = some p.exp
 stages : 1 ≤ p.stages ∧ p.stages ≤ 5
 needed : 0 ≤ p.needed ∧ p.needed ≤ 5
 hold : 0 ≤ p.hold ∧ p.hold ≤ 29
 level : 1 ≤ p.level ∧ p.level ≤ 999
 hl : p.health.length ≤ 2
 all : ∀ h ∈ p.health, HlP h
theorem expT_ky : ∀ s ∈ expT, kyM s = true := by
 intro s hs
 simp only [expT, List.mem_cons, List.not_mem_nil, or_false] at hs
 rcases hs with rfl | rfl | rfl | rfl <;> kernel_rfl
theorem expT_len : ∀ s ∈ expT, s.length ≤ 1000 := by decide
theorem HlP.ok {h : Hl} (hp : HlP h) : hlC h = 0 := by
 unfold hlC
 have h1 := hp.m.ok
 have h2 := hp.r
 rw [if_neg (by omega), if_neg hp.k, if_neg (by omega)]
theorem hlsC_ok : ∀ {l : List Hl}, (∀ h ∈ l, HlP h) → hlsC l = 0 := by
 intro l
 induction l with
 | nil => intro _; rfl
 | cons a r ih =>
  intro h
  unfold hlsC
  rw [if_neg (by have := (h a List.mem_cons_self).ok; omega)]
  exact ih fun x hx => h x (List.mem_cons_of_mem _ hx)
theorem PnP.ok {p : Pn} (h : PnP p) : pnC p = 0 := by
 obtain ⟨k, _, hk⟩ := h.exp
 have h1 := expT_ky _ (List.mem_of_getElem? hk)
 obtain ⟨_, h2, h3, h4, h5, h6, h7⟩ := h
 unfold pnC
 rw [h1, if_neg (by decide), if_neg (by unfold plE; omega), if_neg (by omega)]
 exact hlsC_ok h7
theorem PnP.z {p : Pn} (h : PnP p) : PnZ p := by
 obtain ⟨k, _, hk⟩ := h.exp
 have h1 := expT_len _ (List.mem_of_getElem? hk)
 exact ⟨by omega, by have := h.hl; omega, fun x hx => ⟨(h.all x hx).m.z1, (h.all x hx).m.z2⟩⟩
def RoO (a : AV) (n : Nat) (H : AHeap) : Prop := ∃ p, PnP p ∧ a = pnA p ∧ n = 0 ∧ H = []
def pnO (p : Pn) (k : Nat) : AV := .agg [tv p.exp, iv p.stages, iv p.needed, iv p.hold, iv p.level, .own k]
def RoW (a : AV) (n : Nat) (H : AHeap) : Prop := ∃ p, PnP p ∧ a = pnO p 0 ∧ n = 1 ∧ H = [(0, .rows 37 9 (p.health.map hlF))]
structure KL where
 i : Nat
 hs : List Hl
theorem tmod_nat (a b : Nat) : (a : Int).tmod (b : Int) = ((a % b : Nat) : Int) := rfl
theorem tmod_i16 (a : Int) : -1000 ≤ a.tmod 1001 ∧ a.tmod 1001 ≤ 1000 := by
 rcases Int.le_total 0 a with h | h
 ·rw [Int.tmod_eq_emod_of_nonneg h]; omega
 ·have h2 : a.tmod 1001 = -((-a).tmod 1001) := by rw [Int.neg_tmod]; omega
  rw [h2, Int.tmod_eq_emod_of_nonneg (by omega)]; omega
def fixM (m : Mt) : Mt := if m.kind = 4 then ⟨1, m.name, [], m.window, m.cap, m.least, m.before⟩ else m
theorem fixM_ok {m : Mt} (h : MtP m) : MtP (fixM m) ∧ ¬ (fixM m).kind = 4 := by
 unfold fixM
 split
 ·obtain ⟨hk, hn, hb, hw, hc, h3, hl, hf⟩ := h
  exact ⟨⟨by dsimp only; omega, hn, .inr ⟨by dsimp only; omega, rfl⟩, hw, hc, (fun h => by cases h), hl, hf⟩, by dsimp only; omega⟩
 ·exact ⟨h, by assumption⟩
structure MS where
 at_ : Int
 out : Li
def mkN (s : MS) (b : UInt8) : MS :=
 let t := s.at_ + ((b.toNat % 12 : Nat) : Int) - (if b.toNat / 12 = 7 then 15 else 0)
 ⟨t, s.out ++ [t]⟩
def mkP (l : By) : MS := l.foldl mkN ⟨0, []⟩
def mksS (l : By) : Li := (mkP (l.take 45)).out
theorem mkP_take {l : By} {i : Nat} (h : i < l.length) : mkP (l.take (i + 1)) = mkN (mkP (l.take i)) l[i] := by
 unfold mkP; rw [List.take_succ_eq_append_getElem h, List.foldl_append]; rfl
structure MkI (s : MS) (n : Nat) : Prop where
 at_ : -15 * (n : Int) ≤ s.at_ ∧ s.at_ ≤ 11 * (n : Int)
 len : s.out.length = n
 all : ∀ m ∈ s.out, -1000 ≤ m ∧ m ≤ 1000
theorem MkI.next {s : MS} {n : Nat} (h : MkI s n) (hn : n < 45) (b : UInt8) : MkI (mkN s b) (n + 1) := by
 have h1 := h.at_
 have h2 : b.toNat % 12 < 12 := Nat.mod_lt _ (by decide)
 unfold mkN
 refine ⟨by dsimp only; split <;> omega, by dsimp only; rw [List.length_append, h.len]; rfl, fun m hm => ?_⟩
 dsimp only at hm
 rcases List.mem_append.1 hm with hm | hm
 ·exact h.all m hm
 ·rw [List.mem_singleton.1 hm]; split <;> omega
theorem mkP_ok {l : By} : ∀ i, i ≤ l.length → i ≤ 45 → MkI (mkP (l.take i)) i := by
 intro i
 induction i with
 | zero => intro _ _; exact ⟨⟨by show (-15 : Int) * ((0 : Nat) : Int) ≤ 0; decide, by show (0 : Int) ≤ 11 * ((0 : Nat) : Int); decide⟩, rfl, fun m h => by cases h⟩
 | succ i ih => intro h1 h2; rw [mkP_take (by omega)]; exact (ih (by omega) (by omega)).next (by omega) _
theorem mksS_ok (l : By) : (mksS l).length = min 45 l.length ∧ ∀ m ∈ mksS l, -1000 ≤ m ∧ m ≤ 1000 := by
 rcases Nat.lt_or_ge 45 l.length with h | h
 ·have := mkP_ok (l := l) 45 (by omega) (Nat.le_refl _)
  exact ⟨by unfold mksS; rw [this.len]; omega, this.all⟩
 ·have := mkP_ok (l := l) l.length (Nat.le_refl _) h
  unfold mksS
  rw [List.take_of_length_le h]
  rw [List.take_length] at this
  exact ⟨by rw [this.len]; omega, this.all⟩
theorem mksS_I (l : By) : AllI (mksS l) := fun m hm => by have := (mksS_ok l).2 m hm; unfold I64; omega
theorem marksA (l : By) : AFn Tryz.prog GS 20 [bs l] 0 [] (Is (li (mksS l))) := by
 obtain ⟨A, hA⟩ : ∃ A, A = mksS l := ⟨_, rfl⟩
 rw [← hA]
 refine afn_of Tryz.func20 rfl mixed (by kernel_rfl) ?_
 conv=>whnf
 refine aloop ws20_1 1 [3, 4, 5] (fun i : Nat => [(3, .own 0), (4, iv (mkP (l.take i)).at_), (5, iv i)]) (fun i => [(0, .rows 3 1 ((mkP (l.take i)).out.map enI))]) (fun i => i ≤ l.length ∧ i ≤ 45) (fun i => 45 - i) [(0, .nil)] [] 0 (by kernel_rfl) (fun _ => rfl) rfl ⟨Nat.zero_le _, by decide⟩ (by trivial) (by trivial) ?_
 rintro i ⟨hi, h45⟩
 have hok := mkP_ok i hi h45
 conv=>whnf
 apply vif_split <;> intro h
 rotate_left 1
 ·have hie : i = l.length := by simp at h; omega
  subst hie
  have e : mkP (l.take l.length) = mkP (l.take 45) := by rw [List.take_length, List.take_of_length_le h45]
  rw [e]
  conv=>whnf
  exact aend (li A) 0 [] [] [0] ⟨rfl, rfl, rfl⟩ rfl trivial ⟨rfl, rfl, by rw [hA]; rfl⟩
 have hlt : i < l.length := by simp at h; omega
 conv=>whnf
 refine vif_split (fun h2 => ?_) (fun h2 => ?_)
 rotate_left 1
 ·have hie : i = 45 := by simp at h2; omega
  subst hie
  conv=>whnf
  exact aend (li A) 0 [] [] [0] ⟨rfl, rfl, rfl⟩ rfl trivial ⟨rfl, rfl, by rw [hA]; rfl⟩
 have hl4 : i < 45 := by simp at h2; omega
 have hg := List.getElem?_eq_getElem hlt
 have hn := mkP_take hlt
 have hat := hok.at_
 have hln := hok.len
 generalize l[i] = b at *
 generalize mkP (l.take i) = s at *
 have hb := b.toNat_lt
 have hm : b.toNat % 12 < 12 := Nat.mod_lt _ (by decide)
 unfold mkN at hn
 conv=>whnf
 refine AIn.mk' i rfl (lmZ hlt) ?_
 conv=>whnf
 refine ARd.mapAt hg ?_
 conv=>whnf
 refine AAr.i64 (by omega) ?_
 conv=>whnf
 refine VReq.mk (by decide) ?_
 conv=>whnf
 refine AAr.to (y := s.at_ + ((b.toNat % 12 : Nat) : Int)) (show IntKind.i64.wrap (s.at_ + ((b.toNat % 12 : Nat) : Int)) = _ from IntWalk.i64_in _ (by omega)) ?_
 conv=>whnf
 refine AIn.mk' i rfl (lmZ hlt) ?_
 conv=>whnf
 refine ARd.mapAt hg ?_
 conv=>whnf
 refine VReq.mk (by decide) ?_
 conv=>whnf
 refine AAr.to (y := ((b.toNat / 12 : Nat) : Int)) (show IntKind.u8.wrap ((b.toNat / 12 : Nat) : Int) = _ from wr_u8 (by omega)) ?_
 conv=>whnf
 refine vif_split (fun h3 => ?_) (fun h3 => ?_)
 ·have h7 : b.toNat / 12 = 7 := by simp at h3; omega
  rw [if_pos h7] at hn
  conv=>whnf
  refine AAr.i64 (by omega) ?_
  conv=>whnf
  refine VReq.mk (app_int (by simp only [List.length_map, List.length_cons, List.length_nil]; omega)) ?_
  conv=>whnf
  refine AAr.i64 (by omega) ?_
  conv=>whnf
  exact aback (i + 1) [(0, .lab 2)] [] rfl (by show 45 - (i + 1) < 45 - i; omega) ⟨hlt, hl4⟩ ⟨⟨rfl, rfl, by rw [hn, List.map_append]; rfl⟩, trivial⟩ ⟨rfl, ciZ (by rw [hn]), rfl, trivial⟩
 ·have h7 : ¬ b.toNat / 12 = 7 := by simp at h3; omega
  rw [if_neg h7] at hn
  conv=>whnf
  refine VReq.mk (app_int (by simp only [List.length_map, List.length_cons, List.length_nil]; omega)) ?_
  conv=>whnf
  refine AAr.i64 (by omega) ?_
  conv=>whnf
  exact aback (i + 1) [(0, .lab 2)] [] rfl (by show 45 - (i + 1) < 45 - i; omega) ⟨hlt, hl4⟩ ⟨⟨rfl, rfl, by rw [hn, List.map_append]; (try dsimp only); rw [Int.sub_zero]; rfl⟩, trivial⟩ ⟨rfl, ciZ (by rw [hn]; (try dsimp only); omega), rfl, trivial⟩
def lngS (p : LP) (l : By) : Bool := p.l.any (fun x => decide (40 < x.m.length)) || decide (200 < l.length)
theorem longA (p : LP) (l : By) (hz : p.l.length ≤ 10000000000000) : AFn Tryz.prog GS 10 [lpA p, bs l] 0 [] (Is (bv (lngS p l))) := by
 obtain ⟨B, hB⟩ : ∃ B, B = lngS p l := ⟨_, rfl⟩
 rw [← hB]
 unfold lngS at hB
 refine afn_of Tryz.func10 rfl mixed (by kernel_rfl) ?_
 conv=>whnf
 refine aloop ws10_1 1 [5] (fun i : Nat => [(5, iv i)]) (fun _ => [(0, lpB p)]) (fun i => i ≤ p.l.length ∧ ∀ x ∈ p.l.take i, x.m.length ≤ 40) (fun i => p.l.length - i) [] [] 0 (by kernel_rfl) (fun _ => rfl) rfl ⟨Nat.zero_le _, fun x h => by cases h⟩ (by trivial) (by trivial) ?_
 rintro i ⟨hi, hno⟩
 conv=>whnf
 apply vif_split <;> intro h
 rotate_left 1
 ·have hie : i = p.l.length := by simp at h; omega
  subst hie
  rw [List.take_length] at hno
  have : p.l.any (fun x => decide (40 < x.m.length)) = false := by
   rw [List.any_eq_false]
   intro x hx
   have := hno x hx
   simp only [decide_eq_true_eq]; omega
  rw [this, Bool.false_or] at hB
  conv=>whnf
  exact aret [] (congrArg Value.bool (by rw [hB]; exact decide_eq_decide.2 (by rw [List.length_map]; omega)))
 have hlt : i < p.l.length := by simp at h; omega
 have hg := List.getElem?_eq_getElem hlt
 have hsn := List.take_succ_eq_append_getElem hlt
 have hmem := List.getElem_mem hlt
 generalize p.l[i] = x at *
 conv=>whnf
 refine AIn.mk' i rfl (lmZ hlt) ?_
 conv=>whnf
 refine ARd.mapAt hg ?_
 conv=>whnf
 refine vif_split (fun h2 => ?_) (fun h2 => ?_)
 ·have h40 : 40 < x.m.length := by simp at h2; omega
  have : p.l.any (fun x => decide (40 < x.m.length)) = true := List.any_eq_true.2 ⟨x, hmem, decide_eq_true h40⟩
  rw [this, Bool.true_or] at hB
  conv=>whnf
  exact aret [] (congrArg Value.bool hB.symm)
 have h40 : ¬ 40 < x.m.length := by simp at h2; omega
 conv=>whnf
 refine AAr.i64 (by omega) ?_
 conv=>whnf
 exact aback (i + 1) [] [] rfl (by show p.l.length - (i + 1) < p.l.length - i; omega) ⟨hlt, fun y hy => by
  rw [hsn] at hy
  rcases List.mem_append.1 hy with hy | hy
  ·exact hno y hy
  ·rw [List.mem_singleton.1 hy]; omega⟩ (by trivial) (by trivial)
theorem lngS_no {p : LP} {l : By} (h : lngS p l = false) : l.length ≤ 200 := by
 unfold lngS at h
 rw [Bool.or_eq_false_iff] at h
 simpa using h.2
def awP : Pn := ⟨[98, 108, 117, 101], 1, 0, 0, 50, []⟩
theorem awR : runS awP [] [] [5] = [⟨5, 5, 0, 0, 0, 4294967296, -1⟩] := by kernel_rfl
theorem awPZ : PnZ awP := ⟨by decide, by decide, fun h hh => by cases hh⟩
theorem awEB : EvB [] := ⟨by decide, fun e h => (by cases h), fun e h => (by cases h)⟩
theorem gawakeA : AFn Tryz.prog GS 9 [] 0 [] (Is (bv true)) := by
 have hR := grunA awP [] [] [5] awPZ awEB (by decide) (fun x hx => by rw [List.mem_singleton.1 hx]; unfold I64; omega) (by decide)
 rw [awR] at hR
 refine afn_of Tryz.func9 rfl mixed (by kernel_rfl) ?_
 conv=>whnf
 refine acallF [0] (by kernel_rfl) hR ?_ ?_
 ·trivial
 rintro _ _ _ ⟨rfl, rfl, rfl⟩
 conv=>whnf
 refine AIn.mk' 0 rfl (by decide) ?_
 conv=>whnf
 refine ARd.at rfl ?_
 conv=>whnf
 refine AEq.mk (by kernel_rfl) rfl rfl ?_
 conv=>whnf
 exact aret [] (by trivial)
theorem rolloutA (P : LP) (hz : LpZ P) : AFn Tryz.prog GS 11 [lpA P] 0 [] RoW := by
 obtain ⟨z1, z2, z3, z4, z5, z6, z7⟩ := hz
 have hE : P.e % 2 < 2 := Nat.mod_lt _ (by decide)
 have hS : P.s % 5 < 5 := Nat.mod_lt _ (by decide)
 have hN : P.n % 6 < 6 := Nat.mod_lt _ (by decide)
 have hH : P.h % 30 < 30 := Nat.mod_lt _ (by decide)
 have hV : P.v * 998 / 255 ≤ 998 := by omega
 obtain ⟨nm, hnm⟩ : ∃ nm, expT[P.e % 2]? = some nm := ⟨_, List.getElem?_eq_getElem (show P.e % 2 < 4 by omega)⟩
 refine afn_of Tryz.func11 rfl mixed (by kernel_rfl) ?_
 conv=>whnf
 (refine adraw pln11 [] (by kernel_rfl) ?_; conv=>whnf)
 repeat' (first
  | (refine And.intro ?_ ?_ <;> (conv=>whnf))
  | (refine VReq.mk (by decide) ?_; conv=>whnf)
  | ((refine acallF [] (by kernel_rfl) (expTA) ?_ ?_; (focus (trivial; done)); rintro _ _ _ ⟨rfl, rfl, rfl⟩; (conv=>whnf)))
  | (refine AIn.mk' (P.e % 2) rfl (by rw [List.length_map]; show _ < 4; omega) ?_; conv=>whnf)
  | (refine ARd.mapAt hnm ?_; conv=>whnf)
  | (refine AAr.i64 (by omega) ?_; conv=>whnf)
  | (refine AAr.to (y := 1 + ((P.s % 5 : Nat) : Int)) (show IntKind.i64.wrap (1 + ((P.s % 5 : Nat) : Int)) = _ from IntWalk.i64_in _ (by omega)) ?_; conv=>whnf)
  | (refine AAr.to (y := ((P.v * 998 / 255 : Nat) : Int)) (show IntKind.i64.wrap ((P.v * 998 / 255 : Nat) : Int) = _ from IntWalk.i64_in _ (by omega)) ?_; conv=>whnf)
  | (refine AAr.to (y := 1 + ((P.v * 998 / 255 : Nat) : Int)) (show IntKind.i64.wrap (1 + ((P.v * 998 / 255 : Nat) : Int)) = _ from IntWalk.i64_in _ (by omega)) ?_; conv=>whnf))
 ·refine aloop ws11_1 5 [4] (fun x : KL => [(4, iv x.i)]) (fun x => [(4, .rows 37 9 (x.hs.map hlF)), (3, .var 24 [tv nm, iv (1 + ((P.s % 5 : Nat) : Int)), iv ((P.n % 6 : Nat) : Int), iv ((P.h % 30 : Nat) : Int), iv (1 + ((P.v * 998 / 255 : Nat) : Int)), .own 4]), (1, .var 24 [tv [], iv 0, iv 0, iv 0, iv 0, .v (.slice none 0 0)]), (0, lpB P)]) (fun x => x.i ≤ P.l.length ∧ x.i ≤ 2 ∧ x.hs.length = x.i ∧ ∀ h ∈ x.hs, HlP h) (fun x => 2 - x.i) [(4, .nil)] [] ⟨0, []⟩ (by kernel_rfl) (fun _ => rfl) rfl ⟨Nat.zero_le _, by decide, rfl, fun h hh => by cases hh⟩ (by trivial) (by trivial) ?_
  rintro ⟨i, hs⟩ ⟨hi, hi2, hl, hP⟩
  dsimp only at hi hi2 hl hP
  conv=>whnf
  apply vif_split <;> intro h
  rotate_left 1
  ·skip
   conv=>whnf
   exact aend (pnO ⟨nm, 1 + ((P.s % 5 : Nat) : Int), ((P.n % 6 : Nat) : Int), ((P.h % 30 : Nat) : Int), 1 + ((P.v * 998 / 255 : Nat) : Int), hs⟩ 0) 1 [(0, .rows 37 9 (hs.map hlF))] [(0, .lab 4)] [] ⟨_, ⟨⟨P.e % 2, hE, hnm⟩, by dsimp only; omega, by dsimp only; omega, by dsimp only; omega, by dsimp only; omega, by dsimp only; omega, hP⟩, rfl, rfl, rfl⟩ rfl (by trivial) (by trivial)
  have hlt : i < P.l.length := by simp at h; omega
  conv=>whnf
  apply vif_split <;> intro h
  rotate_left 1
  ·skip
   conv=>whnf
   exact aend (pnO ⟨nm, 1 + ((P.s % 5 : Nat) : Int), ((P.n % 6 : Nat) : Int), ((P.h % 30 : Nat) : Int), 1 + ((P.v * 998 / 255 : Nat) : Int), hs⟩ 0) 1 [(0, .rows 37 9 (hs.map hlF))] [(0, .lab 4)] [] ⟨_, ⟨⟨P.e % 2, hE, hnm⟩, by dsimp only; omega, by dsimp only; omega, by dsimp only; omega, by dsimp only; omega, by dsimp only; omega, hP⟩, rfl, rfl, rfl⟩ rfl (by trivial) (by trivial)
  have hi3 : i < 2 := by simp at h; omega
  have hg := List.getElem?_eq_getElem hlt
  have hz := z7 _ (List.getElem_mem hlt)
  generalize P.l[i] = x at *
  conv=>whnf
  refine AIn.mk' i rfl (lmZ hlt) ?_
  conv=>whnf
  refine ARd.mapAt hg ?_
  conv=>whnf
  refine acallF [] (by kernel_rfl) (metricDA x.m) ?_ ?_
  ·trivial
  rintro _ _ _ ⟨m, hm, rfl, rfl, rfl⟩
  have hmf := fixM_ok hm
  conv=>whnf
  refine vif_split (fun h4 => ?_) (fun h4 => ?_)
  ·have k4 : m.kind = 4 := by simpa using h4
   have hf : fixM m = ⟨1, m.name, [], m.window, m.cap, m.least, m.before⟩ := by unfold fixM; rw [if_pos k4]
   conv=>whnf
   (refine adraw pln11 [] (by kernel_rfl) ?_; conv=>whnf)
   repeat' (first
    | (refine And.intro ?_ ?_ <;> (conv=>whnf))
    | (refine VReq.mk (by decide) ?_; conv=>whnf)
    | (refine AIn.mk' i rfl (lmZ hlt) ?_; conv=>whnf)
    | (refine ARd.mapAt hg ?_; conv=>whnf)
    | (refine AAr.i64 (by omega) ?_; conv=>whnf))
   refine VReq.mk (app_ok (by simp only [List.length_map, List.length_cons, List.length_nil]; omega) (by kernel_rfl)) ?_
   conv=>whnf
   refine AAr.i64 (by (try dsimp only); omega) ?_
   conv=>whnf
   have hm2 : HlP ⟨fixM m, min (x.lo.tmod 1001) (x.hi.tmod 1001), max (x.lo.tmod 1001) (x.hi.tmod 1001)⟩ := ⟨hmf.1, hmf.2, by have := tmod_i16 x.lo; have := tmod_i16 x.hi; dsimp only; omega⟩
   refine aback ⟨i + 1, hs ++ [⟨fixM m, min (x.lo.tmod 1001) (x.hi.tmod 1001), max (x.lo.tmod 1001) (x.hi.tmod 1001)⟩]⟩ [(4, .lab 7)] [] rfl (by show 2 - (i + 1) < 2 - i; omega) ⟨hlt, hi3, by dsimp only; rw [List.length_append, hl]; rfl, fun h hh => ?_⟩ ⟨⟨rfl, rfl, ?_⟩, (by trivial), (by trivial), (by trivial), trivial⟩ (by trivial)
   ·rcases List.mem_append.1 hh with hh | hh
    ·exact hP h hh
    ·rw [List.mem_singleton.1 hh]; exact hm2
   ·rw [List.map_append]
    rw [hf]; rfl
  ·have k4 : ¬ m.kind = 4 := by simpa using h4
   have hf : fixM m = m := by unfold fixM; rw [if_neg k4]
   conv=>whnf
   (refine adraw pln11 [] (by kernel_rfl) ?_; conv=>whnf)
   repeat' (first
    | (refine And.intro ?_ ?_ <;> (conv=>whnf))
    | (refine VReq.mk (by decide) ?_; conv=>whnf)
    | (refine AIn.mk' i rfl (lmZ hlt) ?_; conv=>whnf)
    | (refine ARd.mapAt hg ?_; conv=>whnf)
    | (refine AAr.i64 (by omega) ?_; conv=>whnf))
   refine VReq.mk (app_ok (by simp only [List.length_map, List.length_cons, List.length_nil]; omega) (by kernel_rfl)) ?_
   conv=>whnf
   refine AAr.i64 (by (try dsimp only); omega) ?_
   conv=>whnf
   have hm2 : HlP ⟨fixM m, min (x.lo.tmod 1001) (x.hi.tmod 1001), max (x.lo.tmod 1001) (x.hi.tmod 1001)⟩ := ⟨hmf.1, hmf.2, by have := tmod_i16 x.lo; have := tmod_i16 x.hi; dsimp only; omega⟩
   refine aback ⟨i + 1, hs ++ [⟨fixM m, min (x.lo.tmod 1001) (x.hi.tmod 1001), max (x.lo.tmod 1001) (x.hi.tmod 1001)⟩]⟩ [(4, .lab 7)] [] rfl (by show 2 - (i + 1) < 2 - i; omega) ⟨hlt, hi3, by dsimp only; rw [List.length_append, hl]; rfl, fun h hh => ?_⟩ ⟨⟨rfl, rfl, ?_⟩, (by trivial), (by trivial), (by trivial), trivial⟩ (by trivial)
   ·rcases List.mem_append.1 hh with hh | hh
    ·exact hP h hh
    ·rw [List.mem_singleton.1 hh]; exact hm2
   ·rw [List.map_append]
    rw [hf]; rfl
 ·refine aloop ws11_1 5 [4] (fun x : KL => [(4, iv x.i)]) (fun x => [(4, .rows 37 9 (x.hs.map hlF)), (2, .var 24 [tv nm, iv (1 + ((P.s % 5 : Nat) : Int)), iv ((P.n % 6 : Nat) : Int), iv ((P.h % 30 : Nat) : Int), iv (1 + ((P.v * 998 / 255 : Nat) : Int)), .own 4]), (1, .var 24 [tv [], iv 0, iv 0, iv 0, iv 0, .v (.slice none 0 0)]), (0, lpB P)]) (fun x => x.i ≤ P.l.length ∧ x.i ≤ 2 ∧ x.hs.length = x.i ∧ ∀ h ∈ x.hs, HlP h) (fun x => 2 - x.i) [(4, .nil)] [] ⟨0, []⟩ (by kernel_rfl) (fun _ => rfl) rfl ⟨Nat.zero_le _, by decide, rfl, fun h hh => by cases hh⟩ (by trivial) (by trivial) ?_
  rintro ⟨i, hs⟩ ⟨hi, hi2, hl, hP⟩
  dsimp only at hi hi2 hl hP
  conv=>whnf
  apply vif_split <;> intro h
  rotate_left 1
  ·skip
   conv=>whnf
   exact aend (pnO ⟨nm, 1 + ((P.s % 5 : Nat) : Int), ((P.n % 6 : Nat) : Int), ((P.h % 30 : Nat) : Int), 1 + ((P.v * 998 / 255 : Nat) : Int), hs⟩ 0) 1 [(0, .rows 37 9 (hs.map hlF))] [(0, .lab 4)] [] ⟨_, ⟨⟨P.e % 2, hE, hnm⟩, by dsimp only; omega, by dsimp only; omega, by dsimp only; omega, by dsimp only; omega, by dsimp only; omega, hP⟩, rfl, rfl, rfl⟩ rfl (by trivial) (by trivial)
  have hlt : i < P.l.length := by simp at h; omega
  conv=>whnf
  apply vif_split <;> intro h
  rotate_left 1
  ·skip
   conv=>whnf
   exact aend (pnO ⟨nm, 1 + ((P.s % 5 : Nat) : Int), ((P.n % 6 : Nat) : Int), ((P.h % 30 : Nat) : Int), 1 + ((P.v * 998 / 255 : Nat) : Int), hs⟩ 0) 1 [(0, .rows 37 9 (hs.map hlF))] [(0, .lab 4)] [] ⟨_, ⟨⟨P.e % 2, hE, hnm⟩, by dsimp only; omega, by dsimp only; omega, by dsimp only; omega, by dsimp only; omega, by dsimp only; omega, hP⟩, rfl, rfl, rfl⟩ rfl (by trivial) (by trivial)
  have hi3 : i < 2 := by simp at h; omega
  have hg := List.getElem?_eq_getElem hlt
  have hz := z7 _ (List.getElem_mem hlt)
  generalize P.l[i] = x at *
  conv=>whnf
  refine AIn.mk' i rfl (lmZ hlt) ?_
  conv=>whnf
  refine ARd.mapAt hg ?_
  conv=>whnf
  refine acallF [] (by kernel_rfl) (metricDA x.m) ?_ ?_
  ·trivial
  rintro _ _ _ ⟨m, hm, rfl, rfl, rfl⟩
  have hmf := fixM_ok hm
  conv=>whnf
  refine vif_split (fun h4 => ?_) (fun h4 => ?_)
  ·have k4 : m.kind = 4 := by simpa using h4
   have hf : fixM m = ⟨1, m.name, [], m.window, m.cap, m.least, m.before⟩ := by unfold fixM; rw [if_pos k4]
   conv=>whnf
   (refine adraw pln11 [] (by kernel_rfl) ?_; conv=>whnf)
   repeat' (first
    | (refine And.intro ?_ ?_ <;> (conv=>whnf))
    | (refine VReq.mk (by decide) ?_; conv=>whnf)
    | (refine AIn.mk' i rfl (lmZ hlt) ?_; conv=>whnf)
    | (refine ARd.mapAt hg ?_; conv=>whnf)
    | (refine AAr.i64 (by omega) ?_; conv=>whnf))
   refine VReq.mk (app_ok (by simp only [List.length_map, List.length_cons, List.length_nil]; omega) (by kernel_rfl)) ?_
   conv=>whnf
   refine AAr.i64 (by (try dsimp only); omega) ?_
   conv=>whnf
   have hm2 : HlP ⟨fixM m, min (x.lo.tmod 1001) (x.hi.tmod 1001), max (x.lo.tmod 1001) (x.hi.tmod 1001)⟩ := ⟨hmf.1, hmf.2, by have := tmod_i16 x.lo; have := tmod_i16 x.hi; dsimp only; omega⟩
   refine aback ⟨i + 1, hs ++ [⟨fixM m, min (x.lo.tmod 1001) (x.hi.tmod 1001), max (x.lo.tmod 1001) (x.hi.tmod 1001)⟩]⟩ [(4, .lab 7)] [] rfl (by show 2 - (i + 1) < 2 - i; omega) ⟨hlt, hi3, by dsimp only; rw [List.length_append, hl]; rfl, fun h hh => ?_⟩ ⟨⟨rfl, rfl, ?_⟩, (by trivial), (by trivial), (by trivial), trivial⟩ (by trivial)
   ·rcases List.mem_append.1 hh with hh | hh
    ·exact hP h hh
    ·rw [List.mem_singleton.1 hh]; exact hm2
   ·rw [List.map_append]
    rw [hf]; rfl
  ·have k4 : ¬ m.kind = 4 := by simpa using h4
   have hf : fixM m = m := by unfold fixM; rw [if_neg k4]
   conv=>whnf
   (refine adraw pln11 [] (by kernel_rfl) ?_; conv=>whnf)
   repeat' (first
    | (refine And.intro ?_ ?_ <;> (conv=>whnf))
    | (refine VReq.mk (by decide) ?_; conv=>whnf)
    | (refine AIn.mk' i rfl (lmZ hlt) ?_; conv=>whnf)
    | (refine ARd.mapAt hg ?_; conv=>whnf)
    | (refine AAr.i64 (by omega) ?_; conv=>whnf))
   refine VReq.mk (app_ok (by simp only [List.length_map, List.length_cons, List.length_nil]; omega) (by kernel_rfl)) ?_
   conv=>whnf
   refine AAr.i64 (by (try dsimp only); omega) ?_
   conv=>whnf
   have hm2 : HlP ⟨fixM m, min (x.lo.tmod 1001) (x.hi.tmod 1001), max (x.lo.tmod 1001) (x.hi.tmod 1001)⟩ := ⟨hmf.1, hmf.2, by have := tmod_i16 x.lo; have := tmod_i16 x.hi; dsimp only; omega⟩
   refine aback ⟨i + 1, hs ++ [⟨fixM m, min (x.lo.tmod 1001) (x.hi.tmod 1001), max (x.lo.tmod 1001) (x.hi.tmod 1001)⟩]⟩ [(4, .lab 7)] [] rfl (by show 2 - (i + 1) < 2 - i; omega) ⟨hlt, hi3, by dsimp only; rw [List.length_append, hl]; rfl, fun h hh => ?_⟩ ⟨⟨rfl, rfl, ?_⟩, (by trivial), (by trivial), (by trivial), trivial⟩ (by trivial)
   ·rcases List.mem_append.1 hh with hh | hh
    ·exact hP h hh
    ·rw [List.mem_singleton.1 hh]; exact hm2
   ·rw [List.map_append]
    rw [hf]; rfl
theorem AFn.end0 {P : Program} {G : Glob} {f : FuncId} {args : List AV} {R R' : AV → Nat → AHeap → Prop} (h : AFn P G f args 0 [] R) (k : ∀ a n H, R a n H → AEnd G 0 R' a n H) : AFn P G f args 0 [] R' := by
 intro w σ F vs st r
 refine (h w σ F vs st r).mono fun v w' ⟨a, m, σ', F', H', hR, s, x, ra⟩ => ?_
 obtain ⟨a', n', H'', hR', _, hE⟩ := (k a m H' hR).ex
 obtain ⟨σ'', F'', s2, r2, _, h4⟩ := hE w (Mut w σ []) F σ' F' w' v s ra
 exact ⟨a', n', σ'', F'', H'', hR', s2, ⟨Nat.zero_le _, fun _ h => absurd h (Nat.not_lt_zero _), fun b hb => ⟨h4 b (x.f b hb).1, (x.f b hb).2⟩, x.sz⟩, r2⟩
theorem rolloutF (P : LP) (hz : LpZ P) : AFn Tryz.prog GS 11 [lpA P] 0 [] RoO :=
 AFn.end0 (rolloutA P hz) fun a n H ⟨p, hp, e1, e2, e3⟩ => by
  subst e1; subst e2; subst e3
  exact aend (pnA p) 0 [] [] [0] ⟨p, hp, rfl, rfl, rfl⟩ rfl trivial (by trivial)
def wg1 (a b : Nat) : Wg := ⟨1, 1 + ((a % 20 : Nat) : Int), 1 + ((b % 20 : Nat) : Int)⟩
def wg2 (a b : Nat) : Wg := ⟨2, 1 + ((a % 20 : Nat) : Int), 1 + ((b % 20 : Nat) : Int)⟩
theorem wdataA (a b c d : Nat) (ha : a < 256) (hb : b < 256) (hc : c < 256) (hd : d < 256) : AFn Tryz.prog GS 15 [u8v a, u8v b, u8v c, u8v d] 0 [] (Is (wgL [wg1 a b, wg2 c d])) := by
 have h1 : ∀ n : Nat, n % 20 < 20 := fun n => Nat.mod_lt _ (by decide)
 have ha := h1 a
 have hb := h1 b
 have hc := h1 c
 have hd := h1 d
 refine afn_of Tryz.func15 rfl mixed (by kernel_rfl) ?_
 conv=>whnf
 repeat' (first
  | (refine And.intro ?_ ?_ <;> (conv=>whnf))
  | (refine VReq.mk (by decide) ?_; conv=>whnf)
  | (refine AAr.i64 (by omega) ?_; conv=>whnf)
  | (refine AAr.to (y := 1 + ((a % 20 : Nat) : Int)) (show IntKind.i64.wrap (1 + ((a % 20 : Nat) : Int)) = _ from IntWalk.i64_in _ (by omega)) ?_; conv=>whnf)
  | (refine AAr.to (y := 1 + ((b % 20 : Nat) : Int)) (show IntKind.i64.wrap (1 + ((b % 20 : Nat) : Int)) = _ from IntWalk.i64_in _ (by omega)) ?_; conv=>whnf)
  | (refine AAr.to (y := 1 + ((c % 20 : Nat) : Int)) (show IntKind.i64.wrap (1 + ((c % 20 : Nat) : Int)) = _ from IntWalk.i64_in _ (by omega)) ?_; conv=>whnf)
  | (refine AAr.to (y := 1 + ((d % 20 : Nat) : Int)) (show IntKind.i64.wrap (1 + ((d % 20 : Nat) : Int)) = _ from IntWalk.i64_in _ (by omega)) ?_; conv=>whnf))
 exact aend (wgL [wg1 a b, wg2 c d]) 0 [] [] [0] ⟨rfl, rfl, rfl⟩ rfl trivial (by trivial)
structure AcG (p : Pn) (st m : Int) (a : Ac) : Prop where
 mark : a.mark = m
 stage : a.stage = st
 kind : 1 ≤ a.kind ∧ a.kind ≤ 5
 rev : a.kind = 4 ↔ 0 ≤ a.health
 fin : a.kind = 5 → p.stages - 1 ≤ st
 ramp : a.kind = 2 → ¬ p.stages - 1 ≤ st
 need : a.kind = 2 ∨ a.kind = 5 → p.needed ≤ a.ctl + a.trt
theorem lookS_good {p : Pn} {l : List Ev} {w : List Wg} {st si m : Int} (hc : pnC p = 0) (hm : si ≤ m) : AcG p st m (lookS p l w st si m) := by
 unfold lookS
 rw [if_neg (by omega)]
 unfold lookG
 dsimp only
 generalize (armN (finS l p.exp m) si 1 : Nat) = a
 generalize (armN (finS l p.exp m) si 2 : Nat) = b
 generalize lastD (balS (finS l p.exp m) w) = k
 generalize illS l w p m = i
 generalize (m - si) % 18446744073709551616 = d
 split
 ·refine ⟨rfl, rfl, ?_, ?_, ?_, ?_, ?_⟩ <;> (try dsimp only) <;> omega
 split
 ·rename_i h4
  refine ⟨rfl, rfl, ?_, ?_, ?_, ?_, ?_⟩ <;> (try dsimp only) <;> omega
 split
 ·refine ⟨rfl, rfl, ?_, ?_, ?_, ?_, ?_⟩ <;> (try dsimp only) <;> omega
 rename_i h5
 split
 ·rename_i h6
  refine ⟨rfl, rfl, ?_, ?_, ?_, ?_, ?_⟩ <;> (try dsimp only) <;> omega
 ·rename_i h6
  refine ⟨rfl, rfl, ?_, ?_, ?_, ?_, ?_⟩ <;> (try dsimp only) <;> omega
def Crs (p : Pn) : Int → Int → List Ac → Prop
 | _, _, [] => True
 | st, la, a :: r => AcG p st a.mark a ∧ la ≤ a.mark ∧ (3 ≤ a.kind → r = []) ∧ st ≤ p.stages - 1 ∧ Crs p (if a.kind = 2 then st + 1 else st) a.mark r
def Rpl (look : Int → Int → Int → Ac) : Int → List Ac → Prop
 | _, [] => True
 | si, a :: r => look a.stage si a.mark = a ∧ si ≤ a.mark ∧ Rpl look (if a.kind = 2 then a.mark else si) r
theorem runR_crs {p : Pn} {l : List Ev} {w : List Wg} (hc : pnC p = 0) : ∀ (ms : Li) (st si la : Int) (n : Nat), si ≤ la → st ≤ p.stages - 1 → Crs p st la (runR (lookS p l w) ms st si la n) := by
 intro ms
 induction ms with
 | nil => intro st si la n _ _; trivial
 | cons m r ih =>
  intro st si la n hla hst
  unfold runR
  split
  ·exact ih st si la n hla hst
  split
  ·trivial
  rename_i h1 _
  have hg := lookS_good (l := l) (w := w) (st := st) (si := si) (m := m) hc (by omega)
  generalize lookS p l w st si m = a at *
  have hmk := hg.mark
  refine ⟨by rw [hmk]; exact hg, by rw [hmk]; omega, fun h3 => ?_, hst, ?_⟩
  ·rw [if_neg (by omega), if_pos ⟨h3, hg.kind.2⟩]
  ·rw [hmk]
   by_cases h2 : a.kind = 2
   ·rw [if_pos h2, if_pos h2]
    exact ih _ _ _ _ (Int.le_refl _) (by have := hg.ramp h2; omega)
   ·rw [if_neg h2, if_neg h2]
    split
    ·trivial
    ·exact ih _ _ _ _ (by omega) hst
theorem runR_rpl {p : Pn} {l : List Ev} {w : List Wg} (hc : pnC p = 0) : ∀ (ms : Li) (st si la : Int) (n : Nat), si ≤ la → Rpl (lookS p l w) si (runR (lookS p l w) ms st si la n) := by
 intro ms
 induction ms with
 | nil => intro st si la n _; trivial
 | cons m r ih =>
  intro st si la n hla
  unfold runR
  split
  ·exact ih st si la n hla
  split
  ·trivial
  rename_i h1 _
  have hg := lookS_good (l := l) (w := w) (st := st) (si := si) (m := m) hc (by omega)
  have he : ∀ a, a = lookS p l w st si m → lookS p l w a.stage si a.mark = a := fun a h => by subst h; rw [hg.mark, hg.stage]
  have hg := hg
  have he := he _ rfl
  refine ⟨he, by rw [hg.mark]; omega, ?_⟩
  have hmk := hg.mark
  have hk := hg.kind
  clear he
  generalize lookS p l w st si m = a at *
  by_cases h2 : a.kind = 2
  ·rw [if_pos h2, if_pos h2, hmk]
   exact ih _ _ _ _ (Int.le_refl _)
  ·rw [if_neg h2, if_neg h2]
   split
   ·trivial
   ·exact ih _ _ _ _ (by omega)
theorem runR_len (look : Int → Int → Int → Ac) : ∀ (ms : Li) (st si la : Int) (n : Nat), n ≤ 30 → (runR look ms st si la n).length ≤ 30 - n ∧ (runR look ms st si la n).length ≤ ms.length := by
 intro ms
 induction ms with
 | nil => intro st si la n _; exact ⟨Nat.zero_le _, Nat.zero_le _⟩
 | cons m r ih =>
  intro st si la n hn
  unfold runR
  split
  ·have := ih st si la n hn; simp only [List.length_cons]; omega
  split
  ·exact ⟨Nat.zero_le _, Nat.zero_le _⟩
  ·rename_i h30
   simp only [List.length_cons]
   split
   ·have := ih (st + 1) m m (n + 1) (by omega); omega
   split
   ·simp only [List.length_nil]; omega
   ·have := ih st si m (n + 1) (by omega); omega
theorem runS_len (p : Pn) (l : List Ev) (w : List Wg) (ms : Li) : (runS p l w ms).length ≤ 30 ∧ (runS p l w ms).length ≤ ms.length := by
 unfold runS
 split
 ·exact ⟨Nat.zero_le _, Nat.zero_le _⟩
 ·cases ms with
  | nil => exact ⟨Nat.zero_le _, Nat.zero_le _⟩
  | cons m r => have := runR_len (lookS p l w) (m :: r) 0 m m 0 (by omega); exact ⟨this.1, this.2⟩
theorem runS_nil {p : Pn} {l : List Ev} {w : List Wg} {ms : Li} (hc : pnC p = 0) : runS p l w ms = [] ↔ ms = [] := by
 unfold runS
 rw [if_neg (by omega)]
 cases ms with
 | nil => simp
 | cons m r =>
  dsimp only
  unfold runR
  rw [if_neg (by omega), if_neg (by decide)]
  simp
theorem runS_first {p : Pn} {l : List Ev} {w : List Wg} {ms : Li} {a : Ac} {r : List Ac} (hc : pnC p = 0) (h : runS p l w ms = a :: r) : ∃ m0, a.mark = m0 ∧ Rpl (lookS p l w) m0 (a :: r) := by
 unfold runS at h
 rw [if_neg (by omega)] at h
 cases ms with
 | nil => cases h
 | cons m r' =>
  have h1 := runR_rpl (l := l) (w := w) hc (m :: r') 0 m m 0 (Int.le_refl _)
  dsimp only at h
  rw [h] at h1
  refine ⟨m, ?_, h1⟩
  unfold runR at h
  rw [if_neg (by omega), if_neg (by decide)] at h
  injection h with h2 _
  rw [← h2]
  exact (lookS_good hc (Int.le_refl _)).mark
theorem finS_more {p r : List Ev} {M : Int} (hp : ∀ e ∈ p, e.time < M) (hr : ∀ e ∈ r, M ≤ e.time) (name : By) : finS (p ++ r) name M = finS p name M := by
 obtain ⟨ys, h1, h2⟩ := fstS_more hp hr name
 unfold finS
 rw [h1, List.filter_append]
 have : ys.filter (fun x => decide (x.time < M)) = [] := by
  rw [List.filter_eq_nil_iff]
  intro y hy
  have := h2 y hy
  simp only [decide_eq_true_eq]
  omega
 rw [this, List.append_nil]
theorem scrS_more {p r : List Ev} {M : Int} (hp : ∀ e ∈ p, e.time < M) (hr : ∀ e ∈ r, M ≤ e.time) (w : List Wg) (name : By) (m : Mt) : scrS (p ++ r) w name m M = scrS p w name m M := by
 unfold scrS
 by_cases h : mtC m = 0
 ·rw [if_pos h, if_pos h, smpS_more hp hr name m (mtC_rng h).1.1]
 ·rw [if_neg h, if_neg h]
theorem lookS_more {p r : List Ev} {M : Int} (hp : ∀ e ∈ p, e.time < M) (hr : ∀ e ∈ r, M ≤ e.time) (q : Pn) (w : List Wg) (st si : Int) : lookS q (p ++ r) w st si M = lookS q p w st si M := by
 have h1 := finS_more hp hr q.exp
 have h2 : illS (p ++ r) w q M = illS p w q M := by
  unfold illS
  have : illP (p ++ r) w q M = illP p w q M := by
   funext h
   unfold illP
   rw [scrS_more hp hr]
  rw [this]
 unfold lookS lookG
 rw [h1, h2]
section
attribute [local irreducible] lookS runS lngS mksS wg1 wg2
theorem wg_ne (a b c d : Nat) : (wg1 a b).ver ≠ (wg2 c d).ver := by unfold wg1 wg2; show (1 : Int) ≠ 2; decide
theorem evB_of {l : List Ev} (h : EvsP l) : EvB l := h.bnd
theorem acA_eq (a : Ac) : acA a = .agg [iv a.mark, iv a.kind, iv a.stage, iv a.ctl, iv a.trt, iv a.wealth, iv a.health] := rfl
theorem lawLooksA (P : LP) (l : By) (a b c d : Nat) (stage since mark : Int) (s t m : Nat) (hz : LpZ P) (ha : a < 256) (hb : b < 256) (hc : c < 256) (hd : d < 256) (h1 : I64 stage) (h2 : I64 since) (h3 : I64 mark) (h4 : s < 256) (h5 : t < 256) (h6 : m < 256) :
  AFn Tryz.prog GS 4 [lpA P, bs l, u8v a, u8v b, u8v c, u8v d, iv stage, iv since, iv mark, u8v s, u8v t, u8v m] 0 [] (Is (bv true)) := by
 refine afn_of Tryz.func4 rfl mixed (by kernel_rfl) ?_
 conv=>whnf
 (refine acall [] (by kernel_rfl) (gawakeA) rfl ?_ ?_; (focus trivial))
 conv=>whnf
 skip
 (refine acall [] (by kernel_rfl) (longA P l hz.l) rfl ?_ ?_; (focus trivial))
 conv=>whnf
 refine vif_split (fun h0 => ?_) (fun h0 => ?_)
 ·conv=>whnf
  exact aret [] (by trivial)
 have hl2 := lngS_no (p := P) (l := l) h0
 conv=>whnf
 refine acallF [] (by kernel_rfl) (rolloutF P hz) ?_ ?_
 ·trivial
 rintro _ _ _ ⟨p, hp, rfl, rfl, rfl⟩
 conv=>whnf
 refine acallF [] (by kernel_rfl) (eventsA l (by omega)) ?_ ?_
 ·trivial
 rintro _ _ _ ⟨L, hL, rfl, rfl, rfl⟩
 conv=>whnf
 refine acallF [] (by kernel_rfl) (wdataA a b c d ha hb hc hd) ?_ ?_
 ·trivial
 rintro _ _ _ ⟨rfl, rfl, rfl⟩
 have hB := evB_of hL
 have hpz := hp.z
 have hne := wg_ne a b c d
 generalize wg1 a b = g1 at *
 generalize wg2 c d = g2 at *
 have m1 : s % 6 < 6 := Nat.mod_lt _ (by decide)
 have m2 : t % 100 < 100 := Nat.mod_lt _ (by decide)
 have m3 : m % 150 < 150 := Nat.mod_lt _ (by decide)
 have k1 := glookA p L [g1, g2] ((s % 6 : Nat) : Int) ((t % 100 : Nat) : Int) ((m % 150 : Nat) : Int) hpz hB (by show 2 ≤ 100000; decide) ⟨by omega, by omega⟩ ⟨by omega, by omega⟩ ⟨by omega, by omega⟩
 have q1 := glook2A p L g1 g2 ((s % 6 : Nat) : Int) ((t % 100 : Nat) : Int) ((m % 150 : Nat) : Int) hpz hB hne hL.asc ⟨by omega, by omega⟩ ⟨by omega, by omega⟩ ⟨by omega, by omega⟩
 have k2 := glookA p L [g1, g2] stage since mark hpz hB (by show 2 ≤ 100000; decide) h1 h2 h3
 have q2 := glook2A p L g1 g2 stage since mark hpz hB hne hL.asc h1 h2 h3
 have k3 := glookA p L [g1, g2] stage ((t % 100 : Nat) : Int) 2000 hpz hB (by show 2 ≤ 100000; decide) h1 ⟨by omega, by omega⟩ ⟨by decide, by decide⟩
 have q3 := glook2A p L g1 g2 stage ((t % 100 : Nat) : Int) 2000 hpz hB hne hL.asc h1 ⟨by omega, by omega⟩ ⟨by decide, by decide⟩
 generalize lookS p L [g1, g2] ((s % 6 : Nat) : Int) ((t % 100 : Nat) : Int) ((m % 150 : Nat) : Int) = A1 at *
 generalize lookS p L [g1, g2] stage since mark = A2 at *
 generalize lookS p L [g1, g2] stage ((t % 100 : Nat) : Int) 2000 = A3 at *
 conv=>whnf
 (refine adraw pln4 [] (by kernel_rfl) ?_; conv=>whnf)
 repeat' (first
  | (refine And.intro ?_ ?_ <;> (conv=>whnf))
  | (refine VReq.mk (by decide) ?_; conv=>whnf)
  | (refine AAr.i64 (by omega) ?_; conv=>whnf)
  | ((refine acall [] (by kernel_rfl) (k1) rfl ?_ ?_; (focus (trivial; done)); (conv=>whnf)))
  | ((refine acall [] (by kernel_rfl) (q1) rfl ?_ ?_; (focus (trivial; done)); (conv=>whnf)))
  | ((refine acall [] (by kernel_rfl) (k2) rfl ?_ ?_; (focus (trivial; done)); (conv=>whnf)))
  | ((refine acall [] (by kernel_rfl) (q2) rfl ?_ ?_; (focus (trivial; done)); (conv=>whnf)))
  | ((refine acall [] (by kernel_rfl) (k3) rfl ?_ ?_; (focus (trivial; done)); (conv=>whnf)))
  | ((refine acall [] (by kernel_rfl) (q3) rfl ?_ ?_; (focus (trivial; done)); (conv=>whnf)))
  | (refine AEq.mk (by kernel_rfl) rfl rfl ?_; conv=>whnf)
  | (apply vif_split <;> intro h <;> (first | (exfalso; simp at h; done) | (conv=>whnf))))
 all_goals exact aret [] (congrArg Value.bool (by simp))
theorem bad_run {p : Pn} (h : PnP p) (l : List Ev) (w : List Wg) (ms : Li) : runS ⟨p.exp, p.stages, p.needed, p.hold, 0, p.health⟩ l w ms = [] := by
 obtain ⟨k, _, hk⟩ := h.exp
 have h1 := expT_ky _ (List.mem_of_getElem? hk)
 unfold runS
 rw [if_pos]
 unfold pnC
 dsimp only
 rw [h1, if_neg (by decide), if_pos (by unfold plE; dsimp only; omega)]
 decide
theorem lawRunsA (P : LP) (l : By) (a b c d : Nat) (k : By) (raw : Li) (hz : LpZ P) (ha : a < 256) (hb : b < 256) (hc : c < 256) (hd : d < 256) (hr : AllI raw) :
  AFn Tryz.prog GS 5 [lpA P, bs l, u8v a, u8v b, u8v c, u8v d, bs k, li raw] 0 [] (Is (bv true)) := by
 refine afn_of Tryz.func5 rfl mixed (by kernel_rfl) ?_
 conv=>whnf
 (refine acall [] (by kernel_rfl) (gawakeA) rfl ?_ ?_; (focus trivial))
 conv=>whnf
 skip
 (refine acall [] (by kernel_rfl) (longA P l hz.l) rfl ?_ ?_; (focus trivial))
 conv=>whnf
 refine vif_split (fun h0 => ?_) (fun h0 => ?_)
 ·conv=>whnf
  exact aret [] (by trivial)
 conv=>whnf
 refine vif_split (fun h1 => ?_) (fun h1 => ?_)
 ·conv=>whnf
  exact aret [] (by trivial)
 have hrl : raw.length ≤ 10 := by simp at h1; omega
 have hl2 := lngS_no (p := P) (l := l) h0
 conv=>whnf
 refine acallF [] (by kernel_rfl) (rolloutF P hz) ?_ ?_
 ·trivial
 rintro _ _ _ ⟨p, hp, rfl, rfl, rfl⟩
 conv=>whnf
 refine acallF [] (by kernel_rfl) (eventsA l (by omega)) ?_ ?_
 ·trivial
 rintro _ _ _ ⟨L, hL, rfl, rfl, rfl⟩
 conv=>whnf
 refine acallF [] (by kernel_rfl) (wdataA a b c d ha hb hc hd) ?_ ?_
 ·trivial
 rintro _ _ _ ⟨rfl, rfl, rfl⟩
 have hB := evB_of hL
 have hpz := hp.z
 have hne := wg_ne a b c d
 generalize wg1 a b = g1 at *
 generalize wg2 c d = g2 at *
 have hmk := mksS_I k
 have hml := (mksS_ok k).1
 have hmA := marksA k
 generalize mksS k = M at *
 have k1 := grunA p L [g1, g2] M hpz hB (by show 2 ≤ 100000; decide) hmk (by omega)
 have q1 := grun2A p L g1 g2 M hpz hB hne hL.asc hmk (by omega)
 have k2 := grunA p L [g1, g2] raw hpz hB (by show 2 ≤ 100000; decide) hr (by omega)
 have q2 := grun2A p L g1 g2 raw hpz hB hne hL.asc hr (by omega)
 have k3 := grunA ⟨p.exp, p.stages, p.needed, p.hold, 0, p.health⟩ L [g1, g2] M ⟨hpz.exp, hpz.hl, hpz.m⟩ hB (by show 2 ≤ 100000; decide) hmk (by omega)
 rw [bad_run hp] at k3
 have hr1 := (runS_len p L [g1, g2] M).1
 have hr2 := (runS_len p L [g1, g2] raw).1
 have s1 := gsameA (runS p L [g1, g2] M) (by omega)
 have s2 := gsameA (runS p L [g1, g2] raw) (by omega)
 generalize runS p L [g1, g2] M = A1 at *
 generalize runS p L [g1, g2] raw = A2 at *
 conv=>whnf
 (refine adraw pln5 [] (by kernel_rfl) ?_; conv=>whnf)
 repeat' (first
  | (refine And.intro ?_ ?_ <;> (conv=>whnf))
  | ((refine acallF [] (by kernel_rfl) (hmA) ?_ ?_; (focus (trivial; done)); rintro _ _ _ ⟨rfl, rfl, rfl⟩; (conv=>whnf)))
  | ((refine acallF [] (by kernel_rfl) (k1) ?_ ?_; (focus (trivial; done)); rintro _ _ _ ⟨rfl, rfl, rfl⟩; (conv=>whnf)))
  | ((refine acallF [] (by kernel_rfl) (q1) ?_ ?_; (focus (trivial; done)); rintro _ _ _ ⟨rfl, rfl, rfl⟩; (conv=>whnf)))
  | ((refine acallF [] (by kernel_rfl) (k2) ?_ ?_; (focus (trivial; done)); rintro _ _ _ ⟨rfl, rfl, rfl⟩; (conv=>whnf)))
  | ((refine acallF [] (by kernel_rfl) (q2) ?_ ?_; (focus (trivial; done)); rintro _ _ _ ⟨rfl, rfl, rfl⟩; (conv=>whnf)))
  | ((refine acallF [] (by kernel_rfl) (k3) ?_ ?_; (focus (trivial; done)); rintro _ _ _ ⟨rfl, rfl, rfl⟩; (conv=>whnf)))
  | ((refine acall [] (by kernel_rfl) (s1) rfl ?_ ?_; (focus (trivial; done)); (conv=>whnf)))
  | ((refine acall [] (by kernel_rfl) (s2) rfl ?_ ?_; (focus (trivial; done)); (conv=>whnf)))
  | (apply vif_split <;> intro h <;> (first | (exfalso; simp at h; done) | (conv=>whnf))))
 all_goals exact aret [] (congrArg Value.bool (by simp))
end
end Go.Proofs.YtgfgndaoocfpdaaGreatDoor.Cl
namespace Go.Proofs.YtgfgndaoocfpdaaGreatDoor.Ax
open Go Go.RowKit Go.Proofs.YtgfgndaoocfpdaaGreatDoor.Vc
variable {P : Program} {G : Glob}
def Here (w : World) (b : Nat) : Prop := b < w.heap.size
def loc0 : Nat → Loc := fun _ => ⟨none, 0, 0, 0⟩
theorem ret_of_afn {f : FuncId} {args : List AV} {x : Value} (h : AFn P G f args 0 [] (Is (.v x))) (w : World) (hG : G.holds w) (vs : List Value) (r : RepL 0 loc0 (Here w) w args vs) : Ret P f vs.toArray w fun v w' => v = x ∧ Below w.heap.size w w' := by
 have st : St G w (Mut w loc0 []) (Here w) 0 loc0 (Here w) [] w := ⟨hG, Chg.refl _ _, fun b hb => ⟨hb, .inl hb⟩, (fun ell b h => by cases h), (fun ell b g h => by cases h), (fun ell ell' b b' g h => by cases h), (fun ell b h => by cases h)⟩
 refine (h w loc0 (Here w) vs st r).mono fun v w' ⟨a, n', σ', F', H', ⟨ha, _, _⟩, s, _, ra⟩ => ?_
 subst ha
 refine ⟨ra.v_eq, s.chg.os, s.chg.tape, s.chg.output, s.chg.size, fun k hk => s.chg.block k hk fun ⟨_, _, hm, _⟩ => by cases hm⟩
theorem seg_at {α : Type} {c : α → List Value} {k : Nat} (hk : ∀ a, (c a).length = k) {l : List α} {i j : Nat} {a : α} {v : Value} (hi : l[i]? = some a) (hj : (c a)[j]? = some v) : (recs c l)[i * k + j]? = some v := by
 obtain ⟨h, rfl⟩ := List.getElem?_eq_some_iff.1 hi
 exact recs_seg hk l i h j v hj
theorem frep_flat {α : Type} {F : Nat → Prop} {w : World} {sz : Nat} {enc : α → List FV} {c : α → List Value} (he : ∀ x, enc x = (c x).map .v) (hk : ∀ a, (c a).length = sz) (h1 : ∀ a, ∀ v ∈ c a, v.oneCell' = true) {l : List α} {oa : Option Addr} {cap : Nat} (hc : l.length ≤ cap) (hnil : oa = none → cap = 0) (hr : Row w oa (recs c l)) (hF : ∀ b, b < w.heap.size → F b) (hz : 0 < sz) :
  FRep F w (.lst sz (l.map enc)) (.slice oa l.length cap) := by
 have hlen : ∀ row ∈ l.map enc, row.length = sz := fun row hrow => by
  obtain ⟨a, _, rfl⟩ := List.mem_map.1 hrow
  rw [he, List.length_map, hk]
 rcases Nat.eq_zero_or_pos l.length with h0 | h0
 ·have hl : l = [] := List.eq_nil_of_length_eq_zero h0
  subst hl
  exact .lst sz [] oa 0 cap 0 0 rfl hc hnil (fun h => absurd h (Nat.lt_irrefl 0)) (fun row hr => by cases hr) (fun i j hi => absurd hi (Nat.not_lt_zero i)) (fun i j row a v hi => by simp at hi)
 ·rcases hr with hr | ⟨b, o, rfl, hb, hcell⟩
  ·have := recs_len hk l
   rw [hr, List.length_nil] at this
   have := Nat.mul_pos h0 hz
   omega
  ·have row : ∀ i j, i < l.length → j < sz → ∃ a v, l[i]? = some a ∧ (c a)[j]? = some v ∧ w.cell? ⟨b, o + (i * sz + j), none⟩ = some v := fun i j hi hj => by
    have hjl : j < (c l[i]).length := by rw [hk]; exact hj
    exact ⟨l[i], (c l[i])[j], List.getElem?_eq_getElem hi, List.getElem?_eq_getElem hjl, hcell _ _ (seg_at hk (List.getElem?_eq_getElem hi) (List.getElem?_eq_getElem hjl))⟩
   refine .lst sz (l.map enc) _ l.length cap b o (by rw [List.length_map]) hc hnil (fun _ => ⟨rfl, hF b hb⟩) hlen (fun i j hi hj => ?_) (fun i j rw_ a v hi hj hv => ?_)
   ·obtain ⟨a, v, _, h2, h3⟩ := row i j hi hj
    exact ⟨v, h3, h1 a v (List.mem_of_getElem? h2)⟩
   ·rw [List.getElem?_map] at hi
    cases hl : l[i]? with
    | none => rw [hl] at hi; cases hi
    | some x =>
     rw [hl] at hi
     simp only [Option.map_some, Option.some.injEq] at hi
     subst hi
     have hil := (List.getElem?_eq_some_iff.1 hl).1
     have hjs : j < sz := by have := (List.getElem?_eq_some_iff.1 hj).1; rw [he, List.length_map, hk] at this; exact this
     obtain ⟨a', v', h4, h5, h6⟩ := row i j hil hjs
     rw [hl] at h4
     injection h4 with h4
     subst h4
     rw [he, List.getElem?_map, h5] at hj
     simp only [Option.map_some, Option.some.injEq] at hj
     rw [h6] at hv
     injection hv with hv
     subst hv; subst hj
     exact .v _
end Go.Proofs.YtgfgndaoocfpdaaGreatDoor.Ax
namespace Go.Proofs.YtgfgndaoocfpdaaGreatDoor.Vc
open Go Go.RowKit Go.ChangeShapes Go.WideShapes Go.ChangeAt
section
variable {H : Type} {enc : TypeId × Value → H} {P : Program} {w : World} {t : TypeId} {cs : List Value}
def RdD (enc : TypeId × Value → H) (P : Program) (w : World) (t : TypeId) (cs : List Value) (d : DataW H) : Prop := ∃ held fuel p, DataW.trod enc P w 0 (fun _ => true) held fuel t cs = some (d, p)
def Rd (enc : TypeId × Value → H) (P : Program) (w : World) (t : TypeId) (cs : List Value) : Prop := ∃ d, RdD enc P w t cs d
theorem rdd_int {k : IntKind} {d : DataW H} (ht : P.underlying t = some (.int k)) (h : RdD enc P w t cs d) : ∃ n, cs = [.int k n] ∧ d = .lit (.int k n) ∧ (Lit.int k n).wf = true := by
 obtain ⟨held, fuel, p, hx⟩ := h
 obtain ⟨n, h1, h2, h3⟩ := DataW.trod_int ht hx
 injection h2 with h2
 exact ⟨n, h1, h2, h3⟩
theorem rd_int {k : IntKind} (ht : P.underlying t = some (.int k)) (h : Rd enc P w t cs) : ∃ n, cs = [.int k n] ∧ (Lit.int k n).wf = true := by
 obtain ⟨d, h⟩ := h
 obtain ⟨n, h1, _, h2⟩ := rdd_int ht h
 exact ⟨n, h1, h2⟩
theorem flat_get {α : Type} {sz : Nat} : ∀ (css : List (List α)) (k : Nat) (v : α), (∀ c ∈ css, c.length = sz) → css.flatten[k]? = some v →
  ∃ i j c, j < sz ∧ k = i * sz + j ∧ css[i]? = some c ∧ c[j]? = some v := by
 intro css
 induction css with
 | nil => intro k v _ h; simp at h
 | cons c r ih =>
  intro k v hl h
  have hc : c.length = sz := hl c (by simp)
  rw [List.flatten_cons, List.getElem?_append] at h
  split at h
  ·rename_i hk
   exact ⟨0, k, c, by omega, by omega, by simp, h⟩
  ·rename_i hk
   obtain ⟨i, j, c', hj, hk', hi, hv⟩ := ih _ v (fun c hc => hl c (by simp [hc])) h
   refine ⟨i + 1, j, c', hj, ?_, by simpa using hi, hv⟩
   rw [Nat.add_mul]
   omega
theorem cells_get {a : Addr} {n : Nat} {cs : List Value} (h : w.cells? 0 a n = some cs) : cs.length = n ∧ ∀ j v, cs[j]? = some v → w.cell? (a.add j) = some v := by
 unfold World.cells? at h
 rw [if_pos (Nat.zero_le _)] at h
 refine ⟨by rw [mapM_some_length h]; simp, fun j v hj => ?_⟩
 have hlt : j < n := by
  have := (List.getElem?_eq_some_iff.1 hj).1
  rw [mapM_some_length h] at this
  simpa using this
 have := mapM_some_get h j j (by simp [hlt])
 rw [this, hj]
theorem rdd_slice {e : TypeId} {d : DataW H} (ht : P.underlying t = some (.slice e)) (h : RdD enc P w t cs d) :
  ∃ (oa : Option Addr) (len cap : Nat) (css : List (List Value)) (ds : List (DataW H)), cs = [.slice oa len cap] ∧ len ≤ cap ∧ cap ≤ maxLen ∧ (oa = none → cap = 0) ∧ css.length = len ∧ Row w oa css.flatten ∧
   (∀ c ∈ css, c.length = P.cellsOf e ∧ Rd enc P w e c) ∧ ds.length = len ∧ ((d = .nil ∧ len = 0) ∨ ∃ rest, d = .slice ds rest) ∧ ∀ (i : Nat) (c : List Value) (d' : DataW H), css[i]? = some c → ds[i]? = some d' → RdD enc P w e c d' := by
 obtain ⟨held, fuel, pp, hx⟩ := h
 rcases DataW.trod_slice ht hx with ⟨h1, hd⟩ | ⟨a, len, cap, elems, rest, n, _, h1, hd, _, hlc, hcm, hlen, hel, _, _⟩
 ·injection hd with hd
  exact ⟨none, 0, 0, [], [], h1, Nat.le_refl _, Nat.zero_le _, fun _ => rfl, rfl, Row.nil _ _, by simp, rfl, .inl ⟨hd, rfl⟩, fun i c d' h => by simp at h⟩
 ·have each : ∀ i, i < len → ∃ ci, w.cells? 0 (a.add (i * P.cellsOf e)) (P.cellsOf e) = some ci ∧ Rd enc P w e ci ∧ ∀ d', (elems.map (·.1))[i]? = some d' → RdD enc P w e ci d' := by
   intro i hi
   have h1 := hel i hi
   rw [List.getElem?_eq_getElem (by omega)] at h1
   obtain ⟨ci, hc, ht⟩ := Option.bind_eq_some_iff.1 h1
   refine ⟨ci, hc, ⟨_, held, n, _, ht⟩, fun d' hd' => ?_⟩
   rw [List.getElem?_map, List.getElem?_eq_getElem (by omega)] at hd'
   simp only [Option.map_some, Option.some.injEq] at hd'
   subst hd'
   exact ⟨held, n, _, ht⟩
  obtain ⟨css, hcl, hcss⟩ : ∃ css : List (List Value), css.length = len ∧ ∀ (i : Nat) (c : List Value), css[i]? = some c → w.cells? 0 (a.add (i * P.cellsOf e)) (P.cellsOf e) = some c ∧ Rd enc P w e c ∧ ∀ d', (elems.map (·.1))[i]? = some d' → RdD enc P w e c d' := by
   refine ⟨(List.range len).map fun i => (w.cells? 0 (a.add (i * P.cellsOf e)) (P.cellsOf e)).getD [], by simp, fun i c hc => ?_⟩
   have hlt : i < len := by simpa using (List.getElem?_eq_some_iff.1 hc).1
   obtain ⟨ci, h1, h2⟩ := each i hlt
   simp only [List.getElem?_map, List.getElem?_range hlt, Option.map_some, h1, Option.getD_some, Option.some.injEq] at hc
   subst hc
   exact ⟨h1, h2⟩
  have hall : ∀ c ∈ css, c.length = P.cellsOf e ∧ Rd enc P w e c := by
   intro c hc
   obtain ⟨i, hi⟩ := List.mem_iff_getElem?.1 hc
   exact ⟨(cells_get (hcss i c hi).1).1, (hcss i c hi).2.1⟩
  refine ⟨some a, len, cap, css, elems.map (·.1), h1, hlc, hcm, (fun e => by cases e), hcl, ?_, hall, by simp [hlen], .inr ⟨rest.map (·.1), by injection hd⟩, fun i c d' h1 h2 => (hcss i c h1).2.2 d' h2⟩
  by_cases hne : css.flatten = []
  ·exact .inl hne
  ·right
   have cell : ∀ k v, css.flatten[k]? = some v → ∃ i j, j < P.cellsOf e ∧ k = i * P.cellsOf e + j ∧ w.cell? ((a.add (i * P.cellsOf e)).add j) = some v := by
    intro k v hk
    obtain ⟨i, j, c, hj, hkk, hi, hv⟩ := flat_get css k v (fun c hc => (hall c hc).1) hk
    exact ⟨i, j, hj, hkk, (cells_get (hcss i c hi).1).2 j v hv⟩
   have hspot : a.spot = none := by
    obtain ⟨v, hv⟩ : ∃ v, css.flatten[0]? = some v := by
     cases hf : css.flatten with
     | nil => exact absurd hf hne
     | cons v r => exact ⟨v, by simp⟩
    obtain ⟨i, j, hj, hk, hc⟩ := cell 0 v hv
    have hj0 : j = 0 := by omega
    have hi0 : i * P.cellsOf e = 0 := by omega
    rw [hi0, hj0] at hc
    have : (a.add 0).add 0 = a := by simp [Addr.add]
    rw [this] at hc
    cases hs : a.spot with
    | none => rfl
    | some s =>
     unfold World.cell? at hc
     split at hc <;> simp [hs] at hc
   obtain ⟨b, o, s⟩ := a
   simp only at hspot
   subst hspot
   refine ⟨b, o, rfl, ?_, fun k v hk => ?_⟩
   ·obtain ⟨v, hv⟩ : ∃ v, css.flatten[0]? = some v := by
     cases hf : css.flatten with
     | nil => exact absurd hf hne
     | cons v r => exact ⟨v, by simp⟩
    obtain ⟨i, j, _, _, hc⟩ := cell 0 v hv
    rw [add0, add0] at hc
    exact World.block_lt_of_cell? w _ hc
   ·obtain ⟨i, j, _, hkk, hc⟩ := cell k v hk
    rw [add0, add0] at hc
    rw [hkk, ← Nat.add_assoc]
    exact hc
theorem rd_slice {e : TypeId} (ht : P.underlying t = some (.slice e)) (h : Rd enc P w t cs) :
  ∃ (oa : Option Addr) (len cap : Nat) (css : List (List Value)), cs = [.slice oa len cap] ∧ len ≤ cap ∧ cap ≤ maxLen ∧ (oa = none → cap = 0) ∧ css.length = len ∧ Row w oa css.flatten ∧
   ∀ c ∈ css, c.length = P.cellsOf e ∧ Rd enc P w e c := by
 obtain ⟨d, h⟩ := h
 obtain ⟨oa, len, cap, css, _, a, b, c, d, e, f, g, _⟩ := rdd_slice ht h
 exact ⟨oa, len, cap, css, a, b, c, d, e, f, g⟩
theorem rd_top {v : Value} {d : DataW H} {p : List MemPlace} (h : DataW.Trod enc P w 0 (fun _ => true) true t v d p) : Rd enc P w t v.cells.toList := ⟨_, true, h.choose, _, h.choose_spec⟩
theorem trodAll_five {base : Nat} {spare : Nat → Bool} {held : Bool} {t0 t1 t2 t3 t4 : TypeId} {args : Array Value} {ds : List (DataW H)} {ps : List MemPlace} (h : DataW.TrodAll enc P w base spare held [t0, t1, t2, t3, t4] args.toList ds ps) :
  ∃ v0 v1 v2 v3 v4 d0 d1 d2 d3 d4 p0 p1 p2 p3 p4, args = #[v0, v1, v2, v3, v4] ∧ ds = [d0, d1, d2, d3, d4] ∧ ps = p0 ++ p1 ++ p2 ++ p3 ++ p4 ∧ DataW.Trod enc P w base spare held t0 v0 d0 p0 ∧ DataW.Trod enc P w base spare held t1 v1 d1 p1 ∧ DataW.Trod enc P w base spare held t2 v2 d2 p2 ∧ DataW.Trod enc P w base spare held t3 v3 d3 p3 ∧ DataW.Trod enc P w base spare held t4 v4 d4 p4 := by
 obtain ⟨v0, vs0, d0, ds0, p0, q0, hargs, rfl, rfl, h0, r0⟩ := trodAll_cons h
 obtain ⟨v1, vs1, d1, ds1, p1, q1, rfl, rfl, rfl, h1, r1⟩ := trodAll_cons r0
 obtain ⟨v2, vs2, d2, ds2, p2, q2, rfl, rfl, rfl, h2, r2⟩ := trodAll_cons r1
 obtain ⟨v3, vs3, d3, ds3, p3, q3, rfl, rfl, rfl, h3, r3⟩ := trodAll_cons r2
 obtain ⟨v4, vs4, d4, ds4, p4, q4, rfl, rfl, rfl, h4, r4⟩ := trodAll_cons r3
 obtain ⟨rfl, rfl, rfl⟩ := trodAll_nil r4
 exact ⟨v0, v1, v2, v3, v4, d0, d1, d2, d3, d4, p0, p1, p2, p3, p4, by cases args; simp_all, rfl, by simp, h0, h1, h2, h3, h4⟩
theorem trodAll_six {base : Nat} {spare : Nat → Bool} {held : Bool} {t0 t1 t2 t3 t4 t5 : TypeId} {args : Array Value} {ds : List (DataW H)} {ps : List MemPlace} (h : DataW.TrodAll enc P w base spare held [t0, t1, t2, t3, t4, t5] args.toList ds ps) :
  ∃ v0 v1 v2 v3 v4 v5 d0 d1 d2 d3 d4 d5 p0 p1 p2 p3 p4 p5, args = #[v0, v1, v2, v3, v4, v5] ∧ ds = [d0, d1, d2, d3, d4, d5] ∧ ps = p0 ++ p1 ++ p2 ++ p3 ++ p4 ++ p5 ∧ DataW.Trod enc P w base spare held t0 v0 d0 p0 ∧ DataW.Trod enc P w base spare held t1 v1 d1 p1 ∧ DataW.Trod enc P w base spare held t2 v2 d2 p2 ∧ DataW.Trod enc P w base spare held t3 v3 d3 p3 ∧ DataW.Trod enc P w base spare held t4 v4 d4 p4 ∧ DataW.Trod enc P w base spare held t5 v5 d5 p5 := by
 obtain ⟨v0, vs0, d0, ds0, p0, q0, hargs, rfl, rfl, h0, r0⟩ := trodAll_cons h
 obtain ⟨v1, vs1, d1, ds1, p1, q1, rfl, rfl, rfl, h1, r1⟩ := trodAll_cons r0
 obtain ⟨v2, vs2, d2, ds2, p2, q2, rfl, rfl, rfl, h2, r2⟩ := trodAll_cons r1
 obtain ⟨v3, vs3, d3, ds3, p3, q3, rfl, rfl, rfl, h3, r3⟩ := trodAll_cons r2
 obtain ⟨v4, vs4, d4, ds4, p4, q4, rfl, rfl, rfl, h4, r4⟩ := trodAll_cons r3
 obtain ⟨v5, vs5, d5, ds5, p5, q5, rfl, rfl, rfl, h5, r5⟩ := trodAll_cons r4
 obtain ⟨rfl, rfl, rfl⟩ := trodAll_nil r5
 exact ⟨v0, v1, v2, v3, v4, v5, d0, d1, d2, d3, d4, d5, p0, p1, p2, p3, p4, p5, by cases args; simp_all, rfl, by simp, h0, h1, h2, h3, h4, h5⟩
theorem trodAll_seven {base : Nat} {spare : Nat → Bool} {held : Bool} {t0 t1 t2 t3 t4 t5 t6 : TypeId} {args : Array Value} {ds : List (DataW H)} {ps : List MemPlace} (h : DataW.TrodAll enc P w base spare held [t0, t1, t2, t3, t4, t5, t6] args.toList ds ps) :
  ∃ v0 v1 v2 v3 v4 v5 v6 d0 d1 d2 d3 d4 d5 d6 p0 p1 p2 p3 p4 p5 p6, args = #[v0, v1, v2, v3, v4, v5, v6] ∧ ds = [d0, d1, d2, d3, d4, d5, d6] ∧ ps = p0 ++ p1 ++ p2 ++ p3 ++ p4 ++ p5 ++ p6 ∧ DataW.Trod enc P w base spare held t0 v0 d0 p0 ∧ DataW.Trod enc P w base spare held t1 v1 d1 p1 ∧ DataW.Trod enc P w base spare held t2 v2 d2 p2 ∧ DataW.Trod enc P w base spare held t3 v3 d3 p3 ∧ DataW.Trod enc P w base spare held t4 v4 d4 p4 ∧ DataW.Trod enc P w base spare held t5 v5 d5 p5 ∧ DataW.Trod enc P w base spare held t6 v6 d6 p6 := by
 obtain ⟨v0, vs0, d0, ds0, p0, q0, hargs, rfl, rfl, h0, r0⟩ := trodAll_cons h
 obtain ⟨v1, vs1, d1, ds1, p1, q1, rfl, rfl, rfl, h1, r1⟩ := trodAll_cons r0
 obtain ⟨v2, vs2, d2, ds2, p2, q2, rfl, rfl, rfl, h2, r2⟩ := trodAll_cons r1
 obtain ⟨v3, vs3, d3, ds3, p3, q3, rfl, rfl, rfl, h3, r3⟩ := trodAll_cons r2
 obtain ⟨v4, vs4, d4, ds4, p4, q4, rfl, rfl, rfl, h4, r4⟩ := trodAll_cons r3
 obtain ⟨v5, vs5, d5, ds5, p5, q5, rfl, rfl, rfl, h5, r5⟩ := trodAll_cons r4
 obtain ⟨v6, vs6, d6, ds6, p6, q6, rfl, rfl, rfl, h6, r6⟩ := trodAll_cons r5
 obtain ⟨rfl, rfl, rfl⟩ := trodAll_nil r6
 exact ⟨v0, v1, v2, v3, v4, v5, v6, d0, d1, d2, d3, d4, d5, d6, p0, p1, p2, p3, p4, p5, p6, by cases args; simp_all, rfl, by simp, h0, h1, h2, h3, h4, h5, h6⟩
theorem trodAll_eight {base : Nat} {spare : Nat → Bool} {held : Bool} {t0 t1 t2 t3 t4 t5 t6 t7 : TypeId} {args : Array Value} {ds : List (DataW H)} {ps : List MemPlace} (h : DataW.TrodAll enc P w base spare held [t0, t1, t2, t3, t4, t5, t6, t7] args.toList ds ps) :
  ∃ v0 v1 v2 v3 v4 v5 v6 v7 d0 d1 d2 d3 d4 d5 d6 d7 p0 p1 p2 p3 p4 p5 p6 p7, args = #[v0, v1, v2, v3, v4, v5, v6, v7] ∧ ds = [d0, d1, d2, d3, d4, d5, d6, d7] ∧ ps = p0 ++ p1 ++ p2 ++ p3 ++ p4 ++ p5 ++ p6 ++ p7 ∧ DataW.Trod enc P w base spare held t0 v0 d0 p0 ∧ DataW.Trod enc P w base spare held t1 v1 d1 p1 ∧ DataW.Trod enc P w base spare held t2 v2 d2 p2 ∧ DataW.Trod enc P w base spare held t3 v3 d3 p3 ∧ DataW.Trod enc P w base spare held t4 v4 d4 p4 ∧ DataW.Trod enc P w base spare held t5 v5 d5 p5 ∧ DataW.Trod enc P w base spare held t6 v6 d6 p6 ∧ DataW.Trod enc P w base spare held t7 v7 d7 p7 := by
 obtain ⟨v0, vs0, d0, ds0, p0, q0, hargs, rfl, rfl, h0, r0⟩ := trodAll_cons h
 obtain ⟨v1, vs1, d1, ds1, p1, q1, rfl, rfl, rfl, h1, r1⟩ := trodAll_cons r0
 obtain ⟨v2, vs2, d2, ds2, p2, q2, rfl, rfl, rfl, h2, r2⟩ := trodAll_cons r1
 obtain ⟨v3, vs3, d3, ds3, p3, q3, rfl, rfl, rfl, h3, r3⟩ := trodAll_cons r2
 obtain ⟨v4, vs4, d4, ds4, p4, q4, rfl, rfl, rfl, h4, r4⟩ := trodAll_cons r3
 obtain ⟨v5, vs5, d5, ds5, p5, q5, rfl, rfl, rfl, h5, r5⟩ := trodAll_cons r4
 obtain ⟨v6, vs6, d6, ds6, p6, q6, rfl, rfl, rfl, h6, r6⟩ := trodAll_cons r5
 obtain ⟨v7, vs7, d7, ds7, p7, q7, rfl, rfl, rfl, h7, r7⟩ := trodAll_cons r6
 obtain ⟨rfl, rfl, rfl⟩ := trodAll_nil r7
 exact ⟨v0, v1, v2, v3, v4, v5, v6, v7, d0, d1, d2, d3, d4, d5, d6, d7, p0, p1, p2, p3, p4, p5, p6, p7, by cases args; simp_all, rfl, by simp, h0, h1, h2, h3, h4, h5, h6, h7⟩
theorem rd_bytes {e : TypeId} (ht : P.underlying t = some (.slice e)) (he : P.underlying e = some (.int .u8)) (h : Rd enc P w t cs) :
  ∃ (oa : Option Addr) (l : List UInt8) (cap : Nat), cs = [.slice oa l.length cap] ∧ l.length ≤ cap ∧ (oa = none → cap = 0) ∧ Row w oa (bvals l) := by
 obtain ⟨oa, len, cap, css, h1, hlc, _, hn, hcl, hr, hall⟩ := rd_slice ht h
 have hb : ∃ l : List UInt8, css = (bvals l).map fun v => [v] := by
  clear hr hcl h1
  induction css with
  | nil => exact ⟨[], rfl⟩
  | cons c r ih =>
   obtain ⟨l, hl⟩ := ih (fun c hc => hall c (by simp [hc]))
   obtain ⟨n, hc, hw⟩ := rd_int he (hall c (by simp)).2
   have hb : 0 ≤ n ∧ n ≤ 255 := by simpa [Lit.wf, IntKind.min, IntKind.max, IntKind.signed, IntKind.bits] using hw
   refine ⟨UInt8.ofNat n.toNat :: l, ?_⟩
   rw [hl, hc]
   simp [bvals]
   omega
 obtain ⟨l, rfl⟩ := hb
 have hl : len = l.length := by rw [← hcl]; simp [bvals]
 subst hl
 refine ⟨oa, l, cap, h1, hlc, hn, ?_⟩
 have hf : ((bvals l).map fun v => [v]).flatten = bvals l := by
  induction bvals l with
  | nil => rfl
  | cons v r ih => simp only [List.map_cons, List.flatten_cons, ih]; rfl
 rw [hf] at hr
 exact hr
theorem val_slice {r : Reach} {b0 : Nat} {e : TypeId} {v : Value} {oa : Option Addr} {n c : Nat} (ht : P.underlying t = some (.slice e)) (hval : Value.okWide P w r b0 t v) (h : v.cells.toList = [.slice oa n c]) : v = .slice oa n c := by
 obtain ⟨a, len, cap, rfl⟩ := okWide_slice ht hval
 simpa [Value.cells] using h
theorem trodAll_stays {W W' : World} (hl : laidOutB P = true) (hb : Below W.heap.size W W') : ∀ (ts : List TypeId) (vs : List Value) (ds : List (DataW H)) (ps : List MemPlace),
  (ts.all fun t => P.readableRec t && Nat.blt t P.types.size) = true → (∀ x ∈ ps, x.block < W.heap.size) → DataW.TrodAll enc P W 0 (fun _ => true) true ts vs ds ps →
  DataW.TrodAll enc P W' 0 (fun b => decide (b < W.heap.size)) true ts vs ds ps := by
 intro ts
 induction ts with
 | nil => intro vs ds ps _ _ h; cases vs <;> cases ds <;> simp_all [DataW.TrodAll]
 | cons t ts ih =>
  intro vs ds ps hrd hlt h
  obtain ⟨v, vs', d, ds', p, q, rfl, rfl, rfl, h1, h2⟩ := trodAll_cons h
  simp only [List.all_cons, Bool.and_eq_true] at hrd
  refine ⟨p, q, Below.trod hl hrd.1.1 (Nat.le_of_ble_eq_true hrd.1.2) h1 hb (fun x hx => hlt x (by simp [hx])), ih _ _ _ hrd.2 (fun x hx => hlt x (by simp [hx])) h2, rfl⟩
end
theorem law_post {H : Type} {enc : TypeId × Value → H} {P : Program} {fn : Func} {s : ChangeSpec} {tb : TypeId} (hl : laidOutB P = true)
  (hrd : (fn.params.toList.all fun t => P.readableRec t && Nat.blt t P.types.size) = true) (hres : fn.resultTypes = #[tb]) (hb : P.underlying tb = some .bool) (hv : s.vars = [])
  (hfn : ∀ ds : List (DataW H), ds.length = fn.params.size → s.fn H ds = { results := [.lit (.bool true)], args := ds })
  {W W' : World} {args : Array Value} {ds gs : List (DataW H)} {before : List MemPlace} (hW : DataW.Whole enc P fn.params.toList s.vars false W args.toList ds gs before) (hB : Below W.heap.size W W') :
  s.post enc P fn false true false false W args (.bool true) W' := by
 have hlt : ∀ x ∈ before, x.block < W.heap.size := fun x hx => hW.lt x hx
 have hW' := hW
 obtain ⟨p, q, hA, hV, rfl, _, _⟩ := hW'
 rw [hv] at hV
 obtain ⟨rfl, rfl⟩ := trodVars_none hV
 have hlen : ds.length = fn.params.size := by
  have : ∀ (ts : List TypeId) (vs : List Value) (ds : List (DataW H)) (ps : List MemPlace), DataW.TrodAll enc P W 0 (fun _ => true) true ts vs ds ps → ds.length = ts.length := by
   intro ts
   induction ts with
   | nil => intro vs ds ps h; cases vs <;> cases ds <;> simp_all [DataW.TrodAll]
   | cons t ts ih =>
    intro vs ds ps h
    obtain ⟨v, vs', d, ds', p, q, rfl, rfl, rfl, _, h2⟩ := trodAll_cons h
    simp [ih _ _ _ h2]
  rw [this _ _ _ _ hA]; simp
 have hspec := hfn ds hlen
 refine ⟨ds, [], p ++ [], [], p, [], hW, ?_, ?_, ?_, World.keptBut_mono (fun x hx => ⟨hx, .inr (.inl (by simpa using hx))⟩) (hB.frame (· ∈ p ++ [])), (fun h => by cases h)⟩
 ·rw [List.append_nil, hspec, hres]
  exact ⟨[], [], ⟨1, by unfold DataW.trod; simp [hb, Value.cells]⟩, rfl, rfl⟩
 ·rw [List.append_nil, hspec]
  exact trodAll_stays hl hB _ _ _ _ hrd (fun x hx => hlt x (by simp [hx])) hA
 ·rw [List.append_nil, hspec, hv]
  rfl
section
open Go.Proofs.YtgfgndaoocfpdaaGreatDoor.Ax
section
variable {H : Type} {enc : TypeId × Value → H} {w : World}
theorem each_ok {P : Program} : ∀ {ts : List TypeId} {ds : List (DataW H)} {B : Nat}, (∀ x ∈ DataW.weightsEach P ts ds, x ≤ B) → ∀ (j : Nat) t d, ts[j]? = some t → ds[j]? = some d → ∀ x ∈ d.weights P t, x ≤ B := by
 intro ts
 induction ts with
 | nil => intro ds B _ j t d h; simp at h
 | cons t ts ih =>
  intro ds B h j u d h1 h2
  cases ds with
  | nil => simp at h2
  | cons e ds =>
   simp only [DataW.weightsEach, List.mem_append] at h
   cases j with
   | zero =>
    simp only [List.getElem?_cons_zero, Option.some.injEq] at h1 h2
    subst h1; subst h2
    exact fun x hx => h x (.inl hx)
   | succ j => exact ih (fun x hx => h x (.inr hx)) j u d (by simpa using h1) (by simpa using h2)
theorem strW_ok {P : Program} {t : TypeId} {s : ByteArray} (h : ∀ x ∈ (DataW.lit (.string s.data.toList) : DataW H).weights P t, x ≤ reachBytes) : s.size ≤ 140737488355328 := by
 have h1 := h s.data.toList.length (by simp [DataW.weights])
 have h2 : s.data.toList.length = s.size := by simp
 have h3 : reachBytes = 140737488351232 := rfl
 omega
theorem rows_of {P : Program} {α : Type} {c : α → List Value} {ok : α → Prop} {e : TypeId} (one : ∀ cs (d : DataW H), RdD enc P w e cs d → (∀ x ∈ d.weights P e, x ≤ reachBytes) → ∃ k : α, cs = c k ∧ ok k) :
  ∀ (css : List (List Value)) (ds : List (DataW H)), ds.length = css.length → (∀ (i : Nat) c d', css[i]? = some c → ds[i]? = some d' → RdD enc P w e c d') → (∀ x ∈ DataW.weightsAll P e ds, x ≤ reachBytes) → ∃ l : List α, l.length = css.length ∧ css.flatten = recs c l ∧ ∀ k ∈ l, ok k := by
 intro css
 induction css with
 | nil => intro ds _ _ _; exact ⟨[], rfl, rfl, fun k h => by cases h⟩
 | cons a css ih =>
  intro ds hl h hB
  cases ds with
  | nil => simp at hl
  | cons d ds =>
   simp only [DataW.weightsAll, List.mem_append] at hB
   obtain ⟨k, e1, hk⟩ := one a d (h 0 a d rfl rfl) fun x hx => hB x (.inl hx)
   obtain ⟨l, h1, h2, h3⟩ := ih ds (by simpa using hl) (fun i c d' hc hd => h (i + 1) c d' (by simpa using hc) (by simpa using hd)) fun x hx => hB x (.inr hx)
   refine ⟨k :: l, by simp [h1], by rw [List.flatten_cons, h2, e1]; rfl, fun y hy => ?_⟩
   rcases List.mem_cons.1 hy with rfl | hy
   ·exact hk
   ·exact h3 y hy
theorem slice_w {P : Program} {t e : TypeId} {d : DataW H} {ds : List (DataW H)} {len : Nat} (hu : P.underlying t = some (.slice e)) (hdl : ds.length = len) (hd : (d = .nil ∧ len = 0) ∨ ∃ rest, d = .slice ds rest) (hB : ∀ x ∈ d.weights P t, x ≤ reachBytes) :
  ∀ x ∈ DataW.weightsAll P e ds, x ≤ reachBytes := by
 rcases hd with ⟨_, h0⟩ | ⟨rest, rfl⟩
 ·have : ds = [] := List.eq_nil_of_length_eq_zero (by omega)
  subst this
  intro x hx; simp [DataW.weightsAll] at hx
 ·intro x hx
  refine hB x ?_
  simp only [DataW.weights, hu, List.mem_cons, List.mem_append]
  exact .inr (.inl hx)
end
end
end Go.Proofs.YtgfgndaoocfpdaaGreatDoor.Vc
