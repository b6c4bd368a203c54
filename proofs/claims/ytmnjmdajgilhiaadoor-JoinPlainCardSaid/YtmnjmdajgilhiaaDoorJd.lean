/- The walk of the made metric. Condition: the library's table of spaces (GS). -/
import Derived.Test.YtmnjmdajgilhiaaDoorJ3
set_option linter.unusedVariables false
set_option linter.unusedSimpArgs false
namespace Go.Proofs.YtmnjmdajgilhiaaDoor.Cl
open Go Go.RowKit Go.Proofs Go.Proofs.YtmnjmdajgilhiaaDoor.Vc Go.Proofs.YtmnjmdajgilhiaaDoor.Ax Go.Proofs.YtmnjmdajgilhiaaDoor.Ky Go.Proofs.YtmnjmdajgilhiaaDoor.Id
attribute [local irreducible] loadVar storeVar Instr.indexAt Instr.index Instr.sliceAt Instr.makeSlice Instr.lookup Instr.mapUpdate Instr.range Instr.next Instr.entry Instr.makeMap Builtin.append_ Builtin.copy_ Builtin.len_ Builtin.min_ Builtin.max_ Builtin.cap_ Builtin.delete_ Builtin.clear_ convert binOp eqGuard Op.unary Calls
/-- what a made metric is like -/
structure MtP (m : Mt) : Prop where
  kind : 1 ≤ m.kind ∧ m.kind ≤ 4
  name : m.name ∈ namT
  below : (m.kind = 4 ∧ m.below ∈ namT) ∨ (¬ m.kind = 4 ∧ m.below = [])
  window : 1 ≤ m.window ∧ m.window ≤ 30
  cap : 1 ≤ m.cap ∧ m.cap ≤ 50
  cap3 : m.kind = 3 → m.cap = 1
  least : m.least = -1099511627776 ∨ (-3 ≤ m.least ∧ m.least ≤ 6)
  before : 0 ≤ m.before ∧ m.before ≤ 19
theorem namT_ky : ∀ s ∈ namT, kyM s = true := by
  intro s hs
  simp only [namT, List.mem_cons, List.not_mem_nil, or_false] at hs
  rcases hs with rfl | rfl <;> kernel_rfl
theorem namT_ln : ∀ s ∈ namT, s.length ≤ 1000 := by decide
theorem MtP.ok {m : Mt} (h : MtP m) : mtC m = 0 := by
  obtain ⟨hk, hn, hb, hw, hc, h3, hl, hf⟩ := h
  unfold mtC
  rw [if_neg (by omega), if_neg, if_neg (by omega), if_neg]
  · rintro (⟨h4, hne⟩ | ⟨h3', hc'⟩)
    · rcases hb with ⟨h, _⟩ | ⟨_, h⟩
      · exact h4 h
      · exact hne h
    · exact hc' (h3 h3')
  · rw [namT_ky _ hn]
    rintro (h | ⟨h4, h⟩)
    · cases h
    · rcases hb with ⟨_, hb⟩ | ⟨hb, _⟩
      · rw [namT_ky _ hb] at h; cases h
      · exact hb h4
theorem MtP.z1 {m : Mt} (h : MtP m) : m.name.length ≤ 140737488355328 := Nat.le_trans (namT_ln _ h.name) (Nat.le_of_ble_eq_true rfl)
theorem MtP.z2 {m : Mt} (h : MtP m) : m.below.length ≤ 140737488355328 := by
  rcases h.below with ⟨_, hb⟩ | ⟨_, hb⟩
  · exact Nat.le_trans (namT_ln _ hb) (Nat.le_of_ble_eq_true rfl)
  · rw [hb]; exact Nat.zero_le _
def NxE (L : By) (p n v q : Nat) : Prop := v < n ∧ q ≤ L.length ∧ q ≤ p + 1 ∧ AFn Tryd.prog GS 34 [.ptr 0 0, iv n] 1 [(0, srB L p)] (fun a m H => a = iv v ∧ m = 1 ∧ H = [(0, srB L q)])
theorem nxE {L : By} {p : Nat} (hp : p ≤ L.length) (h : p ≤ 100000) (n : Nat) (hn : 0 < n) (hn2 : n ≤ 256) : ∃ v q, NxE L p n v q := ⟨nxV L p n, nxA L p, nxV_lt L p n hn, nxA_le hp, by unfold nxA; split <;> omega, nextB L p n hn hn2 h hp⟩
def MtO (a : AV) (n : Nat) (H : AHeap) : Prop := ∃ m, MtP m ∧ a = mtA m ∧ n = 0 ∧ H = []
set_option maxHeartbeats 8000000 in
set_option maxRecDepth 100000 in
theorem metricDA (L : By) : AFn Tryd.prog GS 12 [bs L] 0 [] MtO := by
  obtain ⟨v1, q1, b1, e1, f1, c1⟩ := nxE (L := L) (p := 0) (Nat.zero_le _) (by omega) 4 (by decide) (by decide)
  obtain ⟨v2, q2, b2, e2, f2, c2⟩ := nxE e1 (by omega) 2 (by decide) (by decide)
  obtain ⟨v3, q3, b3, e3, f3, c3⟩ := nxE e2 (by omega) 30 (by decide) (by decide)
  obtain ⟨v4, q4, b4, e4, f4, c4⟩ := nxE e3 (by omega) 50 (by decide) (by decide)
  refine afn_of Tryd.func12 rfl mixed (by kernel_rfl) ?_
  conv => whnf
  obtain ⟨nm, hnm, hnb⟩ : ∃ nm, namT[v2]? = some nm ∧ nm ∈ namT := ⟨_, List.getElem?_eq_getElem (show v2 < 2 by omega), List.getElem_mem _⟩
  refine adrawC pln12 [1] [(4, 4), (8, 22)] 3 [(4, .ptr 2 0)] [(0, .var 27 [iv 0, tv [], tv [], iv 0, iv 0, iv 0, iv 0]), (1, srB L q4), (2, .var 27 [iv (1 + (v1 : Int)), tv nm, tv [], iv (1 + (v3 : Int)), iv (1 + (v4 : Int)), iv (-1099511627776), iv 0])] (by kernel_rfl) (by kernel_rfl) ?_ ?_
  · conv => whnf
    repeat' (first
      | (refine And.intro ?_ ?_ <;> (conv => whnf))
      | (refine acallM [1] [] (by kernel_rfl) c1 rfl ?_ ?_ ?_; (focus ((repeat' (first | rfl | trivial | apply And.intro)); done)); (focus ((repeat' (first | rfl | trivial | apply And.intro)); done)); rintro _ _ _ ⟨rfl, rfl, rfl⟩; refine ⟨rfl, ?_⟩; conv => whnf)
      | (refine acallM [1] [] (by kernel_rfl) c2 rfl ?_ ?_ ?_; (focus ((repeat' (first | rfl | trivial | apply And.intro)); done)); (focus ((repeat' (first | rfl | trivial | apply And.intro)); done)); rintro _ _ _ ⟨rfl, rfl, rfl⟩; refine ⟨rfl, ?_⟩; conv => whnf)
      | (refine acallM [1] [] (by kernel_rfl) c3 rfl ?_ ?_ ?_; (focus ((repeat' (first | rfl | trivial | apply And.intro)); done)); (focus ((repeat' (first | rfl | trivial | apply And.intro)); done)); rintro _ _ _ ⟨rfl, rfl, rfl⟩; refine ⟨rfl, ?_⟩; conv => whnf)
      | (refine acallM [1] [] (by kernel_rfl) c4 rfl ?_ ?_ ?_; (focus ((repeat' (first | rfl | trivial | apply And.intro)); done)); (focus ((repeat' (first | rfl | trivial | apply And.intro)); done)); rintro _ _ _ ⟨rfl, rfl, rfl⟩; refine ⟨rfl, ?_⟩; conv => whnf)
      | ((refine acallF [] (by kernel_rfl) (namTA) ?_ ?_; (focus ((repeat' (first | rfl | trivial | apply And.intro)); done)); rintro _ _ _ ⟨rfl, rfl, rfl⟩; (conv => whnf)))
      | (refine AIn.mk' v2 rfl (by rw [List.length_map]; exact b2) ?_; conv => whnf)
      | (refine ARd.mapAt hnm ?_; conv => whnf)
      | (refine AAr.i64 (by omega) ?_; conv => whnf))
    all_goals first
      | (refine arbD [(2, .lab 2)] [] ?_ ?_ ?_; (focus rfl); (focus (repeat' (first | rfl | trivial | apply And.intro))); (focus (repeat' (first | rfl | trivial | apply And.intro))); done)
      | (refine arbD [(2, .lab 3)] [] ?_ ?_ ?_; (focus rfl); (focus (repeat' (first | rfl | trivial | apply And.intro))); (focus (repeat' (first | rfl | trivial | apply And.intro))); done)
  conv => whnf
  refine vif_split (fun h3 => ?_) (fun h3 => ?_)
  · have hv : v1 = 2 := by simp at h3; omega
    conv => whnf
    refine vif_split (fun h4 => ?_) (fun h4 => ?_)
    · exfalso; simp at h4; omega
    obtain ⟨v5, q5, b5, e5, f5, c5⟩ := nxE e4 (by omega) 3 (by decide) (by decide)
    obtain ⟨v6, q6, b6, e6, f6, c6⟩ := nxE e5 (by omega) 10 (by decide) (by decide)
    conv => whnf
    refine acallM [1] [] (by kernel_rfl) c5 rfl (by repeat' (first | rfl | trivial | apply And.intro)) (by repeat' (first | rfl | trivial | apply And.intro)) ?_
    rintro _ _ _ ⟨rfl, rfl, rfl⟩
    refine ⟨rfl, ?_⟩
    conv => whnf
    refine vif_split (fun h5 => ?_) (fun h5 => ?_)
    · conv => whnf
      refine acallM [1] [] (by kernel_rfl) c6 rfl (by repeat' (first | rfl | trivial | apply And.intro)) (by repeat' (first | rfl | trivial | apply And.intro)) ?_
      rintro _ _ _ ⟨rfl, rfl, rfl⟩
      refine ⟨rfl, ?_⟩
      conv => whnf
      refine AAr.i64 (by omega) ?_
      obtain ⟨v7, q7, b7, e7, f7, c7⟩ := nxE e6 (by omega) 2 (by decide) (by decide)
      obtain ⟨v8, q8, b8, e8, f8, c8⟩ := nxE e7 (by omega) 20 (by decide) (by decide)
      conv => whnf
      refine acallM [1] [] (by kernel_rfl) c7 rfl (by repeat' (first | rfl | trivial | apply And.intro)) (by repeat' (first | rfl | trivial | apply And.intro)) ?_
      rintro _ _ _ ⟨rfl, rfl, rfl⟩
      refine ⟨rfl, ?_⟩
      conv => whnf
      refine vif_split (fun h7 => ?_) (fun h7 => ?_)
      · conv => whnf
        refine acallM [1] [] (by kernel_rfl) c8 rfl (by repeat' (first | rfl | trivial | apply And.intro)) (by repeat' (first | rfl | trivial | apply And.intro)) ?_
        rintro _ _ _ ⟨rfl, rfl, rfl⟩
        refine ⟨rfl, ?_⟩
        conv => whnf
        conv => whnf
        exact aend (mtA ⟨1 + (v1 : Int), nm, [], 1 + (v3 : Int), 1, ((v6 : Int) - 3), (v8 : Int)⟩) 0 [] [] [] ⟨_, ⟨by dsimp only; omega, hnb, (.inr ⟨by dsimp only; omega, rfl⟩), by dsimp only; omega, by dsimp only; omega, (fun _ => rfl), by dsimp only; omega, by dsimp only; omega⟩, rfl, rfl, rfl⟩ rfl trivial (by repeat' (first | rfl | trivial | apply And.intro))
      · skip
        conv => whnf
        exact aend (mtA ⟨1 + (v1 : Int), nm, [], 1 + (v3 : Int), 1, ((v6 : Int) - 3), 0⟩) 0 [] [] [] ⟨_, ⟨by dsimp only; omega, hnb, (.inr ⟨by dsimp only; omega, rfl⟩), by dsimp only; omega, by dsimp only; omega, (fun _ => rfl), by dsimp only; omega, by dsimp only; omega⟩, rfl, rfl, rfl⟩ rfl trivial (by repeat' (first | rfl | trivial | apply And.intro))
    · skip
      obtain ⟨v7, q7, b7, e7, f7, c7⟩ := nxE e5 (by omega) 2 (by decide) (by decide)
      obtain ⟨v8, q8, b8, e8, f8, c8⟩ := nxE e7 (by omega) 20 (by decide) (by decide)
      conv => whnf
      refine acallM [1] [] (by kernel_rfl) c7 rfl (by repeat' (first | rfl | trivial | apply And.intro)) (by repeat' (first | rfl | trivial | apply And.intro)) ?_
      rintro _ _ _ ⟨rfl, rfl, rfl⟩
      refine ⟨rfl, ?_⟩
      conv => whnf
      refine vif_split (fun h7 => ?_) (fun h7 => ?_)
      · conv => whnf
        refine acallM [1] [] (by kernel_rfl) c8 rfl (by repeat' (first | rfl | trivial | apply And.intro)) (by repeat' (first | rfl | trivial | apply And.intro)) ?_
        rintro _ _ _ ⟨rfl, rfl, rfl⟩
        refine ⟨rfl, ?_⟩
        conv => whnf
        conv => whnf
        exact aend (mtA ⟨1 + (v1 : Int), nm, [], 1 + (v3 : Int), 1, (-1099511627776), (v8 : Int)⟩) 0 [] [] [] ⟨_, ⟨by dsimp only; omega, hnb, (.inr ⟨by dsimp only; omega, rfl⟩), by dsimp only; omega, by dsimp only; omega, (fun _ => rfl), by dsimp only; omega, by dsimp only; omega⟩, rfl, rfl, rfl⟩ rfl trivial (by repeat' (first | rfl | trivial | apply And.intro))
      · skip
        conv => whnf
        exact aend (mtA ⟨1 + (v1 : Int), nm, [], 1 + (v3 : Int), 1, (-1099511627776), 0⟩) 0 [] [] [] ⟨_, ⟨by dsimp only; omega, hnb, (.inr ⟨by dsimp only; omega, rfl⟩), by dsimp only; omega, by dsimp only; omega, (fun _ => rfl), by dsimp only; omega, by dsimp only; omega⟩, rfl, rfl, rfl⟩ rfl trivial (by repeat' (first | rfl | trivial | apply And.intro))
  have hn3 : ¬ (1 + (v1 : Int)) = 3 := by simpa using h3
  conv => whnf
  refine vif_split (fun h4 => ?_) (fun h4 => ?_)
  · have hv : v1 = 3 := by simp at h4; omega
    obtain ⟨v9, q9, b9, e9, f9, c9⟩ := nxE e4 (by omega) 2 (by decide) (by decide)
    obtain ⟨nb, hnb2, hnb3⟩ : ∃ nm, namT[v9]? = some nm ∧ nm ∈ namT := ⟨_, List.getElem?_eq_getElem (show v9 < 2 by omega), List.getElem_mem _⟩
    conv => whnf
    (refine acallF [] (by kernel_rfl) (namTA) ?_ ?_; (focus ((repeat' (first | rfl | trivial | apply And.intro)); done)); rintro _ _ _ ⟨rfl, rfl, rfl⟩; (conv => whnf))
    refine acallM [1] [] (by kernel_rfl) c9 rfl (by repeat' (first | rfl | trivial | apply And.intro)) (by repeat' (first | rfl | trivial | apply And.intro)) ?_
    rintro _ _ _ ⟨rfl, rfl, rfl⟩
    refine ⟨rfl, ?_⟩
    conv => whnf
    refine AIn.mk' v9 rfl (by rw [List.length_map]; exact b9) ?_
    conv => whnf
    refine ARd.mapAt hnb2 ?_
    conv => whnf
    obtain ⟨v5, q5, b5, e5, f5, c5⟩ := nxE e9 (by omega) 3 (by decide) (by decide)
    obtain ⟨v6, q6, b6, e6, f6, c6⟩ := nxE e5 (by omega) 10 (by decide) (by decide)
    conv => whnf
    refine acallM [1] [] (by kernel_rfl) c5 rfl (by repeat' (first | rfl | trivial | apply And.intro)) (by repeat' (first | rfl | trivial | apply And.intro)) ?_
    rintro _ _ _ ⟨rfl, rfl, rfl⟩
    refine ⟨rfl, ?_⟩
    conv => whnf
    refine vif_split (fun h5 => ?_) (fun h5 => ?_)
    · conv => whnf
      refine acallM [1] [] (by kernel_rfl) c6 rfl (by repeat' (first | rfl | trivial | apply And.intro)) (by repeat' (first | rfl | trivial | apply And.intro)) ?_
      rintro _ _ _ ⟨rfl, rfl, rfl⟩
      refine ⟨rfl, ?_⟩
      conv => whnf
      refine AAr.i64 (by omega) ?_
      obtain ⟨v7, q7, b7, e7, f7, c7⟩ := nxE e6 (by omega) 2 (by decide) (by decide)
      obtain ⟨v8, q8, b8, e8, f8, c8⟩ := nxE e7 (by omega) 20 (by decide) (by decide)
      conv => whnf
      refine acallM [1] [] (by kernel_rfl) c7 rfl (by repeat' (first | rfl | trivial | apply And.intro)) (by repeat' (first | rfl | trivial | apply And.intro)) ?_
      rintro _ _ _ ⟨rfl, rfl, rfl⟩
      refine ⟨rfl, ?_⟩
      conv => whnf
      refine vif_split (fun h7 => ?_) (fun h7 => ?_)
      · conv => whnf
        refine acallM [1] [] (by kernel_rfl) c8 rfl (by repeat' (first | rfl | trivial | apply And.intro)) (by repeat' (first | rfl | trivial | apply And.intro)) ?_
        rintro _ _ _ ⟨rfl, rfl, rfl⟩
        refine ⟨rfl, ?_⟩
        conv => whnf
        conv => whnf
        exact aend (mtA ⟨1 + (v1 : Int), nm, nb, 1 + (v3 : Int), (1 + (v4 : Int)), ((v6 : Int) - 3), (v8 : Int)⟩) 0 [] [] [] ⟨_, ⟨by dsimp only; omega, hnb, (.inl ⟨by dsimp only; omega, hnb3⟩), by dsimp only; omega, by dsimp only; omega, (fun h => absurd h hn3), by dsimp only; omega, by dsimp only; omega⟩, rfl, rfl, rfl⟩ rfl trivial (by repeat' (first | rfl | trivial | apply And.intro))
      · skip
        conv => whnf
        exact aend (mtA ⟨1 + (v1 : Int), nm, nb, 1 + (v3 : Int), (1 + (v4 : Int)), ((v6 : Int) - 3), 0⟩) 0 [] [] [] ⟨_, ⟨by dsimp only; omega, hnb, (.inl ⟨by dsimp only; omega, hnb3⟩), by dsimp only; omega, by dsimp only; omega, (fun h => absurd h hn3), by dsimp only; omega, by dsimp only; omega⟩, rfl, rfl, rfl⟩ rfl trivial (by repeat' (first | rfl | trivial | apply And.intro))
    · skip
      obtain ⟨v7, q7, b7, e7, f7, c7⟩ := nxE e5 (by omega) 2 (by decide) (by decide)
      obtain ⟨v8, q8, b8, e8, f8, c8⟩ := nxE e7 (by omega) 20 (by decide) (by decide)
      conv => whnf
      refine acallM [1] [] (by kernel_rfl) c7 rfl (by repeat' (first | rfl | trivial | apply And.intro)) (by repeat' (first | rfl | trivial | apply And.intro)) ?_
      rintro _ _ _ ⟨rfl, rfl, rfl⟩
      refine ⟨rfl, ?_⟩
      conv => whnf
      refine vif_split (fun h7 => ?_) (fun h7 => ?_)
      · conv => whnf
        refine acallM [1] [] (by kernel_rfl) c8 rfl (by repeat' (first | rfl | trivial | apply And.intro)) (by repeat' (first | rfl | trivial | apply And.intro)) ?_
        rintro _ _ _ ⟨rfl, rfl, rfl⟩
        refine ⟨rfl, ?_⟩
        conv => whnf
        conv => whnf
        exact aend (mtA ⟨1 + (v1 : Int), nm, nb, 1 + (v3 : Int), (1 + (v4 : Int)), (-1099511627776), (v8 : Int)⟩) 0 [] [] [] ⟨_, ⟨by dsimp only; omega, hnb, (.inl ⟨by dsimp only; omega, hnb3⟩), by dsimp only; omega, by dsimp only; omega, (fun h => absurd h hn3), by dsimp only; omega, by dsimp only; omega⟩, rfl, rfl, rfl⟩ rfl trivial (by repeat' (first | rfl | trivial | apply And.intro))
      · skip
        conv => whnf
        exact aend (mtA ⟨1 + (v1 : Int), nm, nb, 1 + (v3 : Int), (1 + (v4 : Int)), (-1099511627776), 0⟩) 0 [] [] [] ⟨_, ⟨by dsimp only; omega, hnb, (.inl ⟨by dsimp only; omega, hnb3⟩), by dsimp only; omega, by dsimp only; omega, (fun h => absurd h hn3), by dsimp only; omega, by dsimp only; omega⟩, rfl, rfl, rfl⟩ rfl trivial (by repeat' (first | rfl | trivial | apply And.intro))
  have hn4 : ¬ (1 + (v1 : Int)) = 4 := by simpa using h4
  conv => whnf
  obtain ⟨v5, q5, b5, e5, f5, c5⟩ := nxE e4 (by omega) 3 (by decide) (by decide)
  obtain ⟨v6, q6, b6, e6, f6, c6⟩ := nxE e5 (by omega) 10 (by decide) (by decide)
  conv => whnf
  refine acallM [1] [] (by kernel_rfl) c5 rfl (by repeat' (first | rfl | trivial | apply And.intro)) (by repeat' (first | rfl | trivial | apply And.intro)) ?_
  rintro _ _ _ ⟨rfl, rfl, rfl⟩
  refine ⟨rfl, ?_⟩
  conv => whnf
  refine vif_split (fun h5 => ?_) (fun h5 => ?_)
  · conv => whnf
    refine acallM [1] [] (by kernel_rfl) c6 rfl (by repeat' (first | rfl | trivial | apply And.intro)) (by repeat' (first | rfl | trivial | apply And.intro)) ?_
    rintro _ _ _ ⟨rfl, rfl, rfl⟩
    refine ⟨rfl, ?_⟩
    conv => whnf
    refine AAr.i64 (by omega) ?_
    obtain ⟨v7, q7, b7, e7, f7, c7⟩ := nxE e6 (by omega) 2 (by decide) (by decide)
    obtain ⟨v8, q8, b8, e8, f8, c8⟩ := nxE e7 (by omega) 20 (by decide) (by decide)
    conv => whnf
    refine acallM [1] [] (by kernel_rfl) c7 rfl (by repeat' (first | rfl | trivial | apply And.intro)) (by repeat' (first | rfl | trivial | apply And.intro)) ?_
    rintro _ _ _ ⟨rfl, rfl, rfl⟩
    refine ⟨rfl, ?_⟩
    conv => whnf
    refine vif_split (fun h7 => ?_) (fun h7 => ?_)
    · conv => whnf
      refine acallM [1] [] (by kernel_rfl) c8 rfl (by repeat' (first | rfl | trivial | apply And.intro)) (by repeat' (first | rfl | trivial | apply And.intro)) ?_
      rintro _ _ _ ⟨rfl, rfl, rfl⟩
      refine ⟨rfl, ?_⟩
      conv => whnf
      conv => whnf
      exact aend (mtA ⟨1 + (v1 : Int), nm, [], 1 + (v3 : Int), (1 + (v4 : Int)), ((v6 : Int) - 3), (v8 : Int)⟩) 0 [] [] [] ⟨_, ⟨by dsimp only; omega, hnb, (.inr ⟨hn4, rfl⟩), by dsimp only; omega, by dsimp only; omega, (fun h => absurd h hn3), by dsimp only; omega, by dsimp only; omega⟩, rfl, rfl, rfl⟩ rfl trivial (by repeat' (first | rfl | trivial | apply And.intro))
    · skip
      conv => whnf
      exact aend (mtA ⟨1 + (v1 : Int), nm, [], 1 + (v3 : Int), (1 + (v4 : Int)), ((v6 : Int) - 3), 0⟩) 0 [] [] [] ⟨_, ⟨by dsimp only; omega, hnb, (.inr ⟨hn4, rfl⟩), by dsimp only; omega, by dsimp only; omega, (fun h => absurd h hn3), by dsimp only; omega, by dsimp only; omega⟩, rfl, rfl, rfl⟩ rfl trivial (by repeat' (first | rfl | trivial | apply And.intro))
  · skip
    obtain ⟨v7, q7, b7, e7, f7, c7⟩ := nxE e5 (by omega) 2 (by decide) (by decide)
    obtain ⟨v8, q8, b8, e8, f8, c8⟩ := nxE e7 (by omega) 20 (by decide) (by decide)
    conv => whnf
    refine acallM [1] [] (by kernel_rfl) c7 rfl (by repeat' (first | rfl | trivial | apply And.intro)) (by repeat' (first | rfl | trivial | apply And.intro)) ?_
    rintro _ _ _ ⟨rfl, rfl, rfl⟩
    refine ⟨rfl, ?_⟩
    conv => whnf
    refine vif_split (fun h7 => ?_) (fun h7 => ?_)
    · conv => whnf
      refine acallM [1] [] (by kernel_rfl) c8 rfl (by repeat' (first | rfl | trivial | apply And.intro)) (by repeat' (first | rfl | trivial | apply And.intro)) ?_
      rintro _ _ _ ⟨rfl, rfl, rfl⟩
      refine ⟨rfl, ?_⟩
      conv => whnf
      conv => whnf
      exact aend (mtA ⟨1 + (v1 : Int), nm, [], 1 + (v3 : Int), (1 + (v4 : Int)), (-1099511627776), (v8 : Int)⟩) 0 [] [] [] ⟨_, ⟨by dsimp only; omega, hnb, (.inr ⟨hn4, rfl⟩), by dsimp only; omega, by dsimp only; omega, (fun h => absurd h hn3), by dsimp only; omega, by dsimp only; omega⟩, rfl, rfl, rfl⟩ rfl trivial (by repeat' (first | rfl | trivial | apply And.intro))
    · skip
      conv => whnf
      exact aend (mtA ⟨1 + (v1 : Int), nm, [], 1 + (v3 : Int), (1 + (v4 : Int)), (-1099511627776), 0⟩) 0 [] [] [] ⟨_, ⟨by dsimp only; omega, hnb, (.inr ⟨hn4, rfl⟩), by dsimp only; omega, by dsimp only; omega, (fun h => absurd h hn3), by dsimp only; omega, by dsimp only; omega⟩, rfl, rfl, rfl⟩ rfl trivial (by repeat' (first | rfl | trivial | apply And.intro))
end Go.Proofs.YtmnjmdajgilhiaaDoor.Cl
