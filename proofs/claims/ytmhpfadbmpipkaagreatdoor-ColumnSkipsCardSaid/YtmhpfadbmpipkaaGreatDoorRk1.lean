/- The iterator of slices.Chunk over events. Condition: the list lies in memory that changes no more. -/
import Derived.Test.YtmhpfadbmpipkaaGreatDoorRg6
import Derived.Test.YtmhpfadbmpipkaaGreatDoorProg
import Derived.Test.YtmhpfadbmpipkaaGreatDoorPlans
set_option linter.unusedVariables false
set_option linter.unusedSimpArgs false
namespace Go.Proofs.YtmhpfadbmpipkaaGreatDoor.Ax
open Go Go.RowKit Go.Proofs Go.Proofs.YtmhpfadbmpipkaaGreatDoor.Vc
attribute [local irreducible] loadVar storeVar Instr.indexAt Instr.index Instr.sliceAt Instr.makeSlice Instr.lookup Instr.mapUpdate Instr.range Instr.next Instr.entry Instr.makeMap Builtin.append_ Builtin.copy_ Builtin.len_ Builtin.min_ Builtin.max_ Builtin.cap_ Builtin.delete_ Builtin.clear_ convert binOp eqGuard Op.unary Calls
/-- the i-th part of 16 rows -/
def chN (l : List (List FV)) (i : Nat) : List (List FV) := (l.drop (16 * i)).take 16
def nCh (l : List (List FV)) : Nat := (l.length + 15) / 16
def chsN (l : List (List FV)) : List (List AV) := (List.range (nCh l)).map fun i => [.lst 10 (chN l i)]
set_option maxHeartbeats 4000000 in
set_option maxRecDepth 100000 in
theorem chunkI (G : Glob) (l : List (List FV)) (hl : l.length ≤ 1000000) : AIt Tryz.prog G 47 [.fp [.lst 10 l] 0, .fp [.v (.int .i64 16)] 0] (chsN l) := by
  intro n σ F vs W lp J hG hF hr hst hkp hy h0
  match vs, hr with
  | [v1, v2], ⟨r1, r2, _⟩ =>
  cases r1 with
  | fp f1 =>
  cases r2 with
  | fp f2 =>
  cases f1 with
  | fp _ _ b1 o1 hb1 hex1 hrep1 =>
  cases f2 with
  | fp _ _ b2 o2 hb2 hex2 hrep2 =>
  obtain ⟨x1, hc1, _⟩ := hex1 0 Nat.zero_lt_one
  obtain ⟨x2, hc2, _⟩ := hex2 0 Nat.zero_lt_one
  have hx1 := hrep1 0 _ x1 rfl hc1
  have hx2 := hrep2 0 _ x2 rfl hc2
  cases hx2
  obtain ⟨oa, m, c, rfl⟩ : ∃ oa m c, x1 = .slice oa m c := by cases hx1; exact ⟨_, _, _, rfl⟩
  have hm : m = l.length := by cases hx1; assumption
  subst hm
  refine calls_of_vy Tryz.func47 rfl (by kernel_rfl) (Nat.le_of_ble_eq_true rfl) rfl (by kernel_rfl) ?_
  conv => whnf
  refine vloop (X := Nat) ws47_1 (fun i => [(4, .int .i64 (16 * i : Nat))]) (fun i w' => i ≤ nCh l ∧ J i w') (fun i => nCh l - i) 0 (by kernel_rfl) ⟨rfl, trivial⟩ ⟨Nat.zero_le _, h0⟩ ?_
  rintro i w' j ⟨hi, hJ⟩
  obtain ⟨k1, k2, k3⟩ := hkp i w' hJ
  have c1 : w'.cell? ⟨b1, o1 + 0, none⟩ = some (.slice oa l.length c) := by rw [cell_heap (k3 b1 hb1)]; exact hc1
  have c2 : w'.cell? ⟨b2, o2 + 0, none⟩ = some (.int .i64 16) := by rw [cell_heap (k3 b2 hb2)]; exact hc2
  conv => whnf
  refine vs_load1 rfl c1 ?_
  conv => whnf
  refine vif_split (fun h => ?_) (fun h => ?_)
  · have hlt : 16 * i < l.length := by simp at h; omega
    have hin : i < nCh l := by unfold nCh; omega
    conv => whnf
    have c1d : w'.drew.cell? ⟨b1, o1 + 0, none⟩ = some (.slice oa l.length c) := c1
    have c2d : w'.drew.cell? ⟨b2, o2 + 0, none⟩ = some (.int .i64 16) := c2
    have hlc : l.length ≤ c := by cases hx1; assumption
    (refine vdrawAt plan47 (by kernel_rfl) ?_; conv => whnf)
    repeat (first
      | (refine vs_load1 rfl c1d ?_; conv => whnf)
      | (refine vs_load1 rfl c2d ?_; conv => whnf)
      | (refine VPend.mk rfl ?_; conv => whnf)
      | (refine vs_sliceLo (sz := 10) (lo := 16 * i) rfl rfl rfl (Nat.le_of_lt hlt) ?_; conv => whnf))
    have we : IntKind.i64.wrap (((16 * i : Nat) : Int) + min 16 ((l.length - 16 * i : Nat) : Int)) = ((16 * i + min 16 (l.length - 16 * i) : Nat) : Int) := by
      have e1 : (min 16 ((l.length - 16 * i : Nat) : Int)) = ((min 16 (l.length - 16 * i) : Nat) : Int) := by omega
      rw [e1, ← Int.natCast_add]
      exact IntWalk.i64_in _ (by omega)
    rw [we]
    refine vsem (run_sliceAt (E := 38) (sz := 10) (i := 16 * i) (j := 16 * i + min 16 (l.length - 16 * i)) (m := 16 * i + min 16 (l.length - 16 * i)) rfl rfl (.inr ⟨_, rfl⟩) (.inr ⟨_, rfl⟩) (.inr ⟨_, rfl⟩) (by omega) (Nat.le_refl _) (by omega)) ?_
    have hJd : J i w'.drew := hst i w' _ hJ (belowDrew (Below.refl _ _))
    have hch : chN l i = (l.take (16 * i + min 16 (l.length - 16 * i))).drop (16 * i) := by
      unfold chN
      rw [List.drop_take, show 16 * i + min 16 (l.length - 16 * i) - 16 * i = min 16 (l.length - 16 * i) by omega]
      rcases Nat.le_total 16 (l.length - 16 * i) with h | h
      · rw [Nat.min_eq_left h]
      · rw [Nat.min_eq_right h, List.take_of_length_le (by rw [List.length_drop]; exact h), List.take_of_length_le (by rw [List.length_drop]; exact Nat.le_refl _)]
    have hfr : FRep F w'.drew (.lst 10 (chN l i)) (.slice (hdrS oa (16 * i) 10 (16 * i + min 16 (l.length - 16 * i))) (16 * i + min 16 (l.length - 16 * i) - 16 * i) (16 * i + min 16 (l.length - 16 * i) - 16 * i)) := by
      rw [hch]
      exact FRep.part (FRep.mono (w' := w'.drew) (fun b hb => ⟨hb, k3 b hb⟩) hx1) (by omega) (by omega) (Nat.le_refl _) (by omega)
    obtain ⟨fn, tmps, assign, body, hyr, hR⟩ := hy i [.lst 10 (chN l i)] w'.drew [.slice (hdrS oa (16 * i) 10 (16 * i + min 16 (l.length - 16 * i))) (16 * i + min 16 (l.length - 16 * i) - 16 * i) (16 * i + min 16 (l.length - 16 * i) - 16 * i)] (by unfold chsN; rw [List.getElem?_map, List.getElem?_range hin]; rfl) hJd ⟨.lst hfr, trivial⟩
    conv => whnf
    refine ⟨⟨fn, tmps, assign, body, hyr, RoundIn.mono hR ?_⟩⟩
    rintro e W2 ⟨rfl, hJ2⟩
    refine ⟨_, rfl, ?_⟩
    obtain ⟨m1, m2, m3⟩ := hkp (i + 1) W2 hJ2
    have c3 : W2.cell? ⟨b2, o2 + 0, none⟩ = some (.int .i64 16) := by rw [cell_heap (m3 b2 hb2)]; exact hc2
    conv => whnf
    refine vs_load1 rfl c3 ?_
    conv => whnf
    refine VBack.mk ⟨_, ?_, (i + 1), rfl, ⟨?_, trivial⟩, hin, hJ2⟩
    · show nCh l - (i + 1) < nCh l - i; omega
    show Value.int .i64 (IntKind.i64.wrap (((16 * i : Nat) : Int) + 16)) = .int .i64 ((16 * (i + 1) : Nat) : Int)
    congr 1
    rw [show ((16 * i : Nat) : Int) + 16 = ((16 * (i + 1) : Nat) : Int) by omega]
    exact IntWalk.i64_in _ (by omega)
  · have hge : l.length ≤ 16 * i := by simp at h; omega
    have hie : i = nCh l := by unfold nCh at hi ⊢; omega
    subst hie
    conv => whnf
    refine ⟨?_⟩
    have : (chsN l).length = nCh l := by unfold chsN; simp
    rw [this]
    exact hJ
set_option maxHeartbeats 4000000 in
set_option maxRecDepth 100000 in
theorem chunkA (G : Glob) (l : List (List FV)) : AFn Tryz.prog G 21 [.lst 10 l, .v (.int .i64 16)] 0 [] (Is (.fn (.func 47) [] [.fp [.lst 10 l] 0, .fp [.v (.int .i64 16)] 0])) := by
  refine afn_of Tryz.func21 rfl (by kernel_rfl) (by kernel_rfl) ?_
  conv => whnf
  exact aendClo [(0, 22, [.lst 10 l]), (1, 3, [.v (.int .i64 16)])] ⟨rfl, rfl, rfl⟩ (fun p hp => by
    rcases List.mem_cons.1 hp with rfl | hp
    · rfl
    · rw [List.mem_singleton.1 hp]; rfl)
end Go.Proofs.YtmhpfadbmpipkaaGreatDoor.Ax
