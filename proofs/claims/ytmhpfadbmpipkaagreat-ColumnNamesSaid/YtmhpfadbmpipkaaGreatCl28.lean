/- The walk of Spoil. Condition: sizes. -/
import Derived.Test.YtmhpfadbmpipkaaGreatCaw
set_option linter.unusedVariables false
set_option linter.unusedSimpArgs false
namespace Go.Proofs.YtmhpfadbmpipkaaGreat.Cl
open Go Go.RowKit Go.Proofs Go.Proofs.YtmhpfadbmpipkaaGreat.Vc Go.Proofs.YtmhpfadbmpipkaaGreat.Ax
attribute [local irreducible] loadVar storeVar Instr.indexAt Instr.index Instr.sliceAt Instr.makeSlice Instr.lookup Instr.mapUpdate Instr.range Instr.next Instr.entry Instr.makeMap Builtin.append_ Builtin.copy_ Builtin.len_ Builtin.min_ Builtin.max_ Builtin.cap_ Builtin.delete_ Builtin.clear_ convert binOp eqGuard Op.unary Calls
/-- some bytes -/
def OwnB (most : Nat) (a : AV) (n : Nat) (H : AHeap) : Prop := ∃ y : By, y.length ≤ most ∧ a = bs y ∧ n = 0 ∧ H = []
abbrev u16v (n : Nat) : AV := .v (.int .u16 (n : Int))
theorem enB_of {c : Nat} (h : c < 256) : [FV.v (.int .u8 (c : Int))] = enB (UInt8.ofNat c) := by unfold enB; rw [toNat_ofNat h]
set_option maxHeartbeats 8000000 in
set_option maxRecDepth 100000 in
theorem spoilA (b : By) (at_ how c : Nat) (hb : b.length ≤ 50000) (hat : at_ < 65536) (hh : how < 65536) (hc : c < 256) : AFn Tryz.prog GC 10 [bs b, u16v at_, u16v how, u8v c] 0 [] (OwnB (b.length + 1)) := by
  refine afn_of Tryz.func10 rfl mixed (by kernel_rfl) ?_
  conv => whnf
  refine VReq.mk (app_ok (by simp only [List.length_map, List.length_append, List.length_nil]; omega) (by kernel_rfl)) ?_
  conv => whnf
  refine vif_split (fun h => ?_) (fun h => ?_)
  · have hlen : 0 < b.length := by simp at h; omega
    conv => whnf
    refine AAr.i64 (by omega) ?_
    conv => whnf
    refine VReq.mk (by intro h; rw [List.nil_append, List.length_map] at h; omega) ?_
    conv => whnf
    obtain ⟨k, hke⟩ : ∃ k, k = at_ % b.length := ⟨_, rfl⟩
    have hkl : k < b.length := by rw [hke]; exact Nat.mod_lt _ hlen
    have hk : 0 < b.length → k < b.length := fun _ => hkl
    have e : Int.tmod (at_ : Int) (([] ++ b.map enB).length : Nat) = (k : Int) := by rw [List.nil_append, List.length_map, hke]; rfl
    rw [e]
    conv => whnf
    have hkb : k ≤ b.length := by omega
    refine VReq.mk (by decide) ?_
    conv => whnf
    refine vif_split (fun h1 => ?_) (fun h1 => ?_)
    · conv => whnf
      refine vif_split (fun h2 => ?_) (fun h2 => ?_)
      · have hlen : 0 < b.length := by simp at h2; omega
        conv => whnf
        refine AIn.mk' k rfl (by simp only [List.length_map, List.length_append, List.length_nil]; omega) ?_
        conv => whnf
        refine ARd.mapAt (List.getElem?_eq_getElem (hk hlen)) ?_
        conv => whnf
        exact aend (bs (b.set k (UInt8.ofNat c))) 0 [] [] [1] ⟨b.set k (UInt8.ofNat c), by rw [List.length_set]; omega, rfl, rfl, rfl⟩ rfl trivial ⟨rfl, rfl, by rw [List.map_set, ← enB_of hc]; rfl⟩
      · conv => whnf
        exact aend (bs b) 0 [] [] [1] ⟨b, by omega, rfl, rfl, rfl⟩ rfl trivial (by repeat' (first | rfl | trivial | apply And.intro))
    conv => whnf
    refine vif_split (fun h2 => ?_) (fun h2 => ?_)
    · conv => whnf
      (refine adraw pln10 [1, 2, 3, 4, 5, 6] (by kernel_rfl) ?_; conv => whnf)
      repeat' (first
        | (refine And.intro ?_ ?_ <;> (conv => whnf))
        | (refine ABd.mk' 0 k rfl rfl (Nat.zero_le _) (by rw [List.length_map]; omega) ?_; conv => whnf)
        | (refine ABd.mk' k b.length rfl (by rw [List.length_map]) (by omega) (by rw [List.length_map]; exact Nat.le_refl _) ?_; conv => whnf)
        | (refine VReq.mk (app_ok (by simp only [cut, List.length_map, List.length_append, List.length_take, List.length_drop, List.length_cons, List.length_nil]; omega) (by kernel_rfl)) ?_; conv => whnf))
      all_goals
        refine aend (bs (b.take k ++ [UInt8.ofNat c] ++ b.drop k)) 0 [] [] [6] ⟨b.take k ++ [UInt8.ofNat c] ++ b.drop k, by simp only [List.length_append, List.length_take, List.length_drop, List.length_cons, List.length_nil]; omega, rfl, rfl, rfl⟩ rfl trivial ⟨rfl, rfl, ?_⟩
        rw [List.map_append, List.map_append, List.map_take, List.map_drop, List.map_singleton, ← enB_of hc]
        rfl
    conv => whnf
    refine vif_split (fun h3 => ?_) (fun h3 => ?_)
    · conv => whnf
      refine vif_split (fun h4 => ?_) (fun h4 => ?_)
      · have hlen : 0 < b.length := by simp at h4; omega
        have hkk := hk hlen
        conv => whnf
        (refine adraw pln10 [1, 2, 3, 4] (by kernel_rfl) ?_; conv => whnf)
        repeat' (first
          | (refine And.intro ?_ ?_ <;> (conv => whnf))
          | (refine AAr.i64 (by omega) ?_; conv => whnf)
          | (refine ABd.mk' 0 k rfl rfl (Nat.zero_le _) (by rw [List.length_map]; omega) ?_; conv => whnf)
          | (refine ABd.mk' (k + 1) b.length rfl (by rw [List.length_map]) (by omega) (by rw [List.length_map]; exact Nat.le_refl _) ?_; conv => whnf)
          | (refine VReq.mk (app_ok (by simp only [cut, List.length_map, List.length_append, List.length_take, List.length_drop, List.length_cons, List.length_nil]; omega) (by kernel_rfl)) ?_; conv => whnf))
        all_goals
          refine aend (bs (b.take k ++ b.drop (k + 1))) 0 [] [] [4] ⟨b.take k ++ b.drop (k + 1), by simp only [List.length_append, List.length_take, List.length_drop]; omega, rfl, rfl, rfl⟩ rfl trivial ⟨rfl, rfl, ?_⟩
          rw [List.map_append, List.map_take, List.map_drop]
          rfl
      · conv => whnf
        exact aend (bs b) 0 [] [] [1] ⟨b, by omega, rfl, rfl, rfl⟩ rfl trivial (by repeat' (first | rfl | trivial | apply And.intro))
    conv => whnf
    refine vif_split (fun h4 => ?_) (fun h4 => ?_)
    · conv => whnf
      refine ABd.mk' 0 k rfl rfl (Nat.zero_le _) (by rw [List.nil_append, List.length_map]; omega) ?_
      conv => whnf
      exact aend (bs (b.take k)) 0 [] [] [1] ⟨b.take k, by rw [List.length_take]; omega, rfl, rfl, rfl⟩ rfl trivial ⟨rfl, rfl, by rw [List.map_take]; rfl⟩
    · conv => whnf
      exact aend (bs b) 0 [] [] [1] ⟨b, by omega, rfl, rfl, rfl⟩ rfl trivial (by repeat' (first | rfl | trivial | apply And.intro))
  · have hlen : b.length = 0 := by simp only [List.nil_append, List.length_map, decide_eq_false_iff_not] at h; omega
    have hk : 0 < b.length → 0 < b.length := fun h => h
    conv => whnf
    refine VReq.mk (by decide) ?_
    conv => whnf
    refine vif_split (fun h1 => ?_) (fun h1 => ?_)
    · conv => whnf
      refine vif_split (fun h2 => ?_) (fun h2 => ?_)
      · have hlen : 0 < b.length := by simp at h2; omega
        conv => whnf
        refine AIn.mk' 0 rfl (by simp only [List.length_map, List.length_append, List.length_nil]; omega) ?_
        conv => whnf
        refine ARd.mapAt (List.getElem?_eq_getElem (hk hlen)) ?_
        conv => whnf
        exact aend (bs (b.set 0 (UInt8.ofNat c))) 0 [] [] [1] ⟨b.set 0 (UInt8.ofNat c), by rw [List.length_set]; omega, rfl, rfl, rfl⟩ rfl trivial ⟨rfl, rfl, by rw [List.map_set, ← enB_of hc]; rfl⟩
      · conv => whnf
        exact aend (bs b) 0 [] [] [1] ⟨b, by omega, rfl, rfl, rfl⟩ rfl trivial (by repeat' (first | rfl | trivial | apply And.intro))
    conv => whnf
    refine vif_split (fun h2 => ?_) (fun h2 => ?_)
    · conv => whnf
      (refine adraw pln10 [1, 2, 3, 4, 5, 6] (by kernel_rfl) ?_; conv => whnf)
      repeat' (first
        | (refine And.intro ?_ ?_ <;> (conv => whnf))
        | (refine ABd.mk' 0 0 rfl rfl (Nat.zero_le _) (by rw [List.length_map]; omega) ?_; conv => whnf)
        | (refine ABd.mk' 0 b.length rfl (by rw [List.length_map]) (by omega) (by rw [List.length_map]; exact Nat.le_refl _) ?_; conv => whnf)
        | (refine VReq.mk (app_ok (by simp only [cut, List.length_map, List.length_append, List.length_take, List.length_drop, List.length_cons, List.length_nil]; omega) (by kernel_rfl)) ?_; conv => whnf))
      all_goals
        refine aend (bs (b.take 0 ++ [UInt8.ofNat c] ++ b.drop 0)) 0 [] [] [6] ⟨b.take 0 ++ [UInt8.ofNat c] ++ b.drop 0, by simp only [List.length_append, List.length_take, List.length_drop, List.length_cons, List.length_nil]; omega, rfl, rfl, rfl⟩ rfl trivial ⟨rfl, rfl, ?_⟩
        rw [List.map_append, List.map_append, List.map_take, List.map_drop, List.map_singleton, ← enB_of hc]
        rfl
    conv => whnf
    refine vif_split (fun h3 => ?_) (fun h3 => ?_)
    · conv => whnf
      refine vif_split (fun h4 => ?_) (fun h4 => ?_)
      · have hlen : 0 < b.length := by simp at h4; omega
        have hkk := hk hlen
        conv => whnf
        (refine adraw pln10 [1, 2, 3, 4] (by kernel_rfl) ?_; conv => whnf)
        repeat' (first
          | (refine And.intro ?_ ?_ <;> (conv => whnf))
          | (refine AAr.i64 (by omega) ?_; conv => whnf)
          | (refine ABd.mk' 0 0 rfl rfl (Nat.zero_le _) (by rw [List.length_map]; omega) ?_; conv => whnf)
          | (refine ABd.mk' (0 + 1) b.length rfl (by rw [List.length_map]) (by omega) (by rw [List.length_map]; exact Nat.le_refl _) ?_; conv => whnf)
          | (refine VReq.mk (app_ok (by simp only [cut, List.length_map, List.length_append, List.length_take, List.length_drop, List.length_cons, List.length_nil]; omega) (by kernel_rfl)) ?_; conv => whnf))
        all_goals
          refine aend (bs (b.take 0 ++ b.drop (0 + 1))) 0 [] [] [4] ⟨b.take 0 ++ b.drop (0 + 1), by simp only [List.length_append, List.length_take, List.length_drop]; omega, rfl, rfl, rfl⟩ rfl trivial ⟨rfl, rfl, ?_⟩
          rw [List.map_append, List.map_take, List.map_drop]
          rfl
      · conv => whnf
        exact aend (bs b) 0 [] [] [1] ⟨b, by omega, rfl, rfl, rfl⟩ rfl trivial (by repeat' (first | rfl | trivial | apply And.intro))
    conv => whnf
    refine vif_split (fun h4 => ?_) (fun h4 => ?_)
    · conv => whnf
      refine ABd.mk' 0 0 rfl rfl (Nat.zero_le _) (by rw [List.nil_append, List.length_map]; omega) ?_
      conv => whnf
      exact aend (bs (b.take 0)) 0 [] [] [1] ⟨b.take 0, by rw [List.length_take]; omega, rfl, rfl, rfl⟩ rfl trivial ⟨rfl, rfl, by rw [List.map_take]; rfl⟩
    · conv => whnf
      exact aend (bs b) 0 [] [] [1] ⟨b, by omega, rfl, rfl, rfl⟩ rfl trivial (by repeat' (first | rfl | trivial | apply And.intro))
end Go.Proofs.YtmhpfadbmpipkaaGreat.Cl
