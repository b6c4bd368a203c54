/- The walk of the law JoinTells. Condition: the library's table of spaces (GS). -/
import Derived.Test.YtmnjmdajgilhiaaDoorJ3
import Derived.Test.YtmnjmdajgilhiaaDoorJt
import Derived.Test.YtmnjmdajgilhiaaDoorEd2
set_option linter.unusedVariables false
set_option linter.unusedSimpArgs false
namespace Go.Proofs.YtmnjmdajgilhiaaDoor.Cl
open Go Go.RowKit Go.Proofs Go.Proofs.YtmnjmdajgilhiaaDoor.Vc Go.Proofs.YtmnjmdajgilhiaaDoor.Ax Go.Proofs.YtmnjmdajgilhiaaDoor.Ky Go.Proofs.YtmnjmdajgilhiaaDoor.Id
attribute [local irreducible] loadVar storeVar Instr.indexAt Instr.index Instr.sliceAt Instr.makeSlice Instr.lookup Instr.mapUpdate Instr.range Instr.next Instr.entry Instr.makeMap Builtin.append_ Builtin.copy_ Builtin.len_ Builtin.min_ Builtin.max_ Builtin.cap_ Builtin.delete_ Builtin.clear_ convert binOp eqGuard Op.unary Calls
theorem EvsP.bnd {l : List Ev} (h : EvsP l) : EvB l :=
  ⟨by have := h.len; omega, fun e he => by have := (h.all e he).time; omega, fun e he => by
    rcases (h.all e he).kinds with ⟨_, _, _, _, _, hv⟩ | ⟨_, _, _, _, _, hv⟩ | ⟨_, _, _, _, _, _, hv⟩
    · omega
    · omega
    · omega⟩
theorem exp_at (w : Nat) : ∃ name, expT[w % 2]? = some name := ⟨expT[w % 2]'(by have : w % 2 < 2 := Nat.mod_lt _ (by decide); show w % 2 < 4; omega), List.getElem?_eq_getElem _⟩
def idsZ : Tx := idsT ++ [[122, 111, 101]]
set_option maxHeartbeats 8000000 in
set_option maxRecDepth 100000 in
theorem lawTellsA (m : By) (w t : Nat) (hw : w < 256) (ht : t < 256) : AFn Tryd.prog GS 6 [bs m, u8v w, u8v t] 0 [] (Is (bv true)) := by
  refine afn_of Tryd.func6 rfl mixed (by kernel_rfl) ?_
  conv => whnf
  (refine acallF [] (by kernel_rfl) (awakeA) ?_ ?_; (focus ((repeat' (first | rfl | trivial | apply And.intro)); done)); rintro _ _ _ ⟨rfl, rfl, rfl⟩; (conv => whnf))
  refine vif_split (fun h => ?_) (fun h => ?_)
  · conv => whnf
    exact aret [] (by repeat' (first | rfl | trivial | apply And.intro))
  have hm : m.length ≤ 300 := by simp at h; omega
  conv => whnf
  (refine acallF [] (by kernel_rfl) (eventsA m (by omega)) ?_ ?_; (focus (repeat' (first | rfl | trivial | apply And.intro))))
  rintro _ _ _ ⟨l, hP, rfl, rfl, rfl⟩
  have hlen := hP.len
  conv => whnf
  (refine acallF [] (by kernel_rfl) (expTA) ?_ ?_; (focus (repeat' (first | rfl | trivial | apply And.intro))))
  rintro _ _ _ ⟨rfl, rfl, rfl⟩
  obtain ⟨name, hname⟩ := exp_at w
  conv => whnf
  refine AAr.i64 (by omega) ?_
  conv => whnf
  refine VReq.mk (by decide) ?_
  conv => whnf
  refine AIn.mk' (w % 2) rfl (by have : w % 2 < 2 := Nat.mod_lt _ (by decide); show w % 2 < 4; omega) ?_
  conv => whnf
  refine ARd.mapAt hname ?_
  conv => whnf
  (refine acallF [] (by kernel_rfl) (jFirstA l name (by omega)) ?_ ?_; (focus (repeat' (first | rfl | trivial | apply And.intro))))
  rintro _ _ _ ⟨rfl, rfl, rfl⟩
  have hxl : (fstS l name).length ≤ 60 := Nat.le_trans (fstX_len _ _ _) (Nat.le_trans (ofK_le 1 l) hlen)
  have hll : (lksE l).length ≤ 60 := by unfold lksE; rw [List.length_map]; have := ofK_le 3 l; omega
  have h2 := first2A (G := GS) l name (by omega) hP.asc
  generalize fstS l name = xs at *
  conv => whnf
  (refine acallF [] (by kernel_rfl) (linksA l (by omega)) ?_ ?_; (focus (repeat' (first | rfl | trivial | apply And.intro))))
  rintro _ _ _ ⟨rfl, rfl, rfl⟩
  conv => whnf
  (refine acallF [] (by kernel_rfl) (links2A l (by omega)) ?_ ?_; (focus (repeat' (first | rfl | trivial | apply And.intro))))
  rintro _ _ _ ⟨rfl, rfl, rfl⟩
  conv => whnf
  (refine acall [] (by kernel_rfl) (sameLkA (lksE l) (by omega)) rfl ?_ ?_; (focus (repeat' (first | rfl | trivial | apply And.intro))))
  conv => whnf
  (refine acallF [] (by kernel_rfl) (h2) ?_ ?_; (focus (repeat' (first | rfl | trivial | apply And.intro))))
  rintro _ _ _ ⟨rfl, rfl, rfl⟩
  conv => whnf
  (refine acall [] (by kernel_rfl) (sameExA xs (by omega)) rfl ?_ ?_; (focus (repeat' (first | rfl | trivial | apply And.intro))))
  conv => whnf
  (refine acallF [] (by kernel_rfl) (AFn.up idsTA GS) ?_ ?_; (focus (repeat' (first | rfl | trivial | apply And.intro))))
  rintro _ _ _ ⟨rfl, rfl, rfl⟩
  conv => whnf
  refine VReq.mk (app_ok (by decide) (by kernel_rfl)) ?_
  conv => whnf
  have hz : idsZ.length = 7 := rfl
  refine aloop ws6_1 4 [11] (fun i : Nat => [(11, iv i)]) (fun i => [(3, .rows 9 1 (idsZ.map enT))]) (fun i => i ≤ idsZ.length) (fun i => idsZ.length - i) [] [] 0 (by kernel_rfl) (fun _ => rfl) rfl (Nat.zero_le _) ⟨⟨rfl, rfl, rfl⟩, trivial⟩ (by repeat' (first | rfl | trivial | apply And.intro)) ?_
  intro i hi
  conv => whnf
  refine vif_split (fun h => ?_) (fun h => ?_)
  rotate_left 1
  · conv => whnf
    exact aret [] (by repeat' (first | rfl | trivial | apply And.intro))
  have hlt : i < idsZ.length := by simp at h; omega
  have hg := List.getElem?_eq_getElem hlt
  generalize idsZ[i] = id at *
  conv => whnf
  refine AAr.i64 (by omega) ?_
  conv => whnf
  refine VReq.mk (by decide) ?_
  conv => whnf
  refine aloop ws6_2 4 [12] (fun k : Nat => [(12, iv ((t % 90 + k : Nat) : Int))]) (fun k => [(3, .rows 9 1 (idsZ.map enT))]) (fun k => k ≤ 4) (fun k => 4 - k) [] [] 0 (by kernel_rfl) (fun _ => rfl) rfl (Nat.zero_le _) (by repeat' (first | rfl | trivial | apply And.intro)) (by repeat' (first | rfl | trivial | apply And.intro)) ?_
  intro k hk
  have htk : t % 90 < 90 := Nat.mod_lt _ (by decide)
  conv => whnf
  refine AAr.i64 (by omega) ?_
  conv => whnf
  refine VReq.mk (by decide) ?_
  conv => whnf
  refine AAr.i64 (by show _ ≤ ((t % 90 : Nat) : Int) + 4 ∧ ((t % 90 : Nat) : Int) + 4 ≤ _; omega) ?_
  conv => whnf
  refine vif_split (fun h2 => ?_) (fun h2 => ?_)
  rotate_left 1
  · conv => whnf
    refine AAr.i64 (by omega) ?_
    conv => whnf
    exact aback (i + 1) [] [] rfl (by show idsZ.length - (i + 1) < idsZ.length - i; omega) hlt (by repeat' (first | rfl | trivial | apply And.intro)) (by repeat' (first | rfl | trivial | apply And.intro))
  have hk4 : k < 4 := by
    have h2 : ((t % 90 + k : Nat) : Int) < ((t % 90 : Nat) : Int) + 4 := of_decide_eq_true h2
    omega
  conv => whnf
  (refine adraw pln6 [] (by kernel_rfl) ?_; conv => whnf)
  have o1 := jOwnerA (G := GS) l xs id ((t % 90 + k : Nat) : Int) (by omega) (by omega)
  have o2 := owner2A (G := GS) l xs id ((t % 90 + k : Nat) : Int) (by omega) (by omega)
  repeat' (first
    | (refine And.intro ?_ ?_ <;> (conv => whnf))
    | (refine AIn.mk' i rfl (by rw [List.length_map]; exact hlt) ?_; conv => whnf)
    | (refine ARd.mapAt hg ?_; conv => whnf)
    | ((refine acall [] (by kernel_rfl) (o1) rfl ?_ ?_; (focus ((repeat' (first | rfl | trivial | apply And.intro)); done)); (conv => whnf)))
    | ((refine acall [] (by kernel_rfl) (o2) rfl ?_ ?_; (focus ((repeat' (first | rfl | trivial | apply And.intro)); done)); (conv => whnf))))
  refine vif_split (fun h3 => ?_) (fun h3 => ?_)
  · exfalso; simp at h3
  conv => whnf
  refine AAr.i64 (by omega) ?_
  conv => whnf
  exact aback (k + 1) [] [] rfl (by show 4 - (k + 1) < 4 - k; omega) hk4 (by repeat' (first | rfl | trivial | apply And.intro)) (by repeat' (first | rfl | trivial | apply And.intro))
end Go.Proofs.YtmnjmdajgilhiaaDoor.Cl
