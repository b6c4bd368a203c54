/- The walks of the made data and of a change: now, assignment, play and refer. Condition: as Sx1's. -/
import Derived.Test.YtinpgogjkmmjpaaDoorPl3
set_option linter.unusedVariables false
set_option linter.unusedSimpArgs false
namespace Go.Proofs.YtinpgogjkmmjpaaDoor.Sx
open Go Go.RowKit Go.Proofs.YtinpgogjkmmjpaaDoor.Vc Go.Proofs.YtinpgogjkmmjpaaDoor.Ax Go.Proofs.YtinpgogjkmmjpaaDoor.Ky Go.Proofs.YtinpgogjkmmjpaaDoor.Id Go.Proofs.YtinpgogjkmmjpaaDoor.Sp

structure Chg where
  kind : Nat
  id : Nat
  other : Nat
  exp : Nat
  arm : Nat
  cool : Nat
  after : Nat
structure Chg.ok (x : Chg) : Prop where
  kind : x.kind < 256
  id : x.id < 256
  other : x.other < 256
  exp : x.exp < 256
  arm : x.arm < 256
  cool : x.cool < 256
  after : x.after < 256
def u8F (n : Nat) : FV := .v (.int .u8 n)
def chF (x : Chg) : List FV := [u8F x.kind, u8F x.id, u8F x.other, u8F x.exp, u8F x.arm, u8F x.cool, u8F x.after]
def chA (x : Chg) : AV := .agg ((chF x).map FV.up)
def chsA (l : List Chg) : AV := .lst 7 (l.map chF)
def strF (s : ByteArray) : List FV := [.v (.string s)]
def idsL : List ByteArray := [⟨#[97, 110, 110]⟩, ⟨#[98, 111, 98]⟩, ⟨#[99, 97, 116]⟩, ⟨#[100, 97, 110]⟩, ⟨#[101, 118, 101]⟩, ⟨#[102, 97, 121]⟩]
def layL : List ByteArray := [⟨#[104, 111, 109, 101]⟩, ⟨#[115, 104, 111, 112]⟩]
def expL : List ByteArray := [⟨#[98, 108, 117, 101]⟩, ⟨#[103, 114, 101, 101, 110]⟩, ⟨#[102, 97, 115, 116]⟩, ⟨#[115, 108, 111, 119]⟩]
def idOf (n : Nat) : ByteArray := idsL.getD (n % 6) ⟨#[]⟩
def layOf (n : Nat) : ByteArray := layL.getD n ⟨#[]⟩
def expOf (n : Nat) : ByteArray := expL.getD n ⟨#[]⟩
theorem strRd {L : List ByteArray} {i : Nat} {K : List FV → Prop} (h : i < L.length) (c : K (strF (L.getD i ⟨#[]⟩))) : ARd (L.map strF) i K :=
  ⟨_, by rw [List.getElem?_map, List.getElem?_eq_getElem h]; rfl, by rw [List.getD_eq_getElem?_getD, List.getElem?_eq_getElem h] at c; exact c⟩
set_option maxRecDepth 100000 in
theorem idsA : AFn Tryd.prog GS 42 [] 0 [] (Own1 9 1 (idsL.map strF)) := by
  refine afn_of Tryd.func42 rfl mixed (by kernel_rfl) ?_
  conv => whnf
  exact aend (.own 0) 1 _ [(0, .lab 0)] [] ⟨rfl, rfl, rfl⟩ rfl (by repeat' (first | rfl | trivial | apply And.intro)) (by repeat' (first | rfl | trivial | apply And.intro))
set_option maxRecDepth 100000 in
theorem layersA : AFn Tryd.prog GS 22 [] 0 [] (Own1 9 1 (layL.map strF)) := by
  refine afn_of Tryd.func22 rfl mixed (by kernel_rfl) ?_
  conv => whnf
  exact aend (.own 0) 1 _ [(0, .lab 0)] [] ⟨rfl, rfl, rfl⟩ rfl (by repeat' (first | rfl | trivial | apply And.intro)) (by repeat' (first | rfl | trivial | apply And.intro))
set_option maxRecDepth 100000 in
theorem expsA : AFn Tryd.prog GS 41 [] 0 [] (Own1 9 1 (expL.map strF)) := by
  refine afn_of Tryd.func41 rfl mixed (by kernel_rfl) ?_
  conv => whnf
  exact aend (.own 0) 1 _ [(0, .lab 0)] [] ⟨rfl, rfl, rfl⟩ rfl (by repeat' (first | rfl | trivial | apply And.intro)) (by repeat' (first | rfl | trivial | apply And.intro))
attribute [local irreducible] idsL layL expL
theorem idsL_len : idsL.length = 6 := by unfold idsL; rfl
theorem layL_len : layL.length = 2 := by unfold layL; rfl
theorem expL_len : expL.length = 4 := by unfold expL; rfl
set_option maxHeartbeats 4000000 in
set_option maxRecDepth 100000 in
theorem idA (n : Nat) (hn : n < 256) : AFn Tryd.prog GS 19 [iv n] 0 [] (Is (sv (idOf n))) := by
  refine afn_of Tryd.func19 rfl mixed (by kernel_rfl) ?_
  conv => whnf
  (refine acallF [] (by kernel_rfl) (idsA) ?_ ?_; (focus (repeat' (first | rfl | trivial | apply And.intro))))
  rintro _ _ _ ⟨rfl, rfl, rfl⟩
  conv => whnf
  (refine acallF [] (by kernel_rfl) (idsA) ?_ ?_; (focus (repeat' (first | rfl | trivial | apply And.intro))))
  rintro _ _ _ ⟨rfl, rfl, rfl⟩
  conv => whnf
  rw [List.length_map, idsL_len]
  refine VReq.mk (by decide) ?_
  conv => whnf
  refine AIn.mk' (n % 6) rfl (by rw [List.length_map, idsL_len]; omega) ?_
  conv => whnf
  refine strRd (by rw [idsL_len]; omega) ?_
  conv => whnf
  exact aret [] (by repeat' (first | rfl | trivial | apply And.intro))

def nowOf (x : Chg) (r : Rg) : Int := r.now + ((x.after % 5 : Nat) : Int) - ((x.after / 240 : Nat) : Int)
theorem tmod5 (n : Nat) : Int.tmod (n : Int) 5 = ((n % 5 : Nat) : Int) := rfl
theorem tdiv240 (n : Nat) : Int.tdiv (n : Int) 240 = ((n / 240 : Nat) : Int) := rfl
set_option maxHeartbeats 4000000 in
set_option maxRecDepth 100000 in
theorem nowA (x : Chg) (r : Rg) (hx : x.ok) (hr : 0 ≤ r.now ∧ r.now ≤ 1099511627776) : AFn Tryd.prog GS 27 [chA x, rgA r] 0 [] (Is (iv (nowOf x r))) := by
  have ha := hx.after
  refine afn_of Tryd.func27 rfl mixed (by kernel_rfl) ?_
  conv => whnf
  (repeat' (first | (refine And.intro ?_ ?_ <;> (conv => whnf)) | (refine vif_split (fun h => ?_) (fun h => ?_) <;> (try simp only [sEqD, cond_true, cond_false, Bool.not_eq_true', Bool.not_eq_false', decide_eq_true_eq, decide_eq_false_iff_not, beq_iff_eq, bne_iff_ne, beq_eq_false_iff_ne, bne_eq_false_iff_eq, ne_eq, Bool.not_eq_eq_eq_not, Bool.not_true, Bool.not_false, Bool.false_eq_true, Bool.true_eq_false, Decidable.not_not, gt_iff_lt, ge_iff_le, Int.not_lt, Int.not_le] at h) <;> (conv => whnf)) | (refine AAr.i64 (by first | omega | ((try simp only [List.length_map] at *); omega)) ?_; conv => whnf) | (refine AIn.mk' _ rfl (by first | omega | (simp only [List.length_map, List.length_append, List.length_cons, List.length_nil, List.length_take, List.length_drop, List.length_set, List.length_replicate]; omega) | (simp only [List.length_map, List.length_append, List.length_cons, List.length_nil, List.length_take, List.length_drop, List.length_set, List.length_replicate] at *; omega)) ?_; conv => whnf) | (refine ARd.mapAt (by assumption) ?_; conv => whnf) | (refine ARd.set (by (try simp only [List.length_map, List.length_append, List.length_cons, List.length_nil, List.length_take, List.length_drop, List.length_set, List.length_replicate] at *); omega) ?_; conv => whnf) | (refine ARd.map (by first | omega | (simp only [List.length_map] at *; omega)) ?_; conv => whnf) | (refine VReq.mk (by first | decide | omega) ?_; conv => whnf) | (refine AEq.mk (by kernel_rfl) rfl rfl ?_; conv => whnf) | (refine VReq.mk (app_ok (by (try simp only [List.length_map, List.length_append, List.length_cons, List.length_nil, List.length_take, List.length_drop, List.length_set, List.length_replicate] at *); omega) (by kernel_rfl)) ?_; conv => whnf)))
  rw [tmod5]
  (repeat' (first | (refine And.intro ?_ ?_ <;> (conv => whnf)) | (refine vif_split (fun h => ?_) (fun h => ?_) <;> (try simp only [sEqD, cond_true, cond_false, Bool.not_eq_true', Bool.not_eq_false', decide_eq_true_eq, decide_eq_false_iff_not, beq_iff_eq, bne_iff_ne, beq_eq_false_iff_ne, bne_eq_false_iff_eq, ne_eq, Bool.not_eq_eq_eq_not, Bool.not_true, Bool.not_false, Bool.false_eq_true, Bool.true_eq_false, Decidable.not_not, gt_iff_lt, ge_iff_le, Int.not_lt, Int.not_le] at h) <;> (conv => whnf)) | (refine AAr.i64 (by first | omega | ((try simp only [List.length_map] at *); omega)) ?_; conv => whnf) | (refine AIn.mk' _ rfl (by first | omega | (simp only [List.length_map, List.length_append, List.length_cons, List.length_nil, List.length_take, List.length_drop, List.length_set, List.length_replicate]; omega) | (simp only [List.length_map, List.length_append, List.length_cons, List.length_nil, List.length_take, List.length_drop, List.length_set, List.length_replicate] at *; omega)) ?_; conv => whnf) | (refine ARd.mapAt (by assumption) ?_; conv => whnf) | (refine ARd.set (by (try simp only [List.length_map, List.length_append, List.length_cons, List.length_nil, List.length_take, List.length_drop, List.length_set, List.length_replicate] at *); omega) ?_; conv => whnf) | (refine ARd.map (by first | omega | (simp only [List.length_map] at *; omega)) ?_; conv => whnf) | (refine VReq.mk (by first | decide | omega) ?_; conv => whnf) | (refine AEq.mk (by kernel_rfl) rfl rfl ?_; conv => whnf) | (refine VReq.mk (app_ok (by (try simp only [List.length_map, List.length_append, List.length_cons, List.length_nil, List.length_take, List.length_drop, List.length_set, List.length_replicate] at *); omega) (by kernel_rfl)) ?_; conv => whnf)))
  rw [tdiv240]
  (repeat' (first | (refine And.intro ?_ ?_ <;> (conv => whnf)) | (refine vif_split (fun h => ?_) (fun h => ?_) <;> (try simp only [sEqD, cond_true, cond_false, Bool.not_eq_true', Bool.not_eq_false', decide_eq_true_eq, decide_eq_false_iff_not, beq_iff_eq, bne_iff_ne, beq_eq_false_iff_ne, bne_eq_false_iff_eq, ne_eq, Bool.not_eq_eq_eq_not, Bool.not_true, Bool.not_false, Bool.false_eq_true, Bool.true_eq_false, Decidable.not_not, gt_iff_lt, ge_iff_le, Int.not_lt, Int.not_le] at h) <;> (conv => whnf)) | (refine AAr.i64 (by first | omega | ((try simp only [List.length_map] at *); omega)) ?_; conv => whnf) | (refine AIn.mk' _ rfl (by first | omega | (simp only [List.length_map, List.length_append, List.length_cons, List.length_nil, List.length_take, List.length_drop, List.length_set, List.length_replicate]; omega) | (simp only [List.length_map, List.length_append, List.length_cons, List.length_nil, List.length_take, List.length_drop, List.length_set, List.length_replicate] at *; omega)) ?_; conv => whnf) | (refine ARd.mapAt (by assumption) ?_; conv => whnf) | (refine ARd.set (by (try simp only [List.length_map, List.length_append, List.length_cons, List.length_nil, List.length_take, List.length_drop, List.length_set, List.length_replicate] at *); omega) ?_; conv => whnf) | (refine ARd.map (by first | omega | (simp only [List.length_map] at *; omega)) ?_; conv => whnf) | (refine VReq.mk (by first | decide | omega) ?_; conv => whnf) | (refine AEq.mk (by kernel_rfl) rfl rfl ?_; conv => whnf) | (refine VReq.mk (app_ok (by (try simp only [List.length_map, List.length_append, List.length_cons, List.length_nil, List.length_take, List.length_drop, List.length_set, List.length_replicate] at *); omega) (by kernel_rfl)) ?_; conv => whnf)))
  exact aret [] (by repeat' (first | rfl | trivial | apply And.intro))
end Go.Proofs.YtinpgogjkmmjpaaDoor.Sx
