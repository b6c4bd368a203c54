/- The walk of the chapter's examples. No condition. -/
import Derived.Test.YtmhpfadbmpipkaaGreatDoorCl11
set_option linter.unusedVariables false
set_option linter.unusedSimpArgs false
namespace Go.Proofs.YtmhpfadbmpipkaaGreatDoor.Cl
open Go Go.RowKit Go.Proofs Go.Proofs.YtmhpfadbmpipkaaGreatDoor.Vc Go.Proofs.YtmhpfadbmpipkaaGreatDoor.Ax
attribute [local irreducible] loadVar storeVar Instr.indexAt Instr.index Instr.sliceAt Instr.makeSlice Instr.lookup Instr.mapUpdate Instr.range Instr.next Instr.entry Instr.makeMap Builtin.append_ Builtin.copy_ Builtin.len_ Builtin.min_ Builtin.max_ Builtin.cap_ Builtin.delete_ Builtin.clear_ convert binOp eqGuard Op.unary Calls
theorem ex1 : ints [7, 7, 7, 7] = [4, 8, 14, 8] := by decide
theorem ex2 : ints [] = [2, 0] := by decide
attribute [local irreducible] best ints en bd
theorem all7 : AllI [7, 7, 7, 7] := fun x hx => by
  simp at hx; subst hx; unfold I64; omega
theorem ABy.of {s : By} {K : ByteArray → Prop} (c : K ⟨s.toArray⟩) : ABy (s.map enB) K := ⟨⟨s, rfl, c⟩⟩
set_option maxHeartbeats 4000000 in
set_option maxRecDepth 100000 in
theorem awakeA : AFn Tryz.prog GC 7 [] 0 [] (Is (bv true)) := by
  have h1 := intsA [7, 7, 7, 7] all7 (by decide)
  have h2 := intsA [] AllI.nil (by decide)
  rw [ex1] at h1
  rw [ex2] at h2
  refine afn_of Tryz.func7 rfl mixed (by kernel_rfl) ?_
  conv => whnf
  (refine acallF [0] (by kernel_rfl) (h1) ?_ ?_; (focus (repeat' (first | rfl | trivial | apply And.intro))))
  rintro _ _ _ ⟨rfl, rfl, rfl⟩
  conv => whnf
  refine ABy.of ?_
  conv => whnf
  (repeat' (first | (refine And.intro ?_ ?_ <;> (conv => whnf)) | (refine vif_split (fun h => ?_) (fun h => ?_) <;> (try simp only [sEqD, cond_true, cond_false, Bool.not_eq_true', Bool.not_eq_false', decide_eq_true_eq, decide_eq_false_iff_not, beq_iff_eq, bne_iff_ne, beq_eq_false_iff_ne, bne_eq_false_iff_eq, ne_eq, Bool.not_eq_eq_eq_not, Bool.not_true, Bool.not_false, Bool.false_eq_true, Bool.true_eq_false, Decidable.not_not, gt_iff_lt, ge_iff_le, Int.not_lt, Int.not_le] at h) <;> (conv => whnf)) | (refine AAr.i64 (by first | omega | ((try simp only [List.length_map] at *); omega)) ?_; conv => whnf) | (refine AIn.mk' _ rfl (by first | omega | (simp only [List.length_map, List.length_append, List.length_cons, List.length_nil, List.length_take, List.length_drop, List.length_set, List.length_replicate]; omega) | (simp only [List.length_map, List.length_append, List.length_cons, List.length_nil, List.length_take, List.length_drop, List.length_set, List.length_replicate] at *; omega)) ?_; conv => whnf) | (refine ARd.mapAt (by assumption) ?_; conv => whnf) | (refine ARd.set (by (try simp only [List.length_map, List.length_append, List.length_cons, List.length_nil, List.length_take, List.length_drop, List.length_set, List.length_replicate] at *); omega) ?_; conv => whnf) | (refine ARd.map (by first | omega | (simp only [List.length_map] at *; omega)) ?_; conv => whnf) | (refine VReq.mk (by first | decide | omega) ?_; conv => whnf) | (refine AEq.mk (by kernel_rfl) rfl rfl ?_; conv => whnf) | (refine VReq.mk (app_ok (by (try simp only [List.length_map, List.length_append, List.length_cons, List.length_nil, List.length_take, List.length_drop, List.length_set, List.length_replicate] at *); omega) (by kernel_rfl)) ?_; conv => whnf)))
  all_goals try (exfalso; revert h; decide)
  (refine acallF [] (by kernel_rfl) (h2) ?_ ?_; (focus (repeat' (first | rfl | trivial | apply And.intro))))
  rintro _ _ _ ⟨rfl, rfl, rfl⟩
  conv => whnf
  refine ABy.of ?_
  conv => whnf
  refine aret [] ?_
  exact congrArg Value.bool (by simp [sEqD])
theorem snocI (out : Li) (v : Int) : (out ++ [v]).map enI = out.map enI ++ [[FV.v (.int .i64 v)]] := by rw [List.map_append]; rfl
def enBo (b : Bool) : List FV := [.v (.bool b)]
/-- an addition of words -/
theorem add_u (x s : Int) : IntKind.i64.wrap (IntKind.u64.wrap (IntKind.u64.wrap x + IntKind.u64.wrap s)) = w64 (x + s) := by
  have e : IntKind.u64.bits = 64 := rfl
  have e1 : IntKind.u64.signed = false := rfl
  have := w64_of (IntKind.u64.wrap (IntKind.u64.wrap x + IntKind.u64.wrap s))
  unfold w64 at this
  rw [this, w64_of]
  simp only [IntKind.wrap, e, e1, Bool.false_and, Bool.false_eq_true, if_false]
  omega
abbrev u8v (n : Nat) : AV := .v (.int .u8 (n : Int))
structure BX where
  i : Nat
  out : Li
end Go.Proofs.YtmhpfadbmpipkaaGreatDoor.Cl
