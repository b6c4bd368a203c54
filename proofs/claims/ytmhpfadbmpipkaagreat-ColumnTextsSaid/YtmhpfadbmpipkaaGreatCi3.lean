/- The walk of the reference's ReadInts. Condition: at most 100000 bytes. -/
import Derived.Test.YtmhpfadbmpipkaaGreatCl27
import Derived.Test.YtmhpfadbmpipkaaGreatCi2
set_option linter.unusedVariables false
set_option linter.unusedSimpArgs false
namespace Go.Proofs.YtmhpfadbmpipkaaGreat.Cl
open Go Go.RowKit Go.Proofs Go.Proofs.YtmhpfadbmpipkaaGreat.Vc Go.Proofs.YtmhpfadbmpipkaaGreat.Ax
attribute [local irreducible] loadVar storeVar Instr.indexAt Instr.index Instr.sliceAt Instr.makeSlice Instr.lookup Instr.mapUpdate Instr.range Instr.next Instr.entry Instr.makeMap Builtin.append_ Builtin.copy_ Builtin.len_ Builtin.min_ Builtin.max_ Builtin.cap_ Builtin.delete_ Builtin.clear_ convert binOp eqGuard Op.unary Calls
attribute [local irreducible] best ints en bd
set_option maxHeartbeats 8000000 in
set_option maxRecDepth 100000 in
theorem readInts2A (b : By) (hb : b.length ≤ 100000) : AFn Tryz.prog GC 32 [bs b] 0 [] (RIa b) := by
  refine afn_of Tryz.func32 rfl mixed (by kernel_rfl) ?_
  conv => whnf
  (refine acallF [] (by kernel_rfl) (new2A b) ?_ ?_; (focus (repeat' (first | rfl | trivial | apply And.intro))))
  rintro _ _ _ ⟨rfl, rfl, rfl⟩
  conv => whnf
  refine acallM [0] [] (by kernel_rfl) (decodeA b hb) rfl (by repeat' (first | rfl | trivial | apply And.intro)) (by repeat' (first | rfl | trivial | apply And.intro)) ?_
  rintro _ _ _ ⟨l, e, j, hl, hs, hG, rfl, rfl, rfl⟩
  refine ⟨rfl, ?_⟩
  conv => whnf
  refine vif_split (fun h => ?_) (fun h => ?_)
  · have he : e ≠ 0 := by simpa using h
    conv => whnf
    exact aend (.tup [li [], iv (0 : Nat), iv 1]) 0 [] [] [] ⟨[], 0, 1, RIs.bad fun l0 r ha hl h => he (hG l0 r ha hl h).1, rfl, rfl, rfl⟩ rfl trivial (by repeat' (first | rfl | trivial | apply And.intro))
  have he : e = 0 := by simpa using h
  subst he
  have hI := ints2A l hl hs
  have hpre := beginsA b (ints l)
  conv => whnf
  (refine acallF [] (by kernel_rfl) (hI) ?_ ?_; (focus (repeat' (first | rfl | trivial | apply And.intro))))
  rintro _ _ _ ⟨rfl, rfl, rfl⟩
  conv => whnf
  (refine acall [] (by kernel_rfl) (hpre) rfl ?_ ?_; (focus (repeat' (first | rfl | trivial | apply And.intro))))
  conv => whnf
  refine vif_split (fun h => ?_) (fun h => ?_)
  · have hp : ¬ b.take (ints l).length = ints l := by simpa using h
    conv => whnf
    exact aend (.tup [li [], iv (0 : Nat), iv 1]) 0 [] [] [] ⟨[], 0, 1, RIs.bad fun l0 r ha hl h => hp (by rw [(hG l0 r ha hl h).2, h, List.take_left]), rfl, rfl, rfl⟩ rfl trivial (by repeat' (first | rfl | trivial | apply And.intro))
  · have hp : b.take (ints l).length = ints l := by simpa using h
    conv => whnf
    exact aend (.tup [li l, iv ((ints l).length : Nat), iv 0]) 0 [] [] [] ⟨l, (ints l).length, 0, ⟨hl, hs, .inl ⟨rfl, rfl, hp⟩, fun l0 r ha hl h => ⟨rfl, (hG l0 r ha hl h).2⟩⟩, rfl, rfl, rfl⟩ rfl trivial ⟨⟨rfl, rfl⟩, congrArg (fun n : Nat => Value.int .i64 (n : Int)) (List.length_map _), rfl, trivial⟩
end Go.Proofs.YtmhpfadbmpipkaaGreat.Cl
