/- The walks of the made ids and of ColumnNames. Condition: none beside what the statement bounds. -/
import Derived.Test.YtmhpfadbmpipkaaGreatCt6
import Derived.Test.YtmhpfadbmpipkaaGreatCl28
set_option linter.unusedVariables false
set_option linter.unusedSimpArgs false
namespace Go.Proofs.YtmhpfadbmpipkaaGreat.Cl
open Go Go.RowKit Go.Proofs Go.Proofs.YtmhpfadbmpipkaaGreat.Vc Go.Proofs.YtmhpfadbmpipkaaGreat.Ax
attribute [local irreducible] loadVar storeVar Instr.indexAt Instr.index Instr.sliceAt Instr.makeSlice Instr.lookup Instr.mapUpdate Instr.range Instr.next Instr.entry Instr.makeMap Builtin.append_ Builtin.copy_ Builtin.len_ Builtin.min_ Builtin.max_ Builtin.cap_ Builtin.delete_ Builtin.clear_ convert binOp eqGuard Op.unary Calls
attribute [local irreducible] best ints en bd txs dsT
def idsT : Tx := [[97, 110, 110], [98, 111, 98], [99, 97, 116], [100, 97, 110], [101, 118, 101], [102, 97, 121]]
def idT (n : Nat) : By := idsT.getD (n % 6) []
set_option maxRecDepth 100000 in
theorem idsTA : AFn Tryz.prog GC 34 [] 0 [] (Own1 9 1 (idsT.map enT)) := by
  refine afn_of Tryz.func34 rfl mixed (by kernel_rfl) ?_
  conv => whnf
  exact aend (.own 0) 1 _ [(0, .lab 0)] [] ⟨rfl, rfl, rfl⟩ rfl (by repeat' (first | rfl | trivial | apply And.intro)) (by repeat' (first | rfl | trivial | apply And.intro))
theorem idsT_len : idsT.length = 6 := rfl
theorem idT_len (n : Nat) : (idT n).length ≤ 200 := by
  have h : ∀ k, k < 6 → (idsT.getD k []).length ≤ 200 := by decide
  exact h _ (Nat.mod_lt _ (by decide))
attribute [local irreducible] idsT
set_option maxHeartbeats 4000000 in
set_option maxRecDepth 100000 in
theorem idTA (n : Nat) (hn : n < 1000000) : AFn Tryz.prog GC 12 [iv n] 0 [] (Is (tv (idT n))) := by
  refine afn_of Tryz.func12 rfl mixed (by kernel_rfl) ?_
  conv => whnf
  (refine acallF [] (by kernel_rfl) (idsTA) ?_ ?_; (focus (repeat' (first | rfl | trivial | apply And.intro))))
  rintro _ _ _ ⟨rfl, rfl, rfl⟩
  conv => whnf
  (refine acallF [] (by kernel_rfl) (idsTA) ?_ ?_; (focus (repeat' (first | rfl | trivial | apply And.intro))))
  rintro _ _ _ ⟨rfl, rfl, rfl⟩
  conv => whnf
  rw [List.length_map, idsT_len]
  refine VReq.mk (by decide) ?_
  conv => whnf
  have hlt : n % 6 < idsT.length := by rw [idsT_len]; omega
  refine AIn.mk' (n % 6) rfl (by rw [List.length_map]; exact hlt) ?_
  conv => whnf
  refine ARd.mapAt (List.getElem?_eq_getElem hlt) ?_
  conv => whnf
  refine aret [] (congrArg (fun x : By => Value.string ⟨x.toArray⟩) ?_)
  unfold idT
  rw [List.getD_eq_getElem?_getD, List.getElem?_eq_getElem hlt]
  rfl
attribute [local irreducible] idT
set_option maxHeartbeats 16000000 in
set_option maxRecDepth 100000 in
theorem lawNamesA (l : By) (at_ how c : Nat) (hat : at_ < 65536) (hh : how < 65536) (hc : c < 256) : AFn Tryz.prog GC 4 [bs l, u16v at_, u16v how, u8v c] 0 [] (Is (bv true)) := by
  refine afn_of Tryz.func4 rfl mixed (by kernel_rfl) ?_
  conv => whnf
  (refine acall [] (by kernel_rfl) (awakeA) rfl ?_ ?_; (focus (repeat' (first | rfl | trivial | apply And.intro))))
  conv => whnf
  refine vif_split (fun h => ?_) (fun h => ?_)
  · conv => whnf
    exact aret [] (by repeat' (first | rfl | trivial | apply And.intro))
  have hll : l.length ≤ 200 := by simp at h; omega
  conv => whnf
  refine aloop ws4_1 1 [9, 10] (fun i : Nat => [(9, .own 0), (10, iv i)]) (fun i => [(0, .rows 9 1 (((l.take i).map fun c => idT c.toNat).map enT))]) (fun i => i ≤ l.length) (fun i => l.length - i) [(0, .nil)] [] 0 (by kernel_rfl) (fun _ => rfl) rfl (Nat.zero_le _) ⟨rfl, trivial⟩ ⟨trivial, rfl, trivial⟩ ?_
  intro i hi
  conv => whnf
  refine vif_split (fun h => ?_) (fun h => ?_)
  · have hlt : i < l.length := by simp at h; omega
    conv => whnf
    refine AIn.mk' i rfl (by rw [List.length_map]; exact hlt) ?_
    conv => whnf
    refine ARd.mapAt (List.getElem?_eq_getElem hlt) ?_
    conv => whnf
    have hb := l[i].toNat_lt
    refine AAr.i64 (by omega) ?_
    conv => whnf
    (refine acall [] (by kernel_rfl) (idTA l[i].toNat (by omega)) rfl ?_ ?_; (focus (repeat' (first | rfl | trivial | apply And.intro))))
    conv => whnf
    refine VReq.mk (app_ok (by simp only [List.length_map, List.length_append, List.length_cons, List.length_nil, List.length_take]; omega) (by kernel_rfl)) ?_
    conv => whnf
    refine AAr.i64 (by omega) ?_
    conv => whnf
    refine aback (i + 1) [(0, .lab 2)] [] rfl (by show l.length - (i + 1) < l.length - i; omega) hlt ⟨⟨rfl, rfl, ?_⟩, trivial⟩ ⟨rfl, rfl, trivial⟩
    rw [List.take_succ_eq_append_getElem hlt, List.map_append, List.map_append]
    rfl
  have hie : i = l.length := by simp at h; omega
  subst hie
  rw [List.take_length]
  have hok : TOK (l.map fun c => idT c.toNat) := fun s hs => by
    obtain ⟨c, _, rfl⟩ := List.mem_map.1 hs
    exact idT_len _
  have hnl : (l.map fun c => idT c.toNat).length ≤ 200 := by rw [List.length_map]; exact hll
  generalize (l.map fun c => idT c.toNat) = m at *
  have hxl := txs_len m hok (by omega)
  have hT2 := texts2A m (by omega) hok
  have hSp := spoilA (txs m) at_ how c (by omega) hat hh hc
  conv => whnf
  (refine acallF [0] (by kernel_rfl) (textsA m (by omega) hok) ?_ ?_; (focus (repeat' (first | rfl | trivial | apply And.intro))))
  rintro _ _ _ ⟨rfl, rfl, rfl⟩
  generalize txs m = x at *
  conv => whnf
  have hsE : ∀ z : ByteArray, sEq z z = true := fun z => by simp [sEqD]
  (refine adraw pln4 [0] (by kernel_rfl) ?_; conv => whnf)
  repeat' (first
    | (refine And.intro ?_ ?_ <;> (conv => whnf))
    | (refine ABy.of ?_; conv => whnf)
    | ((refine acallF [] (by kernel_rfl) (hT2) ?_ ?_; (focus (repeat' (first | rfl | trivial | apply And.intro)))); rintro _ _ _ ⟨rfl, rfl, rfl⟩; conv => whnf)
    | (refine vif_split (fun h => ?_) (fun h => ?_) <;> (try simp only [sEqD, cond_true, cond_false, Bool.not_eq_true', Bool.not_eq_false', decide_eq_true_eq, decide_eq_false_iff_not, beq_iff_eq, bne_iff_ne, beq_eq_false_iff_ne, bne_eq_false_iff_eq, ne_eq, Bool.not_eq_eq_eq_not, Bool.not_true, Bool.not_false, Bool.false_eq_true, Bool.true_eq_false, Decidable.not_not, gt_iff_lt, ge_iff_le, Int.not_lt, Int.not_le] at h) <;> (conv => whnf)))
  · exfalso; rename_i h; simp at h
  (refine acallF [] (by kernel_rfl) (hSp) ?_ ?_; (focus (repeat' (first | rfl | trivial | apply And.intro))))
  rintro _ _ _ ⟨z, hz, rfl, rfl, rfl⟩
  have hzl : z.length ≤ 100000 := by omega
  conv => whnf
  (refine acallF [] (by kernel_rfl) (readTextsA z hzl) ?_ ?_; (focus (repeat' (first | rfl | trivial | apply And.intro))))
  rintro _ _ _ ⟨p, n, e, hp, rfl, rfl, rfl⟩
  conv => whnf
  (refine acallF [] (by kernel_rfl) (readTexts2A z hzl) ?_ ?_; (focus (repeat' (first | rfl | trivial | apply And.intro))))
  rintro _ _ _ ⟨q, m', f, hq, rfl, rfl, rfl⟩
  obtain ⟨h1, h2, h3⟩ := hp.two z hq
  subst h1
  subst h2
  subst h3
  have hS := sameTA p p (by have := hp.2.1; omega)
  rw [decide_eq_true rfl] at hS
  conv => whnf
  repeat' (first
    | ((refine acall [] (by kernel_rfl) (hS) rfl ?_ ?_; (focus ((repeat' (first | rfl | trivial | apply And.intro)); done)); (conv => whnf)))
    | (refine vif_split (fun h => ?_) (fun h => ?_) <;> (try simp only [sEqD, cond_true, cond_false, Bool.not_eq_true', Bool.not_eq_false', decide_eq_true_eq, decide_eq_false_iff_not, beq_iff_eq, bne_iff_ne, beq_eq_false_iff_ne, bne_eq_false_iff_eq, ne_eq, Bool.not_eq_eq_eq_not, Bool.not_true, Bool.not_false, Bool.false_eq_true, Bool.true_eq_false, Decidable.not_not, gt_iff_lt, ge_iff_le, Int.not_lt, Int.not_le] at h) <;> (conv => whnf)))
  all_goals first
    | exact aret [] (by repeat' (first | rfl | trivial | apply And.intro))
    | (exfalso; rename_i h; exact h trivial)
end Go.Proofs.YtmhpfadbmpipkaaGreat.Cl
