/- The walk of ColumnTexts. Condition: none beside what the statement bounds. -/
import Derived.Test.YtmhpfadbmpipkaaGreatCt6
import Derived.Test.YtmhpfadbmpipkaaGreatCl28
set_option linter.unusedVariables false
set_option linter.unusedSimpArgs false
namespace Go.Proofs.YtmhpfadbmpipkaaGreat.Cl
open Go Go.RowKit Go.Proofs Go.Proofs.YtmhpfadbmpipkaaGreat.Vc Go.Proofs.YtmhpfadbmpipkaaGreat.Ax
attribute [local irreducible] loadVar storeVar Instr.indexAt Instr.index Instr.sliceAt Instr.makeSlice Instr.lookup Instr.mapUpdate Instr.range Instr.next Instr.entry Instr.makeMap Builtin.append_ Builtin.copy_ Builtin.len_ Builtin.min_ Builtin.max_ Builtin.cap_ Builtin.delete_ Builtin.clear_ convert binOp eqGuard Op.unary Calls
attribute [local irreducible] best ints en bd txs dsT
theorem txs_lenL (l : Tx) (h : TOK l) (hl : l.length ≤ 100) : (txs l).length ≤ 30000 := by have := txs_len l h (by omega); omega
set_option maxHeartbeats 16000000 in
set_option maxRecDepth 100000 in
theorem lawTextsA (l : Tx) (b more : By) (at_ how c : Nat) (hat : at_ < 65536) (hh : how < 65536) (hc : c < 256) : AFn Tryz.prog GC 3 [tl l, bs b, bs more, u16v at_, u16v how, u8v c] 0 [] (Is (bv true)) := by
  refine afn_of Tryz.func3 rfl mixed (by kernel_rfl) ?_
  conv => whnf
  (refine acall [] (by kernel_rfl) (awakeA) rfl ?_ ?_; (focus (repeat' (first | rfl | trivial | apply And.intro))))
  conv => whnf
  refine vif_split (fun h => ?_) (fun h => ?_)
  · conv => whnf
    exact aret [] (by repeat' (first | rfl | trivial | apply And.intro))
  have hll : l.length ≤ 100 := by simp at h; omega
  conv => whnf
  refine vif_split (fun h => ?_) (fun h => ?_)
  · conv => whnf
    exact aret [] (by repeat' (first | rfl | trivial | apply And.intro))
  have hbl : b.length ≤ 1000 := by simp at h; omega
  conv => whnf
  refine vif_split (fun h => ?_) (fun h => ?_)
  · conv => whnf
    exact aret [] (by repeat' (first | rfl | trivial | apply And.intro))
  have hml : more.length ≤ 200 := by simp at h; omega
  conv => whnf
  refine aloop ws3_1 0 [13] (fun i : Nat => [(13, iv i)]) (fun _ => []) (fun i => i ≤ l.length ∧ ∀ j (h : j < l.length), j < i → l[j].length ≤ 200) (fun i => l.length - i) [] [] 0 (by kernel_rfl) (fun _ => rfl) rfl ⟨Nat.zero_le _, fun j _ h => absurd h (Nat.not_lt_zero j)⟩ trivial ⟨rfl, trivial⟩ ?_
  rintro i ⟨hi, hin⟩
  conv => whnf
  refine vif_split (fun h => ?_) (fun h => ?_)
  · have hlt : i < l.length := by simp at h; omega
    conv => whnf
    refine AIn.mk' i rfl (by rw [List.length_map]; exact hlt) ?_
    conv => whnf
    refine ARd.mapAt (List.getElem?_eq_getElem hlt) ?_
    conv => whnf
    refine vif_split (fun h => ?_) (fun h => ?_)
    · conv => whnf
      exact aret [] (by repeat' (first | rfl | trivial | apply And.intro))
    have hx : l[i].length ≤ 200 := by
      have h := of_decide_eq_false h
      have e : (⟨l[i].toArray⟩ : ByteArray).size = l[i].length := rfl
      omega
    conv => whnf
    refine AAr.i64 (by omega) ?_
    conv => whnf
    refine aback (i + 1) [] [] rfl (by show l.length - (i + 1) < l.length - i; omega) ⟨hlt, fun j h hj => ?_⟩ trivial ⟨rfl, trivial⟩
    rcases Nat.lt_or_ge j i with h4 | h4
    · exact hin j h h4
    · have : j = i := by omega
      subst this; exact hx
  have hie : i = l.length := by simp at h; omega
  subst hie
  have hok : TOK l := fun s hs => by
    obtain ⟨j, hj, e⟩ := List.getElem_of_mem hs
    rw [← e]; exact hin j hj hj
  have hxl := txs_lenL l hok hll
  conv => whnf
  (refine acallF [] (by kernel_rfl) (textsA l (by omega) hok) ?_ ?_; (focus (repeat' (first | rfl | trivial | apply And.intro))))
  rintro _ _ _ ⟨rfl, rfl, rfl⟩
  have hT2 := texts2A l (by omega) hok
  have hR := readTextsA (txs l ++ more) (by rw [List.length_append]; omega)
  have hfull : GT (txs l ++ more) (fun l0 _ => l0 = l) → True := fun _ => trivial
  have hlc := hok
  have hSp := spoilA (txs l) at_ how c (by omega) hat hh hc
  have htw : ∀ y n e, RTs (txs l ++ more) y n e → y = l ∧ e = 0 ∧ n = (txs l).length := fun y n e hy => by
    obtain ⟨he, hyl⟩ := hy.2.2.2 l more (by omega) hok rfl
    refine ⟨hyl, he, ?_⟩
    rcases hy.2.2.1 with ⟨_, h, _⟩ | ⟨h, _⟩
    · rw [← hyl]; exact h
    · omega
  generalize txs l = x at *
  conv => whnf
  refine VReq.mk (app_ok (by simp only [List.length_map, List.length_append, List.length_nil]; omega) (by kernel_rfl)) ?_
  conv => whnf
  refine VReq.mk (app_ok (by simp only [List.length_map, List.length_append, List.length_nil]; omega) (by kernel_rfl)) ?_
  conv => whnf
  refine acallF [2] (by kernel_rfl) hR ⟨⟨rfl, rfl, by rw [List.map_append]; rfl⟩, trivial⟩ ?_
  rintro _ _ _ ⟨y, n, e, hy, rfl, rfl, rfl⟩
  obtain ⟨rfl, rfl, rfl⟩ := htw y n e hy
  have hS := sameTA y y (by omega)
  rw [decide_eq_true rfl] at hS
  conv => whnf
  (refine adraw pln3 [] (by kernel_rfl) ?_; conv => whnf)
  have hsE : ∀ z : ByteArray, sEq z z = true := fun z => by simp [sEqD]
  repeat' (first
    | (refine And.intro ?_ ?_ <;> (conv => whnf))
    | (refine ABy.of ?_; conv => whnf)
    | ((refine acallF [] (by kernel_rfl) (hT2) ?_ ?_; (focus (repeat' (first | rfl | trivial | apply And.intro)))); rintro _ _ _ ⟨rfl, rfl, rfl⟩; conv => whnf)
    | ((refine acall [] (by kernel_rfl) (hS) rfl ?_ ?_; (focus ((repeat' (first | rfl | trivial | apply And.intro)); done)); (conv => whnf)))
    | (refine vif_split (fun h => ?_) (fun h => ?_) <;> (try simp only [sEqD, cond_true, cond_false, Bool.not_eq_true', Bool.not_eq_false', decide_eq_true_eq, decide_eq_false_iff_not, beq_iff_eq, bne_iff_ne, beq_eq_false_iff_ne, bne_eq_false_iff_eq, ne_eq, Bool.not_eq_eq_eq_not, Bool.not_true, Bool.not_false, Bool.false_eq_true, Bool.true_eq_false, Decidable.not_not, gt_iff_lt, ge_iff_le, Int.not_lt, Int.not_le] at h) <;> (conv => whnf)))
  · exfalso; rename_i h; simp at h
  · exfalso; rename_i h; simp at h
  (refine acallF [] (by kernel_rfl) (hSp) ?_ ?_; (focus (repeat' (first | rfl | trivial | apply And.intro))))
  rintro _ _ _ ⟨z, hz, rfl, rfl, rfl⟩
  have hzl : z.length ≤ 100000 := by omega
  conv => whnf
  refine aloop ws3_2 3 [19] (fun i : Nat => [(19, iv i)]) (fun _ => []) (fun i => i ≤ 2) (fun i => 2 - i) [] [] 0 (by kernel_rfl) (fun _ => rfl) rfl (Nat.zero_le _) trivial ⟨rfl, trivial⟩ ?_
  rintro i hi
  have hcs : i = 0 ∨ i = 1 ∨ i = 2 := by omega
  rcases hcs with rfl | rfl | rfl
  · conv => whnf
    refine AIn.mk' 0 rfl (by show 0 < 2; decide) ?_
    conv => whnf
    refine ARd.at rfl ?_
    conv => whnf
    (refine acallF [] (by kernel_rfl) (readTextsA b (by omega)) ?_ ?_; (focus (repeat' (first | rfl | trivial | apply And.intro))))
    rintro _ _ _ ⟨p, n, e, hp, rfl, rfl, rfl⟩
    conv => whnf
    (refine acallF [] (by kernel_rfl) (readTexts2A b (by omega)) ?_ ?_; (focus (repeat' (first | rfl | trivial | apply And.intro))))
    rintro _ _ _ ⟨q, m', f, hq, rfl, rfl, rfl⟩
    obtain ⟨h1, h2, h3⟩ := hp.two b hq
    subst h1
    subst h2
    subst h3
    have hS := sameTA p p (by have := hp.2.1; omega)
    rw [decide_eq_true rfl] at hS
    conv => whnf
    refine vif_split (fun h => ?_) (fun h => ?_)
    · exfalso; simp at h
    conv => whnf
    refine vif_split (fun h => ?_) (fun h => ?_)
    · exfalso; simp at h
    conv => whnf
    (refine acall [] (by kernel_rfl) (hS) rfl ?_ ?_; (focus (repeat' (first | rfl | trivial | apply And.intro))))
    conv => whnf
    refine AAr.i64 (by decide) ?_
    conv => whnf
    exact aback (0 + 1) [] [] rfl (by decide) (by decide) trivial ⟨rfl, trivial⟩
  · conv => whnf
    refine AIn.mk' 1 rfl (by show 1 < 2; decide) ?_
    conv => whnf
    refine ARd.at rfl ?_
    conv => whnf
    (refine acallF [] (by kernel_rfl) (readTextsA z (by omega)) ?_ ?_; (focus (repeat' (first | rfl | trivial | apply And.intro))))
    rintro _ _ _ ⟨p, n, e, hp, rfl, rfl, rfl⟩
    conv => whnf
    (refine acallF [] (by kernel_rfl) (readTexts2A z (by omega)) ?_ ?_; (focus (repeat' (first | rfl | trivial | apply And.intro))))
    rintro _ _ _ ⟨q, m', f, hq, rfl, rfl, rfl⟩
    obtain ⟨h1, h2, h3⟩ := hp.two z hq
    subst h1
    subst h2
    subst h3
    have hS := sameTA p p (by have := hp.2.1; omega)
    rw [decide_eq_true rfl] at hS
    conv => whnf
    refine vif_split (fun h => ?_) (fun h => ?_)
    · exfalso; simp at h
    conv => whnf
    refine vif_split (fun h => ?_) (fun h => ?_)
    · exfalso; simp at h
    conv => whnf
    (refine acall [] (by kernel_rfl) (hS) rfl ?_ ?_; (focus (repeat' (first | rfl | trivial | apply And.intro))))
    conv => whnf
    refine AAr.i64 (by decide) ?_
    conv => whnf
    exact aback (1 + 1) [] [] rfl (by decide) (by decide) trivial ⟨rfl, trivial⟩
  · conv => whnf
    exact aret [] (by repeat' (first | rfl | trivial | apply And.intro))
end Go.Proofs.YtmhpfadbmpipkaaGreat.Cl
