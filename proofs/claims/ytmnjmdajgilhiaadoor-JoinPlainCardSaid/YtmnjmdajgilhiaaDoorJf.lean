/- The walks of identity's forest, of Until, Forest and Members over abstract values. Condition: sizes. -/
import Derived.Test.YtmnjmdajgilhiaaDoorJs
set_option linter.unusedVariables false
set_option linter.unusedSimpArgs false
namespace Go.Proofs.YtmnjmdajgilhiaaDoor.Cl
open Go Go.RowKit Go.Proofs Go.Proofs.YtmnjmdajgilhiaaDoor.Vc Go.Proofs.YtmnjmdajgilhiaaDoor.Ax Go.Proofs.YtmnjmdajgilhiaaDoor.Id
attribute [local irreducible] loadVar storeVar Instr.indexAt Instr.index Instr.sliceAt Instr.makeSlice Instr.lookup Instr.mapUpdate Instr.range Instr.next Instr.entry Instr.makeMap Builtin.append_ Builtin.copy_ Builtin.len_ Builtin.min_ Builtin.max_ Builtin.cap_ Builtin.delete_ Builtin.clear_ convert binOp eqGuard Op.unary Calls
abbrev sv (s : ByteArray) : AV := .v (.string s)
def lkF (k : Lk) : List FV := [.v (.string k.a), .v (.string k.b), .v (.int .i64 k.t)]
abbrev lksA (l : List Lk) : AV := .lst 3 (l.map lkF)
/-- a map from ids to ids -/
def mF (F : ByteArray → Option ByteArray) : ABlk := .map fun k => (F k).map Value.string
section
variable {G : Glob}
set_option maxRecDepth 100000 in
theorem frootA {F : ByteArray → Option ByteArray} {R : ByteArray → ByteArray} {d : ByteArray → Nat} (hf : Fo F R d) (id : ByteArray) : AFn Tryd.prog G 70 [.mp 0, sv id] 1 [(0, mF F)] (fun a n H => a = sv (R id) ∧ n = 1 ∧ H = [(0, mF F)]) := by
  refine afn_of Tryd.func70 rfl mixed (by kernel_rfl) ?_
  conv => whnf
  refine aloop ws70_1 1 [1] (fun c : ByteArray => [(1, sv c)]) (fun _ => [(0, mF F)]) (fun c => R c = R id) d [] [] id (by kernel_rfl) (fun _ => rfl) rfl rfl (by repeat' (first | rfl | trivial | apply And.intro)) (by repeat' (first | rfl | trivial | apply And.intro)) ?_
  intro c hc
  conv => whnf
  refine ⟨?_⟩
  cases hF : F c with
  | none =>
    have e : R id = c := by rw [← hc]; exact hf.top c hF
    simp only [hF, Option.map_none, Option.getD_none, Option.isSome_none]
    conv => whnf
    exact aend (sv (R id)) 1 [(0, mF F)] [] [] ⟨rfl, rfl, rfl⟩ rfl (by repeat' (first | rfl | trivial | apply And.intro)) (by rw [e]; repeat' (first | rfl | trivial | apply And.intro))
  | some c' =>
    simp only [hF, Option.map_some, Option.getD_some, Option.isSome_some]
    conv => whnf
    exact aback c' [] [] rfl (hf.step c c' hF).2 ((hf.step c c' hF).1.trans hc) (by repeat' (first | rfl | trivial | apply And.intro)) (by repeat' (first | rfl | trivial | apply And.intro))
set_option maxRecDepth 100000 in
theorem fjoinA {F : ByteArray → Option ByteArray} {R : ByteArray → ByteArray} {d : ByteArray → Nat} (hf : Fo F R d) (x y : ByteArray) : AFn Tryd.prog G 68 [.mp 0, sv x, sv y] 1 [(0, mF F)] (fun a n H => ∃ F' d', a = bv (!decide (R x = R y)) ∧ n = 1 ∧ H = [(0, mF F')] ∧ Fo F' (jn R x y) d') := by
  refine afn_of Tryd.func68 rfl mixed (by kernel_rfl) ?_
  conv => whnf
  refine acallM [0] [] (by kernel_rfl) (frootA hf x) rfl (by repeat' (first | rfl | trivial | apply And.intro)) (by repeat' (first | rfl | trivial | apply And.intro)) ?_
  rintro _ _ _ ⟨rfl, rfl, rfl⟩
  refine ⟨rfl, ?_⟩
  conv => whnf
  refine acallM [0] [] (by kernel_rfl) (frootA hf y) rfl (by repeat' (first | rfl | trivial | apply And.intro)) (by repeat' (first | rfl | trivial | apply And.intro)) ?_
  rintro _ _ _ ⟨rfl, rfl, rfl⟩
  refine ⟨rfl, ?_⟩
  conv => whnf
  refine vif_split (fun h => ?_) (fun h => ?_)
  · have h : R x = R y := (sEq_iff _ _).1 h
    conv => whnf
    exact aend (bv false) 1 [(0, mF F)] [] [] ⟨F, d, by simp [h], rfl, rfl, by rw [jn_eq h]; exact hf⟩ rfl (by repeat' (first | rfl | trivial | apply And.intro)) (by repeat' (first | rfl | trivial | apply And.intro))
  · have h : R x ≠ R y := fun e => by rw [(sEq_iff _ _).2 e] at h; cases h
    conv => whnf
    refine aend (bv true) 1 [(0, mF fun k => if k = smax (R x) (R y) then some (smin (R x) (R y)) else F k)] [] [] ⟨_, _, by simp [h], rfl, rfl, hf.join h⟩ rfl ⟨?_, trivial⟩ (by repeat' (first | rfl | trivial | apply And.intro))
    show (fun k' => if k' = smax (R x) (R y) then some (Value.string (smin (R x) (R y))) else (F k').map Value.string) = fun k => (if k = smax (R x) (R y) then some (smin (R x) (R y)) else F k).map Value.string
    funext k
    split <;> rfl
structure FX where
  i : Nat
  F : ByteArray → Option ByteArray
  d : ByteArray → Nat
set_option maxRecDepth 100000 in
theorem iofA (ls : List Lk) (hl : ls.length ≤ 1000000) : AFn Tryd.prog G 69 [lksA ls] 0 [] (fun a n H => ∃ F d, a = .mp 0 ∧ n = 1 ∧ H = [(0, mF F)] ∧ Fo F (rt ls) d) := by
  refine afn_of Tryd.func69 rfl mixed (by kernel_rfl) ?_
  conv => whnf
  refine aloop ws69_1 1 [9] (fun x : FX => [(9, iv x.i)]) (fun x => [(0, mF x.F)]) (fun x => x.i ≤ ls.length ∧ Fo x.F (rt (ls.take x.i)) x.d) (fun x => ls.length - x.i) [] [] ⟨0, fun _ => none, fun _ => 0⟩ (by kernel_rfl) (fun _ => rfl) rfl ⟨Nat.zero_le _, Fo.nil⟩ (by repeat' (first | rfl | trivial | apply And.intro)) (by repeat' (first | rfl | trivial | apply And.intro)) ?_
  rintro ⟨i, F, d⟩ ⟨hi, hf⟩
  change i ≤ ls.length at hi
  change Fo F (rt (ls.take i)) d at hf
  conv => whnf
  refine vif_split (fun h => ?_) (fun h => ?_)
  · have hlt : i < ls.length := by simp at h; omega
    conv => whnf
    refine AIn.mk' i rfl (by rw [List.length_map]; exact hlt) ?_
    conv => whnf
    refine ARd.mapAt (List.getElem?_eq_getElem hlt) ?_
    conv => whnf
    refine acallM [0] [] (by kernel_rfl) (fjoinA hf ls[i].a ls[i].b) rfl (by repeat' (first | rfl | trivial | apply And.intro)) (by repeat' (first | rfl | trivial | apply And.intro)) ?_
    rintro _ _ _ ⟨F', d', rfl, rfl, rfl, hf'⟩
    refine ⟨rfl, ?_⟩
    conv => whnf
    refine AAr.i64 (by dsimp only; omega) ?_
    conv => whnf
    exact aback ⟨i + 1, F', d'⟩ [] [] rfl (by show ls.length - (i + 1) < ls.length - i; omega) ⟨hlt, by show Fo F' (rt (ls.take (i + 1))) d'; rw [List.take_succ_eq_append_getElem hlt, rt_snoc]; exact hf'⟩ (by repeat' (first | rfl | trivial | apply And.intro)) (by repeat' (first | rfl | trivial | apply And.intro))
  · have hie : i = ls.length := by simp at h; omega
    subst hie
    rw [List.take_length] at hf
    conv => whnf
    exact aend (.mp 0) 1 [(0, mF F)] [(0, .lab 0)] [] ⟨F, d, rfl, rfl, rfl, hf⟩ rfl (by repeat' (first | rfl | trivial | apply And.intro)) (by repeat' (first | rfl | trivial | apply And.intro))
set_option maxHeartbeats 4000000 in
set_option maxRecDepth 100000 in
theorem forestA (ls : List Lk) (hl : ls.length ≤ 1000000) : AFn Tryd.prog G 58 [lksA ls] 0 [] (Own1 84 3 ((frs ls).map lkF)) := by
  refine afn_of Tryd.func58 rfl mixed (by kernel_rfl) ?_
  conv => whnf
  refine aloop ws58_1 2 [3, 10] (fun x : FX => [(3, .own 1), (10, iv x.i)]) (fun x => [(1, .rows 84 3 ((frs (ls.take x.i)).map lkF)), (0, mF x.F)]) (fun x => x.i ≤ ls.length ∧ Fo x.F (rt (ls.take x.i)) x.d) (fun x => ls.length - x.i) [(1, .nil)] [] ⟨0, fun _ => none, fun _ => 0⟩ (by kernel_rfl) (fun _ => rfl) rfl ⟨Nat.zero_le _, Fo.nil⟩ (by repeat' (first | rfl | trivial | apply And.intro)) (by repeat' (first | rfl | trivial | apply And.intro)) ?_
  rintro ⟨i, F, d⟩ ⟨hi, hf⟩
  change i ≤ ls.length at hi
  change Fo F (rt (ls.take i)) d at hf
  have hfl := frs_len (ls.take i)
  rw [List.length_take] at hfl
  conv => whnf
  refine vif_split (fun h => ?_) (fun h => ?_)
  · have hlt : i < ls.length := by simp at h; omega
    have hsn : ls.take (i + 1) = ls.take i ++ [ls[i]] := List.take_succ_eq_append_getElem hlt
    have hfs := frs_snoc (ls.take i) ls[i]
    rw [← hsn, frs_rt] at hfs
    conv => whnf
    refine AIn.mk' i rfl (by rw [List.length_map]; exact hlt) ?_
    conv => whnf
    refine ARd.mapAt (List.getElem?_eq_getElem hlt) ?_
    conv => whnf
    refine acallM [0] [] (by kernel_rfl) (fjoinA hf ls[i].a ls[i].b) rfl (by repeat' (first | rfl | trivial | apply And.intro)) (by repeat' (first | rfl | trivial | apply And.intro)) ?_
    rintro _ _ _ ⟨F', d', rfl, rfl, rfl, hf'⟩
    refine ⟨rfl, ?_⟩
    have hf2 : Fo F' (rt (ls.take (i + 1))) d' := by rw [hsn, rt_snoc]; exact hf'
    conv => whnf
    refine vif_split (fun h => ?_) (fun h => ?_)
    · rw [if_neg (by simpa using h)] at hfs
      conv => whnf
      refine VReq.mk (app_ok (by simp only [List.length_map, List.length_cons, List.length_nil]; omega) (by kernel_rfl)) ?_
      conv => whnf
      refine AAr.i64 (by dsimp only; omega) ?_
      conv => whnf
      refine aback ⟨i + 1, F', d'⟩ [(1, .lab 4)] [] rfl (by show ls.length - (i + 1) < ls.length - i; omega) ⟨hlt, hf2⟩ ⟨⟨rfl, rfl, ?_⟩, (by repeat' (first | rfl | trivial | apply And.intro)), trivial⟩ (by repeat' (first | rfl | trivial | apply And.intro))
      show _ = (frs (ls.take (i + 1))).map lkF
      rw [hfs, List.map_append]
      rfl
    · rw [if_pos (by simpa using h)] at hfs
      conv => whnf
      refine AAr.i64 (by dsimp only; omega) ?_
      conv => whnf
      refine aback ⟨i + 1, F', d'⟩ [(1, .lab 1)] [] rfl (by show ls.length - (i + 1) < ls.length - i; omega) ⟨hlt, hf2⟩ ⟨⟨rfl, rfl, ?_⟩, (by repeat' (first | rfl | trivial | apply And.intro)), trivial⟩ (by repeat' (first | rfl | trivial | apply And.intro))
      show _ = (frs (ls.take (i + 1))).map lkF
      rw [hfs]
  · have hie : i = ls.length := by simp at h; omega
    subst hie
    rw [List.take_length]
    conv => whnf
    exact aend (.own 0) 1 _ [(0, .lab 1)] [] ⟨rfl, rfl, rfl⟩ rfl (by repeat' (first | rfl | trivial | apply And.intro)) (by repeat' (first | rfl | trivial | apply And.intro))
end
end Go.Proofs.YtmnjmdajgilhiaaDoor.Cl
