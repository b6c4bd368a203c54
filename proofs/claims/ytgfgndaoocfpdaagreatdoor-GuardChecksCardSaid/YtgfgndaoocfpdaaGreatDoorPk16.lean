/- Joined parts of the proof. The walks of both balance Paths and Alarms -/
import Derived.Test.YtgfgndaoocfpdaaGreatDoorPk15
import Derived.Test.YtgfgndaoocfpdaaGreatDoorPk14
import Derived.Test.YtgfgndaoocfpdaaGreatDoorPk13
set_option linter.unusedVariables false
set_option linter.unusedSimpArgs false
set_option maxRecDepth 100000
set_option maxHeartbeats 16000000
namespace Go.Proofs.YtgfgndaoocfpdaaGreatDoor.Cl
open Go Go.RowKit Go.Proofs Go.Proofs.YtgfgndaoocfpdaaGreatDoor.Vc Go.Proofs.YtgfgndaoocfpdaaGreatDoor.Ax Go.Proofs.YtgfgndaoocfpdaaGreatDoor.Id
attribute [local irreducible] loadVar storeVar Instr.indexAt Instr.index Instr.sliceAt Instr.makeSlice Instr.lookup Instr.mapUpdate Instr.range Instr.next Instr.entry Instr.makeMap Builtin.append_ Builtin.copy_ Builtin.len_ Builtin.min_ Builtin.max_ Builtin.cap_ Builtin.delete_ Builtin.clear_ convert binOp eqGuard Op.unary Calls
def MCo (M : Int → Option FV) (C : Int → Int × Int) : Prop := ∀ k, match M k with | some f => f = .lst 1 [[.v (.int .i64 (C k).1)], [.v (.int .i64 (C k).2)]] | none => C k = (0, 0)
theorem MCo.no {M : Int → Option FV} {C : Int → Int × Int} (h : MCo M C) {k : Int} (hk : M k = none) : C k = (0, 0) := by have := h k; rw [hk] at this; exact this
theorem MCo.yes {M : Int → Option FV} {C : Int → Int × Int} (h : MCo M C) {k : Int} {f : FV} (hk : M k = some f) : f = .lst 1 [[.v (.int .i64 (C k).1)], [.v (.int .i64 (C k).2)]] := by have := h k; rw [hk] at this; exact this
theorem MCo.put {M : Int → Option FV} {C : Int → Int × Int} (h : MCo M C) (v : Int) (d : Int × Int) : MCo (fun k => if k = v then some (.lst 1 [[.v (.int .i64 d.1)], [.v (.int .i64 d.2)]]) else M k) fun k => if k = v then d else C k := fun k => by
 by_cases e : k = v
 ·simp only [if_pos e]
 ·simp only [if_neg e]; exact h k
structure KB where
 i : Nat
 M : Int → Option FV
theorem bsP_len (w : List Wg) (x : List Ex) : (bsP w x).out.length ≤ x.length := by
 have h : ∀ i, i ≤ x.length → (bsP w (x.take i)).out.length ≤ i := by
  intro i
  induction i with
  | zero => intro _; exact Nat.le_refl 0
  | succ i ih =>
   intro hi
   rw [bsP_take (by omega)]
   have := ih (by omega)
   generalize bsP w (x.take i) = s at *
   unfold bsN
   split
   ·omega
   ·simp only [List.length_append, List.length_cons, List.length_nil]; omega
 have := h x.length (Nat.le_refl _)
 rwa [List.take_length] at this
section
variable {G : Glob}
theorem bpathA (x : List Ex) (w : List Wg) (hx : x.length ≤ 100000) (hw : w.length ≤ 100000) : AFn Tryz.prog G 40 [exL x, wgL w] 0 [] (Is (li (balS x w))) := by
 obtain ⟨A, hA⟩ : ∃ A, A = balS x w := ⟨_, rfl⟩
 rw [← hA]
 refine afn_of Tryz.func40 rfl mixed (by kernel_rfl) ?_
 conv=>whnf
 refine aloop ws40_1 2 [6, 7, 18] (fun k : KB => [(6, iv (bsP w (x.take k.i)).w), (7, .own 1), (18, iv k.i)]) (fun k => [(1, .rows 3 1 ((bsP w (x.take k.i)).out.map enI)), (0, .imap k.M)]) (fun k => k.i ≤ x.length ∧ MCo k.M (bsP w (x.take k.i)).C) (fun k => x.length - k.i) [(1, .nil)] [] ⟨0, fun _ => none⟩ (by kernel_rfl) (fun _ => rfl) rfl ⟨Nat.zero_le _, fun k => rfl⟩ (by trivial) (by trivial) ?_
 rintro ⟨i, M⟩ ⟨hi, hM⟩
 dsimp only at hi hM
 have hol : (bsP w (x.take i)).out.length ≤ i := Nat.le_trans (bsP_len _ _) (List.length_take_le _ _)
 conv=>whnf
 apply vif_split <;> intro h
 rotate_left 1
 ·have hie : i = x.length := by simp at h; omega
  subst hie
  dsimp only
  rw [List.take_length]
  conv=>whnf
  exact aend (li A) 0 [] [] [1] ⟨rfl, rfl, rfl⟩ rfl trivial ⟨rfl, rfl, by rw [hA]; rfl⟩
 have hlt : i < x.length := by simp at h; omega
 have hg := List.getElem?_eq_getElem hlt
 have hn := bsP_take (w := w) hlt
 dsimp only
 generalize x[i] = e at *
 generalize bsP w (x.take i) = s at *
 unfold bsN at hn
 conv=>whnf
 refine AIn.mk' i rfl (lmZ hlt) ?_
 conv=>whnf
 refine ARd.mapAt hg ?_
 conv=>whnf
 refine acallM [2] [] (by kernel_rfl) (idxWA w e hw) rfl (by trivial) (by trivial) ?_
 rintro _ _ _ ⟨rfl, rfl, rfl⟩
 refine ⟨rfl, ?_⟩
 by_cases harm : e.arm = 1 ∨ e.arm = 2
 rotate_left 1
 ·have hcn : cntW w e = none := if_neg harm
  conv=>whnf
  repeat' (apply vif_split <;> intro h <;> (first | (exfalso; simp at h; omega) | (exfalso; simp_all; done) | (exfalso; simp_all; omega) | (conv=>whnf)))
  all_goals
   conv=>whnf
   refine AAr.i64 (by show _ ≤ (i : Int) + 1 ∧ (i : Int) + 1 ≤ _; omega) ?_
   conv=>whnf
   rw [show cntW w e = none from hcn] at hn
   exact aback ⟨i + 1, M⟩ [(1, .lab 1)] [] rfl (by show x.length - (i + 1) < x.length - i; omega) ⟨hlt, by show MCo M (bsP w (x.take (i + 1))).C; rw [hn]; exact hM⟩ ⟨⟨rfl, rfl, by show _ = (bsP w (x.take (i + 1))).out.map enI; rw [hn]⟩, rfl, trivial⟩ ⟨by show _ = Value.int .i64 (bsP w (x.take (i + 1))).w; rw [hn], rfl, rfl, trivial⟩
 rcases idxR_fnd w e.ver 0 with ⟨hI, hf⟩ | ⟨j, g, hI, hgw, hf⟩
 ·have hcn : cntW w e = none := by unfold cntW; rw [if_pos harm, hf]
  rw [hI]
  conv=>whnf
  repeat' (apply vif_split <;> intro h <;> (first | (exfalso; simp at h; omega) | (exfalso; simp_all; done) | (exfalso; simp_all; omega) | (conv=>whnf)))
  all_goals
   conv=>whnf
   refine AAr.i64 (by show _ ≤ (i : Int) + 1 ∧ (i : Int) + 1 ≤ _; omega) ?_
   conv=>whnf
   rw [show cntW w e = none from hcn] at hn
   exact aback ⟨i + 1, M⟩ [(1, .lab 1)] [] rfl (by show x.length - (i + 1) < x.length - i; omega) ⟨hlt, by show MCo M (bsP w (x.take (i + 1))).C; rw [hn]; exact hM⟩ ⟨⟨rfl, rfl, by show _ = (bsP w (x.take (i + 1))).out.map enI; rw [hn]⟩, rfl, trivial⟩ ⟨by show _ = Value.int .i64 (bsP w (x.take (i + 1))).w; rw [hn], rfl, rfl, trivial⟩
 have hjt := (List.getElem?_eq_some_iff.1 hgw).1
 rw [Nat.zero_add] at hI
 rw [hI]
 have hcn1 : ¬ (okW g.c ∧ okW g.t) → cntW w e = none := fun h => by unfold cntW; rw [if_pos harm, hf]; exact if_neg h
 have hcn2 : okW g.c ∧ okW g.t → cntW w e = some g := fun h => by unfold cntW; rw [if_pos harm, hf]; exact if_pos h
 unfold okW at hcn1 hcn2
 conv=>whnf
 repeat' (apply vif_split <;> intro h <;> (first | (exfalso; simp at h; omega) | (exfalso; simp_all; done) | (exfalso; simp_all; omega) | (conv=>whnf)))
 all_goals
  (refine adraw pln40 [] (by kernel_rfl) ?_; conv=>whnf)
  repeat' (first
   | (refine And.intro ?_ ?_ <;> (conv=>whnf))
   | (refine AIn.mk' j rfl (lmZ hjt) ?_; conv=>whnf)
   | (refine ARd.mapAt hgw ?_; conv=>whnf))
  refine vif_split (fun h1 => ?_) (fun h1 => ?_)
  ·have c1 : g.c < 1 := by simpa using h1
   all_goals
    conv=>whnf
    refine AAr.i64 (by show _ ≤ (i : Int) + 1 ∧ (i : Int) + 1 ≤ _; omega) ?_
    conv=>whnf
    rw [show cntW w e = none from hcn1 (by omega)] at hn
    exact aback ⟨i + 1, M⟩ [(1, .lab 1)] [] rfl (by show x.length - (i + 1) < x.length - i; omega) ⟨hlt, by show MCo M (bsP w (x.take (i + 1))).C; rw [hn]; exact hM⟩ ⟨⟨rfl, rfl, by show _ = (bsP w (x.take (i + 1))).out.map enI; rw [hn]⟩, rfl, trivial⟩ ⟨by show _ = Value.int .i64 (bsP w (x.take (i + 1))).w; rw [hn], rfl, rfl, trivial⟩
  have c1 : ¬ g.c < 1 := by simpa using h1
  conv=>whnf
  refine vif_split (fun h1 => ?_) (fun h1 => ?_)
  ·have c2 : 10000 < g.c := by simpa using h1
   all_goals
    conv=>whnf
    refine AAr.i64 (by show _ ≤ (i : Int) + 1 ∧ (i : Int) + 1 ≤ _; omega) ?_
    conv=>whnf
    rw [show cntW w e = none from hcn1 (by omega)] at hn
    exact aback ⟨i + 1, M⟩ [(1, .lab 1)] [] rfl (by show x.length - (i + 1) < x.length - i; omega) ⟨hlt, by show MCo M (bsP w (x.take (i + 1))).C; rw [hn]; exact hM⟩ ⟨⟨rfl, rfl, by show _ = (bsP w (x.take (i + 1))).out.map enI; rw [hn]⟩, rfl, trivial⟩ ⟨by show _ = Value.int .i64 (bsP w (x.take (i + 1))).w; rw [hn], rfl, rfl, trivial⟩
  have c2 : ¬ 10000 < g.c := by simpa using h1
  conv=>whnf
  refine vif_split (fun h1 => ?_) (fun h1 => ?_)
  ·have c3 : g.t < 1 := by simpa using h1
   all_goals
    conv=>whnf
    refine AAr.i64 (by show _ ≤ (i : Int) + 1 ∧ (i : Int) + 1 ≤ _; omega) ?_
    conv=>whnf
    rw [show cntW w e = none from hcn1 (by omega)] at hn
    exact aback ⟨i + 1, M⟩ [(1, .lab 1)] [] rfl (by show x.length - (i + 1) < x.length - i; omega) ⟨hlt, by show MCo M (bsP w (x.take (i + 1))).C; rw [hn]; exact hM⟩ ⟨⟨rfl, rfl, by show _ = (bsP w (x.take (i + 1))).out.map enI; rw [hn]⟩, rfl, trivial⟩ ⟨by show _ = Value.int .i64 (bsP w (x.take (i + 1))).w; rw [hn], rfl, rfl, trivial⟩
  have c3 : ¬ g.t < 1 := by simpa using h1
  conv=>whnf
  refine vif_split (fun h1 => ?_) (fun h1 => ?_)
  ·have c4 : 10000 < g.t := by simpa using h1
   all_goals
    conv=>whnf
    refine AAr.i64 (by show _ ≤ (i : Int) + 1 ∧ (i : Int) + 1 ≤ _; omega) ?_
    conv=>whnf
    rw [show cntW w e = none from hcn1 (by omega)] at hn
    exact aback ⟨i + 1, M⟩ [(1, .lab 1)] [] rfl (by show x.length - (i + 1) < x.length - i; omega) ⟨hlt, by show MCo M (bsP w (x.take (i + 1))).C; rw [hn]; exact hM⟩ ⟨⟨rfl, rfl, by show _ = (bsP w (x.take (i + 1))).out.map enI; rw [hn]⟩, rfl, trivial⟩ ⟨by show _ = Value.int .i64 (bsP w (x.take (i + 1))).w; rw [hn], rfl, rfl, trivial⟩
  have c4 : ¬ 10000 < g.t := by simpa using h1
  have hcn := hcn2 (by omega)
  rw [hcn] at hn
  dsimp only at hn
  conv=>whnf
  refine ⟨fun hno => ?_, fun y hy => ?_⟩
  ·have hz := hM.no hno
   rw [hz] at hn
   dsimp only at hn
   have hst := stepA (G := G) s.w 0 0 g.c g.t e.arm
   have hput := hM.put e.ver (stpC s.w 0 0 g.c g.t e.arm)
   generalize stpC s.w 0 0 g.c g.t e.arm = d at *
   generalize stpW s.w 0 0 g.c g.t e.arm = N at *
   conv=>whnf
   (refine adraw pln40 [0, 3, 4] (by kernel_rfl) ?_; conv=>whnf)
   refine acallF [3, 4] (by kernel_rfl) hst ?_ ?_
   ·trivial
   rintro _ _ _ ⟨rfl, rfl, rfl⟩
   conv=>whnf
   refine VReq.mk (app_int (by simp only [List.length_map, List.length_cons, List.length_nil]; omega)) ?_
   conv=>whnf
   refine AAr.i64 (by show _ ≤ (i : Int) + 1 ∧ (i : Int) + 1 ≤ _; omega) ?_
   conv=>whnf
   refine aback ⟨i + 1, _⟩ [(1, .lab 6)] [] rfl (by show x.length - (i + 1) < x.length - i; omega) ⟨hlt, by show MCo _ (bsP w (x.take (i + 1))).C; rw [hn]; exact hput⟩ ⟨⟨rfl, rfl, by show _ = (bsP w (x.take (i + 1))).out.map enI; rw [hn, List.map_append]; rfl⟩, rfl, trivial⟩ ⟨by show _ = Value.int .i64 (bsP w (x.take (i + 1))).w; rw [hn], rfl, rfl, trivial⟩
  ·have hz := hM.yes hy
   subst hz
   have hst := stepA (G := G) s.w (s.C e.ver).1 (s.C e.ver).2 g.c g.t e.arm
   have hput := hM.put e.ver (stpC s.w (s.C e.ver).1 (s.C e.ver).2 g.c g.t e.arm)
   generalize stpC s.w (s.C e.ver).1 (s.C e.ver).2 g.c g.t e.arm = d at *
   generalize stpW s.w (s.C e.ver).1 (s.C e.ver).2 g.c g.t e.arm = N at *
   conv=>whnf
   (refine adraw pln40 [0, 3] (by kernel_rfl) ?_; conv=>whnf)
   refine acallF [3] (by kernel_rfl) hst ?_ ?_
   ·trivial
   rintro _ _ _ ⟨rfl, rfl, rfl⟩
   conv=>whnf
   refine VReq.mk (app_int (by simp only [List.length_map, List.length_cons, List.length_nil]; omega)) ?_
   conv=>whnf
   refine AAr.i64 (by show _ ≤ (i : Int) + 1 ∧ (i : Int) + 1 ≤ _; omega) ?_
   conv=>whnf
   refine aback ⟨i + 1, _⟩ [(1, .lab 5)] [] rfl (by show x.length - (i + 1) < x.length - i; omega) ⟨hlt, by show MCo _ (bsP w (x.take (i + 1))).C; rw [hn]; exact hput⟩ ⟨⟨rfl, rfl, by show _ = (bsP w (x.take (i + 1))).out.map enI; rw [hn, List.map_append]; rfl⟩, rfl, trivial⟩ ⟨by show _ = Value.int .i64 (bsP w (x.take (i + 1))).w; rw [hn], rfl, rfl, trivial⟩
def cF (d : Int × Int) : FV := .lst 1 [[.v (.int .i64 d.1)], [.v (.int .i64 d.2)]]
def nF : FV := .v (.slice none 0 0)
structure KR where
 i : Nat
 a : FV
 b : FV
theorem bpath2A (x : List Ex) (g1 g2 : Wg) (hg12 : g1.ver ≠ g2.ver) (hx : x.length ≤ 100000) : AFn Tryz.prog G 46 [exL x, wgL [g1, g2]] 0 [] (Is (li (balS x [g1, g2]))) := by
 obtain ⟨A, hA⟩ : ∃ A, A = balS x [g1, g2] := ⟨_, rfl⟩
 rw [← hA]
 refine afn_of Tryz.func46 rfl mixed (by kernel_rfl) ?_
 conv=>whnf
 refine AMk.mk' (by_ := 24) 2 rfl rfl (by decide) ?_
 conv=>whnf
 refine aloop ws46_1 1 [7] (fun r : KR => [(7, iv r.i)]) (fun r => [(0, .rows 33 1 [[r.a], [r.b]])]) (fun r => r = ⟨0, nF, nF⟩ ∨ r = ⟨1, cF (0, 0), nF⟩ ∨ r = ⟨2, cF (0, 0), cF (0, 0)⟩) (fun r => 2 - r.i) [] [] ⟨0, nF, nF⟩ (by kernel_rfl) (fun _ => rfl) rfl (.inl rfl) (by trivial) (by trivial) ?_
 rintro r (rfl | rfl | rfl)
 ·conv=>whnf
  refine AIn.mk' 0 rfl (show 0 < 2 by decide) ?_
  conv=>whnf
  refine ARd.at rfl ?_
  conv=>whnf
  refine AAr.i64 (by dsimp only; decide) ?_
  conv=>whnf
  exact aback ⟨1, cF (0, 0), nF⟩ [] [] rfl (by decide) (.inr (.inl rfl)) (by trivial) (by trivial)
 ·conv=>whnf
  refine AIn.mk' 1 rfl (show 1 < 2 by decide) ?_
  conv=>whnf
  refine ARd.at rfl ?_
  conv=>whnf
  refine AAr.i64 (by dsimp only; decide) ?_
  conv=>whnf
  exact aback ⟨2, cF (0, 0), cF (0, 0)⟩ [] [] rfl (by decide) (.inr (.inr rfl)) (by trivial) (by trivial)
 conv=>whnf
 refine aloop ws46_2 2 [5, 8, 9] (fun i : Nat => [(5, iv (bsP [g1, g2] (x.take i)).w), (8, .own 1), (9, iv i)]) (fun i => [(1, .rows 3 1 ((bsP [g1, g2] (x.take i)).out.map enI)), (0, .rows 33 1 [[cF ((bsP [g1, g2] (x.take i)).C g1.ver)], [cF ((bsP [g1, g2] (x.take i)).C g2.ver)]])]) (fun i => i ≤ x.length) (fun i => x.length - i) [(1, .nil)] [] 0 (by kernel_rfl) (fun _ => rfl) rfl (Nat.zero_le _) (by trivial) (by trivial) ?_
 intro i hi
 have hol : (bsP [g1, g2] (x.take i)).out.length ≤ i := Nat.le_trans (bsP_len _ _) (List.length_take_le _ _)
 conv=>whnf
 apply vif_split <;> intro h
 rotate_left 1
 ·have hie : i = x.length := by simp at h; omega
  subst hie
  rw [List.take_length]
  conv=>whnf
  exact aend (li A) 0 [] [] [1] ⟨rfl, rfl, rfl⟩ rfl trivial ⟨rfl, rfl, by rw [hA]; rfl⟩
 have hlt : i < x.length := by simp at h; omega
 have hg := List.getElem?_eq_getElem hlt
 have hn := bsP_take (w := [g1, g2]) hlt
 generalize x[i] = e at *
 generalize bsP [g1, g2] (x.take i) = s at *
 unfold bsN at hn
 conv=>whnf
 refine aloop ws46_3 2 [10] (fun k : Nat => [(10, iv k)]) (fun _ => [(1, .rows 3 1 (s.out.map enI)), (0, .rows 33 1 [[cF (s.C g1.ver)], [cF (s.C g2.ver)]])]) (fun k => k ≤ 2 ∧ (1 ≤ k → g1.ver ≠ e.ver) ∧ (2 ≤ k → g2.ver ≠ e.ver)) (fun k => 2 - k) [] [] 0 (by kernel_rfl) (fun _ => rfl) rfl ⟨by decide, fun h => by omega, fun h => by omega⟩ (by trivial) (by trivial) ?_
 rintro k ⟨hk, hk1, hk2⟩
 have hk3 : k = 0 ∨ k = 1 ∨ k = 2 := by omega
 rcases hk3 with rfl | rfl | rfl
 ·conv=>whnf
  (refine adraw pln46 [] (by kernel_rfl) ?_; conv=>whnf)
  repeat' (first
   | (refine AIn.mk' 0 rfl (show 0 < 2 by decide) ?_; conv=>whnf)
   | (refine ARd.at rfl ?_; conv=>whnf)
   | (refine AIn.mk' i rfl (lmZ hlt) ?_; conv=>whnf)
   | (refine ARd.mapAt hg ?_; conv=>whnf))
  refine vif_split (fun h1 => ?_) (fun h1 => ?_)
  ·have hne : g1.ver ≠ e.ver := by simpa using h1
   conv=>whnf
   refine AAr.i64 (by decide) ?_
   conv=>whnf
   exact aback 1 [] [] rfl (by decide) ⟨by decide, fun _ => hne, fun h => by omega⟩ (by trivial) (by trivial)
  have he : g1.ver = e.ver := by simpa using h1
  have hf : fndW [g1, g2] e.ver = some g1 := by unfold fndW; rw [List.find?_cons]; simp [he]
  conv=>whnf
  repeat' (first
   | (refine AIn.mk' i rfl (lmZ hlt) ?_; conv=>whnf)
   | (refine ARd.mapAt hg ?_; conv=>whnf))
  refine vif_split (fun h1 => ?_) (fun h1 => ?_)
  ·have c1 : e.arm < 1 := by simpa using h1
   have hcn : cntW [g1, g2] e = none := if_neg (by omega)
   all_goals
    conv=>whnf
    refine AAr.i64 (by show _ ≤ (i : Int) + 1 ∧ (i : Int) + 1 ≤ _; omega) ?_
    conv=>whnf
    rw [show cntW [g1, g2] e = none from hcn] at hn
    exact aback (i + 1) [(1, .lab 1)] [] rfl (by show x.length - (i + 1) < x.length - i; omega) hlt ⟨⟨rfl, rfl, by show _ = (bsP _ (x.take (i + 1))).out.map enI; rw [hn]⟩, ⟨rfl, rfl, by show _ = [[cF ((bsP _ (x.take (i + 1))).C g1.ver)], [cF ((bsP _ (x.take (i + 1))).C g2.ver)]]; rw [hn]⟩, trivial⟩ ⟨by show _ = Value.int .i64 (bsP _ (x.take (i + 1))).w; rw [hn], rfl, rfl, trivial⟩
  have c1 : ¬ e.arm < 1 := by simpa using h1
  conv=>whnf
  repeat' (first
   | (refine AIn.mk' i rfl (lmZ hlt) ?_; conv=>whnf)
   | (refine ARd.mapAt hg ?_; conv=>whnf))
  refine vif_split (fun h1 => ?_) (fun h1 => ?_)
  ·have c2 : 2 < e.arm := by simpa using h1
   have hcn : cntW [g1, g2] e = none := if_neg (by omega)
   all_goals
    conv=>whnf
    refine AAr.i64 (by show _ ≤ (i : Int) + 1 ∧ (i : Int) + 1 ≤ _; omega) ?_
    conv=>whnf
    rw [show cntW [g1, g2] e = none from hcn] at hn
    exact aback (i + 1) [(1, .lab 1)] [] rfl (by show x.length - (i + 1) < x.length - i; omega) hlt ⟨⟨rfl, rfl, by show _ = (bsP _ (x.take (i + 1))).out.map enI; rw [hn]⟩, ⟨rfl, rfl, by show _ = [[cF ((bsP _ (x.take (i + 1))).C g1.ver)], [cF ((bsP _ (x.take (i + 1))).C g2.ver)]]; rw [hn]⟩, trivial⟩ ⟨by show _ = Value.int .i64 (bsP _ (x.take (i + 1))).w; rw [hn], rfl, rfl, trivial⟩
  have c2 : ¬ 2 < e.arm := by simpa using h1
  have harm : e.arm = 1 ∨ e.arm = 2 := by omega
  have hcn1 : ¬ (okW g1.c ∧ okW g1.t) → cntW [g1, g2] e = none := fun h => by unfold cntW; rw [if_pos harm, hf]; exact if_neg h
  have hcn2 : okW g1.c ∧ okW g1.t → cntW [g1, g2] e = some g1 := fun h => by unfold cntW; rw [if_pos harm, hf]; exact if_pos h
  unfold okW at hcn1 hcn2
  have hwc := weights2A (G := G) [g1, g2] e.ver (by show 2 ≤ 100000; decide)
  rw [hf] at hwc
  conv=>whnf
  repeat' (first
   | (refine AIn.mk' i rfl (lmZ hlt) ?_; conv=>whnf)
   | (refine ARd.mapAt hg ?_; conv=>whnf))
  (refine acall [] (by kernel_rfl) (hwc) rfl ?_ ?_; (focus trivial))
  conv=>whnf
  refine vif_split (fun h1 => ?_) (fun h1 => ?_)
  ·have d1 : g1.c < 1 := by simpa using h1
   all_goals
    conv=>whnf
    refine AAr.i64 (by show _ ≤ (i : Int) + 1 ∧ (i : Int) + 1 ≤ _; omega) ?_
    conv=>whnf
    rw [show cntW [g1, g2] e = none from hcn1 (by omega)] at hn
    exact aback (i + 1) [(1, .lab 1)] [] rfl (by show x.length - (i + 1) < x.length - i; omega) hlt ⟨⟨rfl, rfl, by show _ = (bsP _ (x.take (i + 1))).out.map enI; rw [hn]⟩, ⟨rfl, rfl, by show _ = [[cF ((bsP _ (x.take (i + 1))).C g1.ver)], [cF ((bsP _ (x.take (i + 1))).C g2.ver)]]; rw [hn]⟩, trivial⟩ ⟨by show _ = Value.int .i64 (bsP _ (x.take (i + 1))).w; rw [hn], rfl, rfl, trivial⟩
  have d1 : ¬ g1.c < 1 := by simpa using h1
  conv=>whnf
  refine vif_split (fun h1 => ?_) (fun h1 => ?_)
  ·have d2 : 10000 < g1.c := by simpa using h1
   all_goals
    conv=>whnf
    refine AAr.i64 (by show _ ≤ (i : Int) + 1 ∧ (i : Int) + 1 ≤ _; omega) ?_
    conv=>whnf
    rw [show cntW [g1, g2] e = none from hcn1 (by omega)] at hn
    exact aback (i + 1) [(1, .lab 1)] [] rfl (by show x.length - (i + 1) < x.length - i; omega) hlt ⟨⟨rfl, rfl, by show _ = (bsP _ (x.take (i + 1))).out.map enI; rw [hn]⟩, ⟨rfl, rfl, by show _ = [[cF ((bsP _ (x.take (i + 1))).C g1.ver)], [cF ((bsP _ (x.take (i + 1))).C g2.ver)]]; rw [hn]⟩, trivial⟩ ⟨by show _ = Value.int .i64 (bsP _ (x.take (i + 1))).w; rw [hn], rfl, rfl, trivial⟩
  have d2 : ¬ 10000 < g1.c := by simpa using h1
  conv=>whnf
  refine vif_split (fun h1 => ?_) (fun h1 => ?_)
  ·have d3 : g1.t < 1 := by simpa using h1
   all_goals
    conv=>whnf
    refine AAr.i64 (by show _ ≤ (i : Int) + 1 ∧ (i : Int) + 1 ≤ _; omega) ?_
    conv=>whnf
    rw [show cntW [g1, g2] e = none from hcn1 (by omega)] at hn
    exact aback (i + 1) [(1, .lab 1)] [] rfl (by show x.length - (i + 1) < x.length - i; omega) hlt ⟨⟨rfl, rfl, by show _ = (bsP _ (x.take (i + 1))).out.map enI; rw [hn]⟩, ⟨rfl, rfl, by show _ = [[cF ((bsP _ (x.take (i + 1))).C g1.ver)], [cF ((bsP _ (x.take (i + 1))).C g2.ver)]]; rw [hn]⟩, trivial⟩ ⟨by show _ = Value.int .i64 (bsP _ (x.take (i + 1))).w; rw [hn], rfl, rfl, trivial⟩
  have d3 : ¬ g1.t < 1 := by simpa using h1
  conv=>whnf
  refine vif_split (fun h1 => ?_) (fun h1 => ?_)
  ·have d4 : 10000 < g1.t := by simpa using h1
   all_goals
    conv=>whnf
    refine AAr.i64 (by show _ ≤ (i : Int) + 1 ∧ (i : Int) + 1 ≤ _; omega) ?_
    conv=>whnf
    rw [show cntW [g1, g2] e = none from hcn1 (by omega)] at hn
    exact aback (i + 1) [(1, .lab 1)] [] rfl (by show x.length - (i + 1) < x.length - i; omega) hlt ⟨⟨rfl, rfl, by show _ = (bsP _ (x.take (i + 1))).out.map enI; rw [hn]⟩, ⟨rfl, rfl, by show _ = [[cF ((bsP _ (x.take (i + 1))).C g1.ver)], [cF ((bsP _ (x.take (i + 1))).C g2.ver)]]; rw [hn]⟩, trivial⟩ ⟨by show _ = Value.int .i64 (bsP _ (x.take (i + 1))).w; rw [hn], rfl, rfl, trivial⟩
  have d4 : ¬ 10000 < g1.t := by simpa using h1
  have hcn := hcn2 (by omega)
  rw [hcn] at hn
  dsimp only at hn
  have hst := step2A (G := G) s.w (s.C e.ver).1 (s.C e.ver).2 g1.c g1.t e.arm
  generalize stpC s.w (s.C e.ver).1 (s.C e.ver).2 g1.c g1.t e.arm = d at *
  generalize stpW s.w (s.C e.ver).1 (s.C e.ver).2 g1.c g1.t e.arm = N at *
  conv=>whnf
  (refine adraw pln46 [3] (by kernel_rfl) ?_; conv=>whnf)
  repeat' (first
   | (refine And.intro ?_ ?_ <;> (conv=>whnf))
   | (refine AIn.mk' 0 rfl (show 0 < 2 by decide) ?_; conv=>whnf)
   | (refine ARd.at rfl ?_; conv=>whnf)
   | (refine AIn.mk' i rfl (lmZ hlt) ?_; conv=>whnf)
   | (refine ARd.mapAt hg ?_; conv=>whnf))
  refine acallF [3] (by kernel_rfl) hst ?_ ?_
  ·repeat' (first | rfl | trivial | (rw [he]; done) | apply And.intro)
  rintro _ _ _ ⟨rfl, rfl, rfl⟩
  conv=>whnf
  repeat' (first
   | (refine AIn.mk' 0 rfl (show 0 < 2 by decide) ?_; conv=>whnf)
   | (refine ARd.at rfl ?_; conv=>whnf))
  refine VReq.mk (app_int (by simp only [List.length_map, List.length_cons, List.length_nil]; omega)) ?_
  conv=>whnf
  refine AAr.i64 (by show _ ≤ (i : Int) + 1 ∧ (i : Int) + 1 ≤ _; omega) ?_
  conv=>whnf
  exact aback (i + 1) [(1, .lab 5)] [] rfl (by show x.length - (i + 1) < x.length - i; omega) hlt ⟨⟨rfl, rfl, by show _ = (bsP _ (x.take (i + 1))).out.map enI; rw [hn, List.map_append]; rfl⟩, ⟨rfl, rfl, by show _ = [[cF ((bsP _ (x.take (i + 1))).C g1.ver)], [cF ((bsP _ (x.take (i + 1))).C g2.ver)]]; rw [hn]; dsimp only; rw [if_pos he, if_neg (fun h => hg12 (he.trans h.symm))]; rfl⟩, trivial⟩ ⟨by show _ = Value.int .i64 (bsP _ (x.take (i + 1))).w; rw [hn], rfl, rfl, trivial⟩
 ·have hne1 := hk1 (Nat.le_refl _)
  conv=>whnf
  (refine adraw pln46 [] (by kernel_rfl) ?_; conv=>whnf)
  repeat' (first
   | (refine AIn.mk' 1 rfl (show 1 < 2 by decide) ?_; conv=>whnf)
   | (refine ARd.at rfl ?_; conv=>whnf)
   | (refine AIn.mk' i rfl (lmZ hlt) ?_; conv=>whnf)
   | (refine ARd.mapAt hg ?_; conv=>whnf))
  refine vif_split (fun h1 => ?_) (fun h1 => ?_)
  ·have hne : g2.ver ≠ e.ver := by simpa using h1
   conv=>whnf
   refine AAr.i64 (by decide) ?_
   conv=>whnf
   exact aback 2 [] [] rfl (by decide) ⟨by decide, fun _ => hne1, fun _ => hne⟩ (by trivial) (by trivial)
  have he : g2.ver = e.ver := by simpa using h1
  have hf : fndW [g1, g2] e.ver = some g2 := by unfold fndW; rw [List.find?_cons, List.find?_cons]; simp [he, hne1]
  conv=>whnf
  repeat' (first
   | (refine AIn.mk' i rfl (lmZ hlt) ?_; conv=>whnf)
   | (refine ARd.mapAt hg ?_; conv=>whnf))
  refine vif_split (fun h1 => ?_) (fun h1 => ?_)
  ·have c1 : e.arm < 1 := by simpa using h1
   have hcn : cntW [g1, g2] e = none := if_neg (by omega)
   all_goals
    conv=>whnf
    refine AAr.i64 (by show _ ≤ (i : Int) + 1 ∧ (i : Int) + 1 ≤ _; omega) ?_
    conv=>whnf
    rw [show cntW [g1, g2] e = none from hcn] at hn
    exact aback (i + 1) [(1, .lab 1)] [] rfl (by show x.length - (i + 1) < x.length - i; omega) hlt ⟨⟨rfl, rfl, by show _ = (bsP _ (x.take (i + 1))).out.map enI; rw [hn]⟩, ⟨rfl, rfl, by show _ = [[cF ((bsP _ (x.take (i + 1))).C g1.ver)], [cF ((bsP _ (x.take (i + 1))).C g2.ver)]]; rw [hn]⟩, trivial⟩ ⟨by show _ = Value.int .i64 (bsP _ (x.take (i + 1))).w; rw [hn], rfl, rfl, trivial⟩
  have c1 : ¬ e.arm < 1 := by simpa using h1
  conv=>whnf
  repeat' (first
   | (refine AIn.mk' i rfl (lmZ hlt) ?_; conv=>whnf)
   | (refine ARd.mapAt hg ?_; conv=>whnf))
  refine vif_split (fun h1 => ?_) (fun h1 => ?_)
  ·have c2 : 2 < e.arm := by simpa using h1
   have hcn : cntW [g1, g2] e = none := if_neg (by omega)
   all_goals
    conv=>whnf
    refine AAr.i64 (by show _ ≤ (i : Int) + 1 ∧ (i : Int) + 1 ≤ _; omega) ?_
    conv=>whnf
    rw [show cntW [g1, g2] e = none from hcn] at hn
    exact aback (i + 1) [(1, .lab 1)] [] rfl (by show x.length - (i + 1) < x.length - i; omega) hlt ⟨⟨rfl, rfl, by show _ = (bsP _ (x.take (i + 1))).out.map enI; rw [hn]⟩, ⟨rfl, rfl, by show _ = [[cF ((bsP _ (x.take (i + 1))).C g1.ver)], [cF ((bsP _ (x.take (i + 1))).C g2.ver)]]; rw [hn]⟩, trivial⟩ ⟨by show _ = Value.int .i64 (bsP _ (x.take (i + 1))).w; rw [hn], rfl, rfl, trivial⟩
  have c2 : ¬ 2 < e.arm := by simpa using h1
  have harm : e.arm = 1 ∨ e.arm = 2 := by omega
  have hcn1 : ¬ (okW g2.c ∧ okW g2.t) → cntW [g1, g2] e = none := fun h => by unfold cntW; rw [if_pos harm, hf]; exact if_neg h
  have hcn2 : okW g2.c ∧ okW g2.t → cntW [g1, g2] e = some g2 := fun h => by unfold cntW; rw [if_pos harm, hf]; exact if_pos h
  unfold okW at hcn1 hcn2
  have hwc := weights2A (G := G) [g1, g2] e.ver (by show 2 ≤ 100000; decide)
  rw [hf] at hwc
  conv=>whnf
  repeat' (first
   | (refine AIn.mk' i rfl (lmZ hlt) ?_; conv=>whnf)
   | (refine ARd.mapAt hg ?_; conv=>whnf))
  (refine acall [] (by kernel_rfl) (hwc) rfl ?_ ?_; (focus trivial))
  conv=>whnf
  refine vif_split (fun h1 => ?_) (fun h1 => ?_)
  ·have d1 : g2.c < 1 := by simpa using h1
   all_goals
    conv=>whnf
    refine AAr.i64 (by show _ ≤ (i : Int) + 1 ∧ (i : Int) + 1 ≤ _; omega) ?_
    conv=>whnf
    rw [show cntW [g1, g2] e = none from hcn1 (by omega)] at hn
    exact aback (i + 1) [(1, .lab 1)] [] rfl (by show x.length - (i + 1) < x.length - i; omega) hlt ⟨⟨rfl, rfl, by show _ = (bsP _ (x.take (i + 1))).out.map enI; rw [hn]⟩, ⟨rfl, rfl, by show _ = [[cF ((bsP _ (x.take (i + 1))).C g1.ver)], [cF ((bsP _ (x.take (i + 1))).C g2.ver)]]; rw [hn]⟩, trivial⟩ ⟨by show _ = Value.int .i64 (bsP _ (x.take (i + 1))).w; rw [hn], rfl, rfl, trivial⟩
  have d1 : ¬ g2.c < 1 := by simpa using h1
  conv=>whnf
  refine vif_split (fun h1 => ?_) (fun h1 => ?_)
  ·have d2 : 10000 < g2.c := by simpa using h1
   all_goals
    conv=>whnf
    refine AAr.i64 (by show _ ≤ (i : Int) + 1 ∧ (i : Int) + 1 ≤ _; omega) ?_
    conv=>whnf
    rw [show cntW [g1, g2] e = none from hcn1 (by omega)] at hn
    exact aback (i + 1) [(1, .lab 1)] [] rfl (by show x.length - (i + 1) < x.length - i; omega) hlt ⟨⟨rfl, rfl, by show _ = (bsP _ (x.take (i + 1))).out.map enI; rw [hn]⟩, ⟨rfl, rfl, by show _ = [[cF ((bsP _ (x.take (i + 1))).C g1.ver)], [cF ((bsP _ (x.take (i + 1))).C g2.ver)]]; rw [hn]⟩, trivial⟩ ⟨by show _ = Value.int .i64 (bsP _ (x.take (i + 1))).w; rw [hn], rfl, rfl, trivial⟩
  have d2 : ¬ 10000 < g2.c := by simpa using h1
  conv=>whnf
  refine vif_split (fun h1 => ?_) (fun h1 => ?_)
  ·have d3 : g2.t < 1 := by simpa using h1
   all_goals
    conv=>whnf
    refine AAr.i64 (by show _ ≤ (i : Int) + 1 ∧ (i : Int) + 1 ≤ _; omega) ?_
    conv=>whnf
    rw [show cntW [g1, g2] e = none from hcn1 (by omega)] at hn
    exact aback (i + 1) [(1, .lab 1)] [] rfl (by show x.length - (i + 1) < x.length - i; omega) hlt ⟨⟨rfl, rfl, by show _ = (bsP _ (x.take (i + 1))).out.map enI; rw [hn]⟩, ⟨rfl, rfl, by show _ = [[cF ((bsP _ (x.take (i + 1))).C g1.ver)], [cF ((bsP _ (x.take (i + 1))).C g2.ver)]]; rw [hn]⟩, trivial⟩ ⟨by show _ = Value.int .i64 (bsP _ (x.take (i + 1))).w; rw [hn], rfl, rfl, trivial⟩
  have d3 : ¬ g2.t < 1 := by simpa using h1
  conv=>whnf
  refine vif_split (fun h1 => ?_) (fun h1 => ?_)
  ·have d4 : 10000 < g2.t := by simpa using h1
   all_goals
    conv=>whnf
    refine AAr.i64 (by show _ ≤ (i : Int) + 1 ∧ (i : Int) + 1 ≤ _; omega) ?_
    conv=>whnf
    rw [show cntW [g1, g2] e = none from hcn1 (by omega)] at hn
    exact aback (i + 1) [(1, .lab 1)] [] rfl (by show x.length - (i + 1) < x.length - i; omega) hlt ⟨⟨rfl, rfl, by show _ = (bsP _ (x.take (i + 1))).out.map enI; rw [hn]⟩, ⟨rfl, rfl, by show _ = [[cF ((bsP _ (x.take (i + 1))).C g1.ver)], [cF ((bsP _ (x.take (i + 1))).C g2.ver)]]; rw [hn]⟩, trivial⟩ ⟨by show _ = Value.int .i64 (bsP _ (x.take (i + 1))).w; rw [hn], rfl, rfl, trivial⟩
  have d4 : ¬ 10000 < g2.t := by simpa using h1
  have hcn := hcn2 (by omega)
  rw [hcn] at hn
  dsimp only at hn
  have hst := step2A (G := G) s.w (s.C e.ver).1 (s.C e.ver).2 g2.c g2.t e.arm
  generalize stpC s.w (s.C e.ver).1 (s.C e.ver).2 g2.c g2.t e.arm = d at *
  generalize stpW s.w (s.C e.ver).1 (s.C e.ver).2 g2.c g2.t e.arm = N at *
  conv=>whnf
  (refine adraw pln46 [3] (by kernel_rfl) ?_; conv=>whnf)
  repeat' (first
   | (refine And.intro ?_ ?_ <;> (conv=>whnf))
   | (refine AIn.mk' 1 rfl (show 1 < 2 by decide) ?_; conv=>whnf)
   | (refine ARd.at rfl ?_; conv=>whnf)
   | (refine AIn.mk' i rfl (lmZ hlt) ?_; conv=>whnf)
   | (refine ARd.mapAt hg ?_; conv=>whnf))
  refine acallF [3] (by kernel_rfl) hst ?_ ?_
  ·repeat' (first | rfl | trivial | (rw [he]; done) | apply And.intro)
  rintro _ _ _ ⟨rfl, rfl, rfl⟩
  conv=>whnf
  repeat' (first
   | (refine AIn.mk' 1 rfl (show 1 < 2 by decide) ?_; conv=>whnf)
   | (refine ARd.at rfl ?_; conv=>whnf))
  refine VReq.mk (app_int (by simp only [List.length_map, List.length_cons, List.length_nil]; omega)) ?_
  conv=>whnf
  refine AAr.i64 (by show _ ≤ (i : Int) + 1 ∧ (i : Int) + 1 ≤ _; omega) ?_
  conv=>whnf
  exact aback (i + 1) [(1, .lab 5)] [] rfl (by show x.length - (i + 1) < x.length - i; omega) hlt ⟨⟨rfl, rfl, by show _ = (bsP _ (x.take (i + 1))).out.map enI; rw [hn, List.map_append]; rfl⟩, ⟨rfl, rfl, by show _ = [[cF ((bsP _ (x.take (i + 1))).C g1.ver)], [cF ((bsP _ (x.take (i + 1))).C g2.ver)]]; rw [hn]; dsimp only; rw [if_pos he, if_neg hne1]; rfl⟩, trivial⟩ ⟨by show _ = Value.int .i64 (bsP _ (x.take (i + 1))).w; rw [hn], rfl, rfl, trivial⟩
 ·have hne1 := hk1 (by decide)
  have hne2 := hk2 (by decide)
  have hf : fndW [g1, g2] e.ver = none := by unfold fndW; rw [List.find?_cons, List.find?_cons]; simp [hne2, hne1]
  have hcn : cntW [g1, g2] e = none := by unfold cntW; rw [hf]; simp
  conv=>whnf
  (refine adraw pln46 [] (by kernel_rfl) ?_; conv=>whnf)
  all_goals
   conv=>whnf
   refine AAr.i64 (by show _ ≤ (i : Int) + 1 ∧ (i : Int) + 1 ≤ _; omega) ?_
   conv=>whnf
   rw [show cntW [g1, g2] e = none from hcn] at hn
   exact aback (i + 1) [(1, .lab 1)] [] rfl (by show x.length - (i + 1) < x.length - i; omega) hlt ⟨⟨rfl, rfl, by show _ = (bsP _ (x.take (i + 1))).out.map enI; rw [hn]⟩, ⟨rfl, rfl, by show _ = [[cF ((bsP _ (x.take (i + 1))).C g1.ver)], [cF ((bsP _ (x.take (i + 1))).C g2.ver)]]; rw [hn]⟩, trivial⟩ ⟨by show _ = Value.int .i64 (bsP _ (x.take (i + 1))).w; rw [hn], rfl, rfl, trivial⟩
theorem balarmA (x : List Ex) (w : List Wg) (level : Int) (hx : x.length ≤ 100000) (hw : w.length ≤ 100000) : AFn Tryz.prog G 41 [exL x, wgL w, iv level] 0 [] (Is (iv ((alrS x w level : Nat) : Int))) := by
 have hln : (balS x w).length ≤ 1000000 := Nat.le_trans (bsP_len _ _) (by omega)
 have hfr := wfirstA (G := G) (balS x w) (thr level 1) hln
 unfold alrS
 refine afn_of Tryz.func41 rfl mixed (by kernel_rfl) ?_
 conv=>whnf
 (refine acallF [] (by kernel_rfl) (bpathA x w hx hw) ?_ ?_; (focus trivial))
 rintro _ _ _ ⟨rfl, rfl, rfl⟩
 conv=>whnf
 (refine acall [] (by kernel_rfl) (threshA level 1) rfl ?_ ?_; (focus trivial))
 conv=>whnf
 (refine acall [] (by kernel_rfl) (hfr) rfl ?_ ?_; (focus trivial))
 conv=>whnf
 exact aret [] (by trivial)
theorem balarm2A (x : List Ex) (g1 g2 : Wg) (level : Int) (hx : x.length ≤ 100000) (hg12 : g1.ver ≠ g2.ver) : AFn Tryz.prog G 23 [exL x, wgL [g1, g2], iv level] 0 [] (Is (iv ((alrS x [g1, g2] level : Nat) : Int))) := by
 have hln : (balS x [g1, g2]).length ≤ 1000000 := Nat.le_trans (bsP_len _ _) (by omega)
 have hfr := wfirst2A (G := G) (balS x [g1, g2]) (thr level 1) hln
 unfold alrS
 refine afn_of Tryz.func23 rfl mixed (by kernel_rfl) ?_
 conv=>whnf
 (refine acallF [] (by kernel_rfl) (bpath2A x g1 g2 hg12 hx) ?_ ?_; (focus trivial))
 rintro _ _ _ ⟨rfl, rfl, rfl⟩
 conv=>whnf
 (refine acall [] (by kernel_rfl) (thresh2A level 1) rfl ?_ ?_; (focus trivial))
 conv=>whnf
 (refine acall [] (by kernel_rfl) (hfr) rfl ?_ ?_; (focus trivial))
 conv=>whnf
 exact aret [] (by trivial)
end
section
def knv (l : List Sc) (t : Int) (up : Bool) (e : Int) : Int := if fst1 (pthS l e up) t = 0 then 9223372036854775807 else (fst1 (pthS l e up) t : Nat)
def MKn (l : List Sc) (t : Int) (up : Bool) (M : Int → Option FV) : Prop := ∀ e f, M e = some f → f = .v (.int .i64 (knv l t up e))
theorem MKn.put {l : List Sc} {t : Int} {up : Bool} {M : Int → Option FV} (h : MKn l t up M) (e : Int) : MKn l t up fun k => if k = e then some (.v (.int .i64 (knv l t up e))) else M k := fun k f hk => by
 by_cases he : k = e
 ·simp only [if_pos he, Option.some.injEq] at hk
  rw [← hk, he]
 ·simp only [if_neg he] at hk
  exact h k f hk
theorem knv_le (l : List Sc) (level : Int) (up : Bool) (e : Int) (hl : l.length ≤ 100000) : decide (knv l (thr level 2) up e ≤ (l.length : Int)) = excS l e level up := by
 have h1 := fst1_le (pthS l e up) (thr level 2)
 rw [pthS_len] at h1
 unfold knv excS
 split
 ·rw [decide_eq_false (by omega), decide_eq_false (by omega)]
 ·rw [decide_eq_true (by omega), decide_eq_true (by omega)]
structure KS where
 f : Nat
 i : Nat
 j : Nat
 M : Int → Option FV
theorem srch_step {p : Nat → Bool} {f i j A : Nat} (h : srch p (f + 1) i j = A) : (if i < j then (if p ((i + j) / 2) = true then srch p f ((i + j) / 2 + 1) j else srch p f i ((i + j) / 2)) else i) = A := h
theorem srch_fin {p : Nat → Bool} {f i j A : Nat} (h : srch p f i j = A) (hn : ¬ i < j) : i = A := by
 cases f with
 | zero => exact h
 | succ f => have := srch_step h; rwa [if_neg hn] at this
attribute [local irreducible] srch knv excS
theorem shrU1 (u : Nat) : Int.fdiv (u : Int) (2 ^ min (Int.toNat 1) IntKind.u64.bits) = ((u / 2 : Nat) : Int) := shrk u 1 (by decide)
section
variable {G : Glob}
abbrev sdA (l : List Sc) (t : Int) (up : Bool) (ell : Nat) : AV := .agg [scL l, iv t, bv up, .mp ell]
theorem sideOfA (l : List Sc) (level : Int) (up : Bool) : AFn Tryz.prog G 79 [scL l, iv level, bv up] 0 [] (fun a n H => a = sdA l (thr level 2) up 0 ∧ n = 1 ∧ H = [(0, .imap fun _ => none)]) := by
 refine afn_of Tryz.func79 rfl mixed (by kernel_rfl) ?_
 conv=>whnf
 (refine acall [] (by kernel_rfl) (threshA level 2) rfl ?_ ?_; (focus trivial))
 conv=>whnf
 exact aend _ 1 _ [(0, .lab 1)] [] ⟨rfl, rfl, rfl⟩ rfl (by trivial) (by trivial)
theorem exclA (l : List Sc) (t : Int) (up : Bool) (e k : Int) (M : Int → Option FV) (hM : MKn l t up M) (hl : l.length ≤ 100000) : AFn Tryz.prog G 110 [sdA l t up 0, iv e, iv k] 1 [(0, .imap M)] (fun a n H => ∃ M', MKn l t up M' ∧ a = bv (decide (knv l t up e ≤ k)) ∧ n = 1 ∧ H = [(0, .imap M')]) := by
 have hfr := wfirstA (G := G) (pthS l e up) t (by rw [pthS_len]; omega)
 have hput := hM.put e
 have hk0 : fst1 (pthS l e up) t = 0 → knv l t up e = 9223372036854775807 := fun h => by unfold knv; rw [if_pos h]
 have hk1 : ¬ fst1 (pthS l e up) t = 0 → knv l t up e = (fst1 (pthS l e up) t : Nat) := fun h => by unfold knv; rw [if_neg h]
 refine afn_of Tryz.func110 rfl mixed (by kernel_rfl) ?_
 conv=>whnf
 refine ⟨fun hno => ?_, fun y hy => ?_⟩
 ·conv=>whnf
  (refine adraw pln110 [] (by kernel_rfl) ?_; conv=>whnf)
  refine acallF [] (by kernel_rfl) (pathA l e up hl) ?_ ?_
  ·trivial
  rintro _ _ _ ⟨rfl, rfl, rfl⟩
  conv=>whnf
  (refine acall [] (by kernel_rfl) (hfr) rfl ?_ ?_; (focus trivial))
  generalize fst1 (pthS l e up) t = n at *
  generalize knv l t up e = v at *
  conv=>whnf
  apply vif_split <;> intro h
  ·have h0 : n = 0 := by simpa using h
   have hv := hk0 h0
   subst hv
   conv=>whnf
   exact aend (bv (decide (9223372036854775807 ≤ k))) 1 [(0, .imap fun k' => if k' = e then some (.v (.int .i64 9223372036854775807)) else M k')] [] [] ⟨_, hput, rfl, rfl, rfl⟩ rfl (by trivial) (by trivial)
  ·have h0 : ¬ n = 0 := by simpa using h
   have hv := hk1 h0
   subst hv
   conv=>whnf
   exact aend (bv (decide ((n : Int) ≤ k))) 1 [(0, .imap fun k' => if k' = e then some (.v (.int .i64 n)) else M k')] [] [] ⟨_, hput, rfl, rfl, rfl⟩ rfl (by trivial) (by trivial)
 ·have hv := hM _ _ hy
  subst hv
  generalize knv l t up e = v at *
  conv=>whnf
  exact aend (bv (decide (v ≤ k))) 1 [(0, .imap M)] [] [] ⟨M, hM, rfl, rfl, rfl⟩ rfl (by trivial) (by trivial)
theorem endLA (l : List Sc) (level : Int) (hl : l.length ≤ 100000) : AFn Tryz.prog G 80 [sdA l (thr level 2) true 0, iv l.length] 1 [(0, .imap fun _ => none)] (fun a n H => a = iv (lowS l level) ∧ n = 1 ∧ ∃ M, H = [(0, .imap M)]) := by
 obtain ⟨A, hA⟩ : ∃ A, A = srch (fun h => excS l ((h : Int) - 1000) level true) 2001 0 2001 := ⟨_, rfl⟩
 have hR : lowS l level = (A : Int) - 1000 := by unfold lowS; rw [← hA]
 have hrg := srch_rng (p := fun h => excS l ((h : Int) - 1000) level true) 2001 0 2001 (by decide)
 rw [← hA] at hrg
 refine afn_of Tryz.func80 rfl mixed (by kernel_rfl) ?_
 conv=>whnf
 (refine acallI (by kernel_rfl) (afn_of Tryz.func108 rfl mixed (by kernel_rfl) ?_); (conv=>whnf))
 refine aloop ws108_1 4 [5, 6] (fun x : KS => [(5, iv x.i), (6, iv x.j)]) (fun x => [(3, .var 3 [iv 1]), (2, .var 3 [iv l.length]), (1, .var 131 [scL l, iv (thr level 2), bv true, .mp 0]), (0, .imap x.M)]) (fun x => srch (fun h => excS l ((h : Int) - 1000) level true) x.f x.i x.j = A ∧ x.i ≤ x.j ∧ x.j ≤ 2001 ∧ x.j - x.i ≤ x.f ∧ MKn l (thr level 2) true x.M) (fun x => x.j - x.i) [] [] ⟨2001, 0, 2001, fun _ => none⟩ (by kernel_rfl) (fun _ => rfl) rfl ⟨hA.symm, by show 0 ≤ 2001; decide, by show 2001 ≤ 2001; decide, by show 2001 - 0 ≤ 2001; decide, fun e f h => by cases h⟩ (by trivial) (by trivial) ?_
 rintro ⟨f, i, j, M⟩ ⟨hS, hij, hj, hf, hM⟩
 dsimp only at hS hij hj hf hM
 conv=>whnf
 apply vif_split <;> intro h
 rotate_left 1
 ·have hn : ¬ i < j := by simpa using h
  have hi := srch_fin hS hn
  clear hS hM
  conv=>whnf
  (refine aendV ?_ rfl ?_; rotate_left 1; (focus trivial); (conv=>whnf))
  conv=>whnf
  repeat' (first
   | (refine AAr.i64 (by dsimp only; omega) ?_; conv=>whnf))
  rw [hR]
  exact aend (iv ((A : Int) - 1000)) 1 _ [] [] ⟨rfl, rfl, M, rfl⟩ rfl (by trivial) (ciZ (by dsimp only; omega))
 have hlt : i < j := by simpa using h
 obtain ⟨f, rfl⟩ : ∃ g, f = g + 1 := ⟨f - 1, by omega⟩
 have hS := srch_step hS
 rw [if_pos hlt] at hS
 conv=>whnf
 refine AAr.to (y := ((i + j : Nat) : Int)) (show IntKind.i64.wrap ((i : Int) + (j : Int)) = _ by rw [IntWalk.i64_in _ (by omega)]; omega) ?_
 conv=>whnf
 refine AAr.to (y := ((i + j : Nat) : Int)) (wr_u64 (n := i + j) (by omega)) ?_
 conv=>whnf
 refine VReq.mk (by decide) ?_
 rw [shrU1]
 have hb : i ≤ (i + j) / 2 ∧ (i + j) / 2 < j := by omega
 generalize (i + j) / 2 = m at *
 conv=>whnf
 refine AAr.i64 (by omega) ?_
 conv=>whnf
 (refine acallI (by kernel_rfl) (afn_of Tryz.func109 rfl mixed (by kernel_rfl) ?_); (conv=>whnf))
 conv=>whnf
 refine AAr.i64 (by omega) ?_
 conv=>whnf
 refine AAr.to (y := (m : Int) - 1000) (show IntKind.i64.wrap (1 * ((m : Int) - 1000)) = _ by rw [IntWalk.i64_in _ (by omega)]; omega) ?_
 conv=>whnf
 refine acallM [0] [] (by kernel_rfl) (exclA l (thr level 2) true ((m : Int) - 1000) l.length M hM hl) rfl (by trivial) (by trivial) ?_
 rintro _ _ _ ⟨M', hM', rfl, rfl, rfl⟩
 refine ⟨rfl, ?_⟩
 rw [knv_le l level true ((m : Int) - 1000) hl]
 conv=>whnf
 (refine aendV ?_ rfl ?_; rotate_left 1; (focus trivial); (conv=>whnf))
 conv=>whnf
 refine vif_split (fun h1 => ?_) (fun h1 => ?_)
 ·rw [if_pos (by simpa using h1)] at hS
  conv=>whnf
  refine AAr.i64 (by omega) ?_
  conv=>whnf
  exact aback ⟨f, m + 1, j, M'⟩ [] [] rfl (by show j - (m + 1) < j - i; omega) ⟨hS, by show m + 1 ≤ j; omega, hj, by show j - (m + 1) ≤ f; omega, hM'⟩ (by trivial) (by trivial)
 ·rw [if_neg (by simpa using h1)] at hS
  conv=>whnf
  exact aback ⟨f, i, m, M'⟩ [] [] rfl (by show m - i < j - i; omega) ⟨hS, by show i ≤ m; omega, by show m ≤ 2001; omega, by show m - i ≤ f; omega, hM'⟩ (by trivial) (by trivial)
theorem endUA (l : List Sc) (level : Int) (hl : l.length ≤ 100000) : AFn Tryz.prog G 80 [sdA l (thr level 2) false 0, iv l.length] 1 [(0, .imap fun _ => none)] (fun a n H => a = iv (uppS l level) ∧ n = 1 ∧ ∃ M, H = [(0, .imap M)]) := by
 obtain ⟨A, hA⟩ : ∃ A, A = srch (fun h => excS l (1000 - (h : Int)) level false) 2001 0 2001 := ⟨_, rfl⟩
 have hR : uppS l level = 1000 - (A : Int) := by unfold uppS; rw [← hA]
 have hrg := srch_rng (p := fun h => excS l (1000 - (h : Int)) level false) 2001 0 2001 (by decide)
 rw [← hA] at hrg
 refine afn_of Tryz.func80 rfl mixed (by kernel_rfl) ?_
 conv=>whnf
 (refine acallI (by kernel_rfl) (afn_of Tryz.func108 rfl mixed (by kernel_rfl) ?_); (conv=>whnf))
 refine aloop ws108_1 4 [5, 6] (fun x : KS => [(5, iv x.i), (6, iv x.j)]) (fun x => [(3, .var 3 [iv (-1)]), (2, .var 3 [iv l.length]), (1, .var 131 [scL l, iv (thr level 2), bv false, .mp 0]), (0, .imap x.M)]) (fun x => srch (fun h => excS l (1000 - (h : Int)) level false) x.f x.i x.j = A ∧ x.i ≤ x.j ∧ x.j ≤ 2001 ∧ x.j - x.i ≤ x.f ∧ MKn l (thr level 2) false x.M) (fun x => x.j - x.i) [] [] ⟨2001, 0, 2001, fun _ => none⟩ (by kernel_rfl) (fun _ => rfl) rfl ⟨hA.symm, by show 0 ≤ 2001; decide, by show 2001 ≤ 2001; decide, by show 2001 - 0 ≤ 2001; decide, fun e f h => by cases h⟩ (by trivial) (by trivial) ?_
 rintro ⟨f, i, j, M⟩ ⟨hS, hij, hj, hf, hM⟩
 dsimp only at hS hij hj hf hM
 conv=>whnf
 apply vif_split <;> intro h
 rotate_left 1
 ·have hn : ¬ i < j := by simpa using h
  have hi := srch_fin hS hn
  clear hS hM
  conv=>whnf
  (refine aendV ?_ rfl ?_; rotate_left 1; (focus trivial); (conv=>whnf))
  conv=>whnf
  repeat' (first
   | (refine AAr.i64 (by dsimp only; omega) ?_; conv=>whnf))
  rw [hR]
  exact aend (iv (1000 - (A : Int))) 1 _ [] [] ⟨rfl, rfl, M, rfl⟩ rfl (by trivial) (ciZ (by dsimp only; omega))
 have hlt : i < j := by simpa using h
 obtain ⟨f, rfl⟩ : ∃ g, f = g + 1 := ⟨f - 1, by omega⟩
 have hS := srch_step hS
 rw [if_pos hlt] at hS
 conv=>whnf
 refine AAr.to (y := ((i + j : Nat) : Int)) (show IntKind.i64.wrap ((i : Int) + (j : Int)) = _ by rw [IntWalk.i64_in _ (by omega)]; omega) ?_
 conv=>whnf
 refine AAr.to (y := ((i + j : Nat) : Int)) (wr_u64 (n := i + j) (by omega)) ?_
 conv=>whnf
 refine VReq.mk (by decide) ?_
 rw [shrU1]
 have hb : i ≤ (i + j) / 2 ∧ (i + j) / 2 < j := by omega
 generalize (i + j) / 2 = m at *
 conv=>whnf
 refine AAr.i64 (by omega) ?_
 conv=>whnf
 (refine acallI (by kernel_rfl) (afn_of Tryz.func109 rfl mixed (by kernel_rfl) ?_); (conv=>whnf))
 conv=>whnf
 refine AAr.i64 (by omega) ?_
 conv=>whnf
 refine AAr.to (y := 1000 - (m : Int)) (show IntKind.i64.wrap ((-1) * ((m : Int) - 1000)) = _ by rw [IntWalk.i64_in _ (by omega)]; omega) ?_
 conv=>whnf
 refine acallM [0] [] (by kernel_rfl) (exclA l (thr level 2) false (1000 - (m : Int)) l.length M hM hl) rfl (by trivial) (by trivial) ?_
 rintro _ _ _ ⟨M', hM', rfl, rfl, rfl⟩
 refine ⟨rfl, ?_⟩
 rw [knv_le l level false (1000 - (m : Int)) hl]
 conv=>whnf
 (refine aendV ?_ rfl ?_; rotate_left 1; (focus trivial); (conv=>whnf))
 conv=>whnf
 refine vif_split (fun h1 => ?_) (fun h1 => ?_)
 ·rw [if_pos (by simpa using h1)] at hS
  conv=>whnf
  refine AAr.i64 (by omega) ?_
  conv=>whnf
  exact aback ⟨f, m + 1, j, M'⟩ [] [] rfl (by show j - (m + 1) < j - i; omega) ⟨hS, by show m + 1 ≤ j; omega, hj, by show j - (m + 1) ≤ f; omega, hM'⟩ (by trivial) (by trivial)
 ·rw [if_neg (by simpa using h1)] at hS
  conv=>whnf
  exact aback ⟨f, i, m, M'⟩ [] [] rfl (by show m - i < j - i; omega) ⟨hS, by show i ≤ m; omega, by show m ≤ 2001; omega, by show m - i ≤ f; omega, hM'⟩ (by trivial) (by trivial)
theorem lowerA (l : List Sc) (level : Int) (hl : l.length ≤ 100000) : AFn Tryz.prog G 45 [scL l, iv level] 0 [] (Is (iv (lowS l level))) := by
 obtain ⟨R, hR⟩ : ∃ R, R = lowS l level := ⟨_, rfl⟩
 rw [← hR]
 have he := endLA (G := G) l level hl
 rw [← hR] at he
 refine afn_of Tryz.func45 rfl mixed (by kernel_rfl) ?_
 conv=>whnf
 (refine acallF [] (by kernel_rfl) (sideOfA l level true) ?_ ?_; (focus trivial))
 rintro _ _ _ ⟨rfl, rfl, rfl⟩
 conv=>whnf
 rw [show (l.map scF).length = l.length from List.length_map ..]
 refine acallM [0] [] (by kernel_rfl) he rfl (by trivial) (by trivial) ?_
 rintro _ _ _ ⟨rfl, rfl, M, rfl⟩
 refine ⟨rfl, ?_⟩
 conv=>whnf
 exact aret [] (by trivial)
theorem upperA (l : List Sc) (level : Int) (hl : l.length ≤ 100000) : AFn Tryz.prog G 44 [scL l, iv level] 0 [] (Is (iv (uppS l level))) := by
 obtain ⟨R, hR⟩ : ∃ R, R = uppS l level := ⟨_, rfl⟩
 rw [← hR]
 have he := endUA (G := G) l level hl
 rw [← hR] at he
 refine afn_of Tryz.func44 rfl mixed (by kernel_rfl) ?_
 conv=>whnf
 (refine acallF [] (by kernel_rfl) (sideOfA l level false) ?_ ?_; (focus trivial))
 rintro _ _ _ ⟨rfl, rfl, rfl⟩
 conv=>whnf
 rw [show (l.map scF).length = l.length from List.length_map ..]
 refine acallM [0] [] (by kernel_rfl) he rfl (by trivial) (by trivial) ?_
 rintro _ _ _ ⟨rfl, rfl, M, rfl⟩
 refine ⟨rfl, ?_⟩
 conv=>whnf
 exact aret [] (by trivial)
theorem excl2A (l : List Sc) (e level : Int) (up : Bool) (hl : l.length ≤ 100000) : AFn Tryz.prog G 57 [scL l, iv e, iv level, bv up] 0 [] (Is (bv (excS l e level up))) := by
 have hfr := wfirst2A (G := G) (pthS l e up) (thr level 2) (by rw [pthS_len]; omega)
 unfold excS
 generalize hn : fst1 (pthS l e up) (thr level 2) = n at *
 refine afn_of Tryz.func57 rfl mixed (by kernel_rfl) ?_
 conv=>whnf
 refine acallF [] (by kernel_rfl) (path2A l e up hl) ?_ ?_
 ·trivial
 rintro _ _ _ ⟨rfl, rfl, rfl⟩
 conv=>whnf
 (refine acall [] (by kernel_rfl) (thresh2A level 2) rfl ?_ ?_; (focus trivial))
 conv=>whnf
 (refine acall [] (by kernel_rfl) (hfr) rfl ?_ ?_; (focus trivial))
 conv=>whnf
 exact aret [] (congrArg Value.bool (decide_eq_decide.2 (by omega)))
theorem lower2A (l : List Sc) (level : Int) (hl : l.length ≤ 100000) : AFn Tryz.prog G 27 [scL l, iv level] 0 [] (Is (iv (lowS l level))) := by
 obtain ⟨A, hA⟩ : ∃ A, A = srch (fun h => excS l ((h : Int) - 1000) level true) 2001 0 2001 := ⟨_, rfl⟩
 have hR : lowS l level = (A : Int) - 1000 := by unfold lowS; rw [← hA]
 rw [hR]
 refine afn_of Tryz.func27 rfl mixed (by kernel_rfl) ?_
 conv=>whnf
 refine aloop ws27_1 0 [5, 6] (fun x : KS => [(5, iv ((x.i : Int) - 1000)), (6, iv ((x.j : Int) - 1000))]) (fun _ => []) (fun x => srch (fun h => excS l ((h : Int) - 1000) level true) x.f x.i x.j = A ∧ x.i ≤ x.j ∧ x.j ≤ 2001 ∧ x.j - x.i ≤ x.f) (fun x => x.j - x.i) [] [] ⟨2001, 0, 2001, fun _ => none⟩ (by kernel_rfl) (fun _ => rfl) rfl ⟨hA.symm, by show 0 ≤ 2001; decide, by show 2001 ≤ 2001; decide, by show 2001 - 0 ≤ 2001; decide⟩ (by trivial) (by trivial) ?_
 rintro ⟨f, i, j, M⟩ ⟨hS, hij, hj, hf⟩
 dsimp only at hS hij hj hf
 conv=>whnf
 apply vif_split <;> intro h
 rotate_left 1
 ·have hn : ¬ i < j := by simp at h; omega
  have hi := srch_fin hS hn
  conv=>whnf
  exact aret [] (ciZ (by dsimp only; omega))
 have hlt : i < j := by simp at h; omega
 obtain ⟨f, rfl⟩ : ∃ g, f = g + 1 := ⟨f - 1, by omega⟩
 have hS := srch_step hS
 rw [if_pos hlt] at hS
 conv=>whnf
 refine AAr.to (y := ((j - i : Nat) : Int)) (show IntKind.i64.wrap (((j : Int) - 1000) - ((i : Int) - 1000)) = _ by rw [IntWalk.i64_in _ (by omega)]; omega) ?_
 conv=>whnf
 refine VReq.mk (by decide) ?_
 conv=>whnf
 refine AAr.to (y := (((j - i) / 2 : Nat) : Int)) (show IntKind.i64.wrap (((j - i) / 2 : Nat) : Int) = _ from IntWalk.i64_in _ (by omega)) ?_
 conv=>whnf
 refine AAr.to (y := (((i + j) / 2 : Nat) : Int) - 1000) (show IntKind.i64.wrap (((i : Int) - 1000) + (((j - i) / 2 : Nat) : Int)) = _ by rw [IntWalk.i64_in _ (by omega)]; omega) ?_
 have hb : i ≤ (i + j) / 2 ∧ (i + j) / 2 < j := by omega
 generalize (i + j) / 2 = m at *
 conv=>whnf
 (refine acall [] (by kernel_rfl) (excl2A l ((m : Int) - 1000) level true hl) rfl ?_ ?_; (focus trivial))
 conv=>whnf
 refine vif_split (fun h1 => ?_) (fun h1 => ?_)
 ·rw [if_pos (by simpa using h1)] at hS
  conv=>whnf
  refine AAr.i64 (by omega) ?_
  conv=>whnf
  exact aback ⟨f, m + 1, j, M⟩ [] [] rfl (by show j - (m + 1) < j - i; omega) ⟨hS, by show m + 1 ≤ j; omega, hj, by show j - (m + 1) ≤ f; omega⟩ (by trivial) ⟨ciZ (by dsimp only; omega), rfl, trivial⟩
 ·rw [if_neg (by simpa using h1)] at hS
  conv=>whnf
  exact aback ⟨f, i, m, M⟩ [] [] rfl (by show m - i < j - i; omega) ⟨hS, by show i ≤ m; omega, by show m ≤ 2001; omega, by show m - i ≤ f; omega⟩ (by trivial) (by trivial)
theorem upper2A (l : List Sc) (level : Int) (hl : l.length ≤ 100000) : AFn Tryz.prog G 26 [scL l, iv level] 0 [] (Is (iv (uppS l level))) := by
 obtain ⟨A, hA⟩ : ∃ A, A = srch (fun h => excS l (1000 - (h : Int)) level false) 2001 0 2001 := ⟨_, rfl⟩
 have hR : uppS l level = 1000 - (A : Int) := by unfold uppS; rw [← hA]
 rw [hR]
 refine afn_of Tryz.func26 rfl mixed (by kernel_rfl) ?_
 conv=>whnf
 refine aloop ws26_1 0 [5, 6] (fun x : KS => [(5, iv (1000 - (x.j : Int))), (6, iv (1000 - (x.i : Int)))]) (fun _ => []) (fun x => srch (fun h => excS l (1000 - (h : Int)) level false) x.f x.i x.j = A ∧ x.i ≤ x.j ∧ x.j ≤ 2001 ∧ x.j - x.i ≤ x.f) (fun x => x.j - x.i) [] [] ⟨2001, 0, 2001, fun _ => none⟩ (by kernel_rfl) (fun _ => rfl) rfl ⟨hA.symm, by show 0 ≤ 2001; decide, by show 2001 ≤ 2001; decide, by show 2001 - 0 ≤ 2001; decide⟩ (by trivial) (by trivial) ?_
 rintro ⟨f, i, j, M⟩ ⟨hS, hij, hj, hf⟩
 dsimp only at hS hij hj hf
 conv=>whnf
 apply vif_split <;> intro h
 rotate_left 1
 ·have hn : ¬ i < j := by simp at h; omega
  have hi := srch_fin hS hn
  conv=>whnf
  exact aret [] (ciZ (by dsimp only; omega))
 have hlt : i < j := by simp at h; omega
 obtain ⟨f, rfl⟩ : ∃ g, f = g + 1 := ⟨f - 1, by omega⟩
 have hS := srch_step hS
 rw [if_pos hlt] at hS
 conv=>whnf
 refine AAr.to (y := ((j - i : Nat) : Int)) (show IntKind.i64.wrap ((1000 - (i : Int)) - (1000 - (j : Int))) = _ by rw [IntWalk.i64_in _ (by omega)]; omega) ?_
 conv=>whnf
 refine AAr.to (y := ((j - i + 1 : Nat) : Int)) (show IntKind.i64.wrap (((j - i : Nat) : Int) + 1) = _ by rw [IntWalk.i64_in _ (by omega)]; omega) ?_
 conv=>whnf
 refine VReq.mk (by decide) ?_
 conv=>whnf
 refine AAr.to (y := (((j - i + 1) / 2 : Nat) : Int)) (show IntKind.i64.wrap (((j - i + 1) / 2 : Nat) : Int) = _ from IntWalk.i64_in _ (by omega)) ?_
 conv=>whnf
 refine AAr.to (y := 1000 - (((i + j) / 2 : Nat) : Int)) (show IntKind.i64.wrap ((1000 - (j : Int)) + (((j - i + 1) / 2 : Nat) : Int)) = _ by rw [IntWalk.i64_in _ (by omega)]; omega) ?_
 have hb : i ≤ (i + j) / 2 ∧ (i + j) / 2 < j := by omega
 generalize (i + j) / 2 = m at *
 conv=>whnf
 (refine acall [] (by kernel_rfl) (excl2A l (1000 - (m : Int)) level false hl) rfl ?_ ?_; (focus trivial))
 conv=>whnf
 refine vif_split (fun h1 => ?_) (fun h1 => ?_)
 ·rw [if_pos (by simpa using h1)] at hS
  conv=>whnf
  refine AAr.i64 (by omega) ?_
  conv=>whnf
  exact aback ⟨f, m + 1, j, M⟩ [] [] rfl (by show j - (m + 1) < j - i; omega) ⟨hS, by show m + 1 ≤ j; omega, hj, by show j - (m + 1) ≤ f; omega⟩ (by trivial) ⟨rfl, ciZ (by dsimp only; omega), trivial⟩
 ·rw [if_neg (by simpa using h1)] at hS
  conv=>whnf
  exact aback ⟨f, i, m, M⟩ [] [] rfl (by show m - i < j - i; omega) ⟨hS, by show i ≤ m; omega, by show m ≤ 2001; omega, by show m - i ≤ f; omega⟩ (by trivial) (by trivial)
end
end
section
open Go.Proofs.YtgfgndaoocfpdaaGreatDoor.Ky
theorem app_ev {n : Nat} (h : n ≤ 100000) : n * 112 ≤ 140737488355328 ∧ n ≤ maxLen := ⟨by omega, by unfold maxLen; omega⟩
section
variable {G : Glob}
theorem cloneV (l : List Ev) (hs : l.length ≤ 10000) : AFn Tryz.prog G 102 [el l] 0 [] (Own1 55 10 (l.map enE)) := by
 refine afn_of Tryz.func102 rfl mixed (by kernel_rfl) ?_
 conv=>whnf
 refine ⟨fun b hb => ?_⟩
 cases b with
 | true =>
  have h0 : l = [] := by
   cases l with
   | nil => rfl
   | cons e r => exact absurd (hb (by simp)) (by decide)
  subst h0
  conv=>whnf
  exact aend (.own 0) 1 _ [(0, .nil)] [] ⟨rfl, rfl, rfl⟩ rfl (by trivial) (by trivial)
 | false =>
  conv=>whnf
  refine VReq.mk (app_ev (by simp only [List.length_map, List.length_nil]; omega)) ?_
  conv=>whnf
  exact aend (.own 0) 1 _ [(0, .lab 1)] [] ⟨rfl, rfl, rfl⟩ rfl (by trivial) (by trivial)
theorem vdelA (e : Ev) (hk : e.kind = 2) : AFn Tryz.prog G 103 [evA e] 0 [] (Is (bv false)) := by
 refine afn_of Tryz.func103 rfl mixed (by kernel_rfl) ?_
 conv=>whnf
 exact aret [] (congrArg Value.bool (by simp [hk]))
theorem sumA (e : Ev) : AFn Tryz.prog G 89 [evA e] 0 [] (Is (iv e.val)) := by
 refine afn_of Tryz.func89 rfl mixed (by kernel_rfl) ?_
 conv=>whnf
 exact aret [] (by trivial)
theorem oneA (e : Ev) : AFn Tryz.prog G 90 [evA e] 0 [] (Is (iv 1)) := by
 refine afn_of Tryz.func90 rfl mixed (by kernel_rfl) ?_
 conv=>whnf
 exact aret [] (by trivial)
def rwE (l : List Ev) : ABlk := .rows 55 10 (l.map enE)
theorem idxA (l : List Ev) (hl : l.length ≤ 100000) (hk : ∀ e ∈ l, e.kind = 2) : AFn Tryz.prog G 121 [.own 0, .v (.func (.func 103) #[] #[])] 1 [(0, rwE l)] (fun a n H => a = iv (-1) ∧ n = 1 ∧ H = [(0, rwE l)]) := by
 refine afn_of Tryz.func121 rfl mixed (by kernel_rfl) ?_
 conv=>whnf
 refine aloop ws121_1 1 [8] (fun i : Nat => [(8, iv i)]) (fun _ => [(0, rwE l)]) (fun i => i ≤ l.length) (fun i => l.length - i) [] [] 0 (by kernel_rfl) (fun _ => rfl) rfl (Nat.zero_le _) (by trivial) (by trivial) ?_
 intro i hi
 conv=>whnf
 apply vif_split <;> intro h
 ·have hlt : i < l.length := by simp at h; omega
  conv=>whnf
  refine AIn.mk' i rfl (lmZ hlt) ?_
  conv=>whnf
  refine ARd.mapAt (List.getElem?_eq_getElem hlt) ?_
  conv=>whnf
  (refine acall [] (by kernel_rfl) (vdelA l[i] (hk _ (List.getElem_mem hlt))) rfl ?_ ?_; (focus trivial))
  conv=>whnf
  refine AAr.i64 (by omega) ?_
  conv=>whnf
  exact aback (i + 1) [] [] rfl (by show l.length - (i + 1) < l.length - i; omega) hlt (by trivial) (by trivial)
 ·conv=>whnf
  exact aend (iv (-1)) 1 _ [] [] ⟨rfl, rfl, rfl⟩ rfl (by trivial) (by trivial)
theorem delA (l : List Ev) (hl : l.length ≤ 100000) (hk : ∀ e ∈ l, e.kind = 2) : AFn Tryz.prog G 101 [.own 0, .v (.func (.func 103) #[] #[])] 1 [(0, rwE l)] (fun a n H => a = .own 0 ∧ n = 1 ∧ H = [(0, rwE l)]) := by
 refine afn_of Tryz.func101 rfl mixed (by kernel_rfl) ?_
 conv=>whnf
 refine acallM [0] [] (by kernel_rfl) (idxA l hl hk) rfl (by trivial) (by trivial) ?_
 rintro _ _ _ ⟨rfl, rfl, rfl⟩
 refine ⟨rfl, ?_⟩
 conv=>whnf
 exact aend (.own 0) 1 _ [] [] ⟨rfl, rfl, rfl⟩ rfl (by trivial) (by trivial)
end
def stV (m : Mt) (a : Int) (e : Ev) : Int := if e.name = m.name ∧ m.least ≤ e.val then a + mtW m e else a
def stB (m : Mt) (a : Int) (e : Ev) : Int := if m.kind = 4 ∧ e.name = m.below then a + e.val else a
theorem mtV_take {m : Mt} {l : List Ev} {i : Nat} (h : i < l.length) : mtV m (l.take (i + 1)) = stV m (mtV m (l.take i)) l[i] := by unfold mtV; rw [List.take_succ_eq_append_getElem h, List.foldl_append]; rfl
theorem mtB_take {m : Mt} {l : List Ev} {i : Nat} (h : i < l.length) : mtB m (l.take (i + 1)) = stB m (mtB m (l.take i)) l[i] := by unfold mtB; rw [List.take_succ_eq_append_getElem h, List.foldl_append]; rfl
structure MeasL (l : List Ev) : Prop where
 len : l.length ≤ 10000
 kind : ∀ e ∈ l, e.kind = 2
 val : ∀ e ∈ l, -1000000 ≤ e.val ∧ e.val ≤ 1000000
theorem meas_rng {m : Mt} {l : List Ev} (h : MeasL l) : ∀ i, i ≤ l.length → (-1000000 * (i : Int) ≤ mtV m (l.take i) ∧ mtV m (l.take i) ≤ 1000000 * (i : Int)) ∧ (-1000000 * (i : Int) ≤ mtB m (l.take i) ∧ mtB m (l.take i) ≤ 1000000 * (i : Int)) := by
 intro i
 induction i with
 | zero => intro _; simp [mtV, mtB]
 | succ i ih =>
  intro hi
  have h1 := ih (by omega)
  have hv := h.val _ (List.getElem_mem (show i < l.length by omega))
  rw [mtV_take (by omega), mtB_take (by omega)]
  unfold stV stB mtW
  refine ⟨?_, ?_⟩
  ·split
   ·split <;> omega
   ·omega
  ·split <;> omega
def plnVal : Plan := .take 0 (.take 2 (.take 3 (.take 6 (.one 1 (.one 4 (.take 5 (.one 7 (.take 8 (.take 9 .done)))))))))
theorem mtC_kind {m : Mt} (h : mtC m = 0) : m.kind = 1 ∨ m.kind = 2 ∨ m.kind = 3 ∨ m.kind = 4 := by
 unfold mtC at h
 by_cases hk : m.kind = 1 ∨ m.kind = 2 ∨ m.kind = 3 ∨ m.kind = 4
 ·exact hk
 ·rw [if_pos hk] at h; cases h
def mvB (m : Mt) : ABlk := .var 35 ((mtF m).map FV.up)
theorem valueA (m : Mt) (l : List Ev) (hm : mtC m = 0) (hl : MeasL l) (z1 : m.name.length ≤ 140737488355328) (z2 : m.below.length ≤ 140737488355328) : AFn Tryz.prog GS 77 [mtA m, el l] 0 [] (Is (.tup [iv (lim m (mtV m l)), iv (lim m (mtB m l))])) := by
 have hrg := meas_rng (m := m) hl
 have hlen := hl.len
 refine afn_of Tryz.func77 rfl mixed (by kernel_rfl) ?_
 conv=>whnf
 (refine acall [] (by kernel_rfl) (mchk1 m z1 z2) rfl ?_ ?_; (focus trivial))
 rw [hm]
 conv=>whnf
 (refine acallF [] (by kernel_rfl) (cloneV l hl.len) ?_ ?_; (focus trivial))
 rintro _ _ _ ⟨rfl, rfl, rfl⟩
 conv=>whnf
 refine acallM [1] [] (by kernel_rfl) (delA l (by omega) hl.kind) rfl (by trivial) (by trivial) ?_
 rintro _ _ _ ⟨rfl, rfl, rfl⟩
 refine ⟨rfl, ?_⟩
 conv=>whnf
 refine aloop ws77_1 2 [7, 8, 20] (fun i : Nat => [(7, iv (mtV m (l.take i))), (8, iv (mtB m (l.take i))), (20, iv i)]) (fun i => [(0, mvB m), (1, rwE l)]) (fun i => i ≤ l.length) (fun i => l.length - i) [] [] 0 (by kernel_rfl) (fun _ => rfl) rfl (Nat.zero_le _) (by trivial) (by trivial) ?_
 intro i hi
 conv=>whnf
 apply vif_split <;> intro h
 ·have hlt : i < l.length := by simp at h; omega
  have hV := mtV_take (m := m) hlt
  have hB := mtB_take (m := m) hlt
  have hr := hrg i hi
  have hv := hl.val _ (List.getElem_mem hlt)
  have hg := List.getElem?_eq_getElem hlt
  generalize l[i] = e at *
  generalize mtV m (l.take i) = a at *
  generalize mtB m (l.take i) = b at *
  unfold stV at hV
  unfold stB at hB
  conv=>whnf
  refine AIn.mk' i rfl (lmZ hlt) ?_
  conv=>whnf
  refine ARd.mapAt hg ?_
  conv=>whnf
  refine vif_split (fun h1 => ?_) (fun h1 => ?_)
  rotate_left 1
  ·rw [if_neg (fun h' => by simp [sEq_tx] at h1; exact h1 h'.1)] at hV
   conv=>whnf
   refine vif_split (fun h4 => ?_) (fun h4 => ?_)
   rotate_left 1
   ·rw [if_neg (fun h' => by simp at h4; exact h4 h'.1)] at hB
    conv=>whnf
    refine AAr.i64 (by omega) ?_
    conv=>whnf
    exact aback (i + 1) [] [] rfl (by show l.length - (i + 1) < l.length - i; omega) hlt (by trivial) ⟨ciZ hV.symm, ciZ hB.symm, rfl, trivial⟩
   conv=>whnf
   refine vif_split (fun h5 => ?_) (fun h5 => ?_)
   rotate_left 1
   ·rw [if_neg (fun h' => by simp [sEq_tx] at h5; exact h5 h'.2)] at hB
    conv=>whnf
    refine AAr.i64 (by omega) ?_
    conv=>whnf
    exact aback (i + 1) [] [] rfl (by show l.length - (i + 1) < l.length - i; omega) hlt (by trivial) ⟨ciZ hV.symm, ciZ hB.symm, rfl, trivial⟩
   rw [if_pos ⟨by simpa using h4, by simpa [sEq_tx] using h5⟩] at hB
   conv=>whnf
   refine AAr.i64 (by omega) ?_
   conv=>whnf
   refine AAr.i64 (by omega) ?_
   conv=>whnf
   exact aback (i + 1) [] [] rfl (by show l.length - (i + 1) < l.length - i; omega) hlt (by trivial) ⟨ciZ hV.symm, ciZ hB.symm, rfl, trivial⟩
  conv=>whnf
  refine vif_split (fun h2 => ?_) (fun h2 => ?_)
  rotate_left 1
  ·rw [if_neg (fun h' => by simp at h2; omega)] at hV
   conv=>whnf
   refine vif_split (fun h4 => ?_) (fun h4 => ?_)
   rotate_left 1
   ·rw [if_neg (fun h' => by simp at h4; exact h4 h'.1)] at hB
    conv=>whnf
    refine AAr.i64 (by omega) ?_
    conv=>whnf
    exact aback (i + 1) [] [] rfl (by show l.length - (i + 1) < l.length - i; omega) hlt (by trivial) ⟨ciZ hV.symm, ciZ hB.symm, rfl, trivial⟩
   conv=>whnf
   refine vif_split (fun h5 => ?_) (fun h5 => ?_)
   rotate_left 1
   ·rw [if_neg (fun h' => by simp [sEq_tx] at h5; exact h5 h'.2)] at hB
    conv=>whnf
    refine AAr.i64 (by omega) ?_
    conv=>whnf
    exact aback (i + 1) [] [] rfl (by show l.length - (i + 1) < l.length - i; omega) hlt (by trivial) ⟨ciZ hV.symm, ciZ hB.symm, rfl, trivial⟩
   rw [if_pos ⟨by simpa using h4, by simpa [sEq_tx] using h5⟩] at hB
   conv=>whnf
   refine AAr.i64 (by omega) ?_
   conv=>whnf
   refine AAr.i64 (by omega) ?_
   conv=>whnf
   exact aback (i + 1) [] [] rfl (by show l.length - (i + 1) < l.length - i; omega) hlt (by trivial) ⟨ciZ hV.symm, ciZ hB.symm, rfl, trivial⟩
  rw [if_pos ⟨by simpa [sEq_tx] using h1, by simpa using h2⟩] at hV
  conv=>whnf
  refine adraw (fun _ => plnVal) [3] (by kernel_rfl) ?_
  conv=>whnf
  refine acallF [] (by kernel_rfl) kindsA ?_ ?_; (focus (trivial; done)); rintro _ _ _ ⟨rfl, rfl, rfl⟩; (conv=>whnf)
  rcases mtC_kind hm with hk | hk | hk | hk
  ·have hw : mtW m e = e.val := if_pos (.inl hk)
   rw [hw] at hV
   refine ALi.some (x := kdV [115, 117, 109] 89) (by rw [hk]; rfl) ?_
   conv=>whnf
   (refine acall [] (by kernel_rfl) (sumA e) rfl ?_ ?_; (focus trivial))
   conv=>whnf
   refine AAr.i64 (by omega) ?_
   conv=>whnf
   refine vif_split (fun h4 => ?_) (fun h4 => ?_)
   rotate_left 1
   ·rw [if_neg (fun h' => by simp at h4; exact h4 h'.1)] at hB
    conv=>whnf
    refine AAr.i64 (by omega) ?_
    conv=>whnf
    exact aback (i + 1) [] [] rfl (by show l.length - (i + 1) < l.length - i; omega) hlt (by trivial) ⟨ciZ hV.symm, ciZ hB.symm, rfl, trivial⟩
   conv=>whnf
   refine vif_split (fun h5 => ?_) (fun h5 => ?_)
   rotate_left 1
   ·rw [if_neg (fun h' => by simp [sEq_tx] at h5; exact h5 h'.2)] at hB
    conv=>whnf
    refine AAr.i64 (by omega) ?_
    conv=>whnf
    exact aback (i + 1) [] [] rfl (by show l.length - (i + 1) < l.length - i; omega) hlt (by trivial) ⟨ciZ hV.symm, ciZ hB.symm, rfl, trivial⟩
   rw [if_pos ⟨by simpa using h4, by simpa [sEq_tx] using h5⟩] at hB
   conv=>whnf
   refine AAr.i64 (by omega) ?_
   conv=>whnf
   refine AAr.i64 (by omega) ?_
   conv=>whnf
   exact aback (i + 1) [] [] rfl (by show l.length - (i + 1) < l.length - i; omega) hlt (by trivial) ⟨ciZ hV.symm, ciZ hB.symm, rfl, trivial⟩
  ·have hw : mtW m e = 1 := if_neg (by rw [hk]; decide)
   rw [hw] at hV
   refine ALi.some (x := kdV [99, 111, 117, 110, 116] 90) (by rw [hk]; rfl) ?_
   conv=>whnf
   (refine acall [] (by kernel_rfl) (oneA e) rfl ?_ ?_; (focus trivial))
   conv=>whnf
   refine AAr.i64 (by omega) ?_
   conv=>whnf
   refine vif_split (fun h4 => ?_) (fun h4 => ?_)
   rotate_left 1
   ·rw [if_neg (fun h' => by simp at h4; exact h4 h'.1)] at hB
    conv=>whnf
    refine AAr.i64 (by omega) ?_
    conv=>whnf
    exact aback (i + 1) [] [] rfl (by show l.length - (i + 1) < l.length - i; omega) hlt (by trivial) ⟨ciZ hV.symm, ciZ hB.symm, rfl, trivial⟩
   conv=>whnf
   refine vif_split (fun h5 => ?_) (fun h5 => ?_)
   rotate_left 1
   ·rw [if_neg (fun h' => by simp [sEq_tx] at h5; exact h5 h'.2)] at hB
    conv=>whnf
    refine AAr.i64 (by omega) ?_
    conv=>whnf
    exact aback (i + 1) [] [] rfl (by show l.length - (i + 1) < l.length - i; omega) hlt (by trivial) ⟨ciZ hV.symm, ciZ hB.symm, rfl, trivial⟩
   rw [if_pos ⟨by simpa using h4, by simpa [sEq_tx] using h5⟩] at hB
   conv=>whnf
   refine AAr.i64 (by omega) ?_
   conv=>whnf
   refine AAr.i64 (by omega) ?_
   conv=>whnf
   exact aback (i + 1) [] [] rfl (by show l.length - (i + 1) < l.length - i; omega) hlt (by trivial) ⟨ciZ hV.symm, ciZ hB.symm, rfl, trivial⟩
  ·have hw : mtW m e = 1 := if_neg (by rw [hk]; decide)
   rw [hw] at hV
   refine ALi.some (x := kdV [115, 104, 97, 114, 101] 90) (by rw [hk]; rfl) ?_
   conv=>whnf
   (refine acall [] (by kernel_rfl) (oneA e) rfl ?_ ?_; (focus trivial))
   conv=>whnf
   refine AAr.i64 (by omega) ?_
   conv=>whnf
   refine vif_split (fun h4 => ?_) (fun h4 => ?_)
   rotate_left 1
   ·rw [if_neg (fun h' => by simp at h4; exact h4 h'.1)] at hB
    conv=>whnf
    refine AAr.i64 (by omega) ?_
    conv=>whnf
    exact aback (i + 1) [] [] rfl (by show l.length - (i + 1) < l.length - i; omega) hlt (by trivial) ⟨ciZ hV.symm, ciZ hB.symm, rfl, trivial⟩
   conv=>whnf
   refine vif_split (fun h5 => ?_) (fun h5 => ?_)
   rotate_left 1
   ·rw [if_neg (fun h' => by simp [sEq_tx] at h5; exact h5 h'.2)] at hB
    conv=>whnf
    refine AAr.i64 (by omega) ?_
    conv=>whnf
    exact aback (i + 1) [] [] rfl (by show l.length - (i + 1) < l.length - i; omega) hlt (by trivial) ⟨ciZ hV.symm, ciZ hB.symm, rfl, trivial⟩
   rw [if_pos ⟨by simpa using h4, by simpa [sEq_tx] using h5⟩] at hB
   conv=>whnf
   refine AAr.i64 (by omega) ?_
   conv=>whnf
   refine AAr.i64 (by omega) ?_
   conv=>whnf
   exact aback (i + 1) [] [] rfl (by show l.length - (i + 1) < l.length - i; omega) hlt (by trivial) ⟨ciZ hV.symm, ciZ hB.symm, rfl, trivial⟩
  ·have hw : mtW m e = e.val := if_pos (.inr hk)
   rw [hw] at hV
   refine ALi.some (x := kdV [114, 97, 116, 105, 111] 89) (by rw [hk]; rfl) ?_
   conv=>whnf
   (refine acall [] (by kernel_rfl) (sumA e) rfl ?_ ?_; (focus trivial))
   conv=>whnf
   refine AAr.i64 (by omega) ?_
   conv=>whnf
   refine vif_split (fun h4 => ?_) (fun h4 => ?_)
   rotate_left 1
   ·rw [if_neg (fun h' => by simp at h4; exact h4 h'.1)] at hB
    conv=>whnf
    refine AAr.i64 (by omega) ?_
    conv=>whnf
    exact aback (i + 1) [] [] rfl (by show l.length - (i + 1) < l.length - i; omega) hlt (by trivial) ⟨ciZ hV.symm, ciZ hB.symm, rfl, trivial⟩
   conv=>whnf
   refine vif_split (fun h5 => ?_) (fun h5 => ?_)
   rotate_left 1
   ·rw [if_neg (fun h' => by simp [sEq_tx] at h5; exact h5 h'.2)] at hB
    conv=>whnf
    refine AAr.i64 (by omega) ?_
    conv=>whnf
    exact aback (i + 1) [] [] rfl (by show l.length - (i + 1) < l.length - i; omega) hlt (by trivial) ⟨ciZ hV.symm, ciZ hB.symm, rfl, trivial⟩
   rw [if_pos ⟨by simpa using h4, by simpa [sEq_tx] using h5⟩] at hB
   conv=>whnf
   refine AAr.i64 (by omega) ?_
   conv=>whnf
   refine AAr.i64 (by omega) ?_
   conv=>whnf
   exact aback (i + 1) [] [] rfl (by show l.length - (i + 1) < l.length - i; omega) hlt (by trivial) ⟨ciZ hV.symm, ciZ hB.symm, rfl, trivial⟩
 ·have hie : i = l.length := by simp at h; omega
  subst hie
  rw [List.take_length]
  conv=>whnf
  (refine acallI (by kernel_rfl) (afn_of Tryz.func104 rfl mixed (by kernel_rfl) ?_); (conv=>whnf))
  (refine aendV ?_ rfl ?_; rotate_left 1; (focus trivial); (conv=>whnf))
  conv=>whnf
  (refine acallI (by kernel_rfl) (afn_of Tryz.func104 rfl mixed (by kernel_rfl) ?_); (conv=>whnf))
  (refine aendV ?_ rfl ?_; rotate_left 1; (focus trivial); (conv=>whnf))
  conv=>whnf
  exact aret [] (by trivial)
end
end Go.Proofs.YtgfgndaoocfpdaaGreatDoor.Cl
