/- Joined parts of the proof. The walks of the guard's laws' own functions: made plans, marks, the sanity check -/
import Derived.Test.YtgfgndaoocfpdaaGreatDoorQk19
import Derived.Test.YtgfgndaoocfpdaaGreatDoorPk17
import Derived.Test.YtgfgndaoocfpdaaGreatDoorPk8
import Derived.Test.YtgfgndaoocfpdaaGreatDoorPk2
import Derived.ProofKit
import Derived.OpenShut
import Derived.Stop.Joined
import Derived.Test.YtgfgndaoocfpdaaGreatDoorPk10
import Derived.Test.YtgfgndaoocfpdaaGreatDoorPk13
import Derived.Test.YtgfgndaoocfpdaaGreatDoorRows
import Derived.LaidMore
set_option linter.unusedVariables false
set_option linter.unusedSimpArgs false
set_option maxRecDepth 100000
set_option maxHeartbeats 16000000
namespace Go.Proofs.YtgfgndaoocfpdaaGreatDoor.Cl
open Go Go.RowKit Go.Proofs Go.Proofs.YtgfgndaoocfpdaaGreatDoor.Vc Go.Proofs.YtgfgndaoocfpdaaGreatDoor.Ax Go.Proofs.YtgfgndaoocfpdaaGreatDoor.Ky Go.Proofs.YtgfgndaoocfpdaaGreatDoor.Id
attribute [local irreducible] loadVar storeVar Instr.indexAt Instr.index Instr.sliceAt Instr.makeSlice Instr.lookup Instr.mapUpdate Instr.range Instr.next Instr.entry Instr.makeMap Builtin.append_ Builtin.copy_ Builtin.len_ Builtin.min_ Builtin.max_ Builtin.cap_ Builtin.delete_ Builtin.clear_ convert binOp eqGuard Op.unary Calls
structure LL where
 m : By
 lo : Int
 hi : Int
structure LP where
 e : Nat
 s : Nat
 n : Nat
 h : Nat
 v : Nat
 l : List LL
abbrev i16F (n : Int) : FV := .v (.int .i16 n)
def llF (x : LL) : List FV := [.lst 1 (x.m.map enB), i16F x.lo, i16F x.hi]
abbrev llL (l : List LL) : AV := .lst 3 (l.map llF)
def lpA (p : LP) : AV := .agg [u8v p.e, u8v p.s, u8v p.n, u8v p.h, u8v p.v, llL p.l]
def lpB (p : LP) : ABlk := .var 27 [u8v p.e, u8v p.s, u8v p.n, u8v p.h, u8v p.v, llL p.l]
structure LpZ (p : LP) : Prop where
 e : p.e < 256
 s : p.s < 256
 n : p.n < 256
 h : p.h < 256
 v : p.v < 256
 l : p.l.length ≤ 10000000000000
 r : ∀ x ∈ p.l, (-32768 ≤ x.lo ∧ x.lo ≤ 32767) ∧ (-32768 ≤ x.hi ∧ x.hi ≤ 32767)
structure HlP (h : Hl) : Prop where
 m : MtP h.m
 k : ¬ h.m.kind = 4
 r : -1000 ≤ h.lo ∧ h.lo ≤ h.hi ∧ h.hi ≤ 1000
structure PnP (p : Pn) : Prop where
 exp : ∃ k : Nat, k < 2 ∧ expT[k]? = some p.exp
 stages : 1 ≤ p.stages ∧ p.stages ≤ 5
 needed : 0 ≤ p.needed ∧ p.needed ≤ 5
 hold : 0 ≤ p.hold ∧ p.hold ≤ 29
 level : 1 ≤ p.level ∧ p.level ≤ 999
 hl : p.health.length ≤ 2
 all : ∀ h ∈ p.health, HlP h
theorem expT_ky : ∀ s ∈ expT, kyM s = true := by
 intro s hs
 simp only [expT, List.mem_cons, List.not_mem_nil, or_false] at hs
 rcases hs with rfl | rfl | rfl | rfl <;> kernel_rfl
theorem expT_len : ∀ s ∈ expT, s.length ≤ 1000 := by decide
theorem HlP.ok {h : Hl} (hp : HlP h) : hlC h = 0 := by
 unfold hlC
 have h1 := hp.m.ok
 have h2 := hp.r
 rw [if_neg (by omega), if_neg hp.k, if_neg (by omega)]
theorem hlsC_ok : ∀ {l : List Hl}, (∀ h ∈ l, HlP h) → hlsC l = 0 := by
 intro l
 induction l with
 | nil => intro _; rfl
 | cons a r ih =>
  intro h
  unfold hlsC
  rw [if_neg (by have := (h a List.mem_cons_self).ok; omega)]
  exact ih fun x hx => h x (List.mem_cons_of_mem _ hx)
theorem PnP.ok {p : Pn} (h : PnP p) : pnC p = 0 := by
 obtain ⟨k, _, hk⟩ := h.exp
 have h1 := expT_ky _ (List.mem_of_getElem? hk)
 obtain ⟨_, h2, h3, h4, h5, h6, h7⟩ := h
 unfold pnC
 rw [h1, if_neg (by decide), if_neg (by unfold plE; omega), if_neg (by omega)]
 exact hlsC_ok h7
theorem PnP.z {p : Pn} (h : PnP p) : PnZ p := by
 obtain ⟨k, _, hk⟩ := h.exp
 have h1 := expT_len _ (List.mem_of_getElem? hk)
 exact ⟨by omega, by have := h.hl; omega, fun x hx => ⟨(h.all x hx).m.z1, (h.all x hx).m.z2⟩⟩
def RoO (a : AV) (n : Nat) (H : AHeap) : Prop := ∃ p, PnP p ∧ a = pnA p ∧ n = 0 ∧ H = []
def pnO (p : Pn) (k : Nat) : AV := .agg [tv p.exp, iv p.stages, iv p.needed, iv p.hold, iv p.level, .own k]
def RoW (a : AV) (n : Nat) (H : AHeap) : Prop := ∃ p, PnP p ∧ a = pnO p 0 ∧ n = 1 ∧ H = [(0, .rows 37 9 (p.health.map hlF))]
structure KL where
 i : Nat
 hs : List Hl
theorem tmod_nat (a b : Nat) : (a : Int).tmod (b : Int) = ((a % b : Nat) : Int) := rfl
theorem tmod_i16 (a : Int) : -1000 ≤ a.tmod 1001 ∧ a.tmod 1001 ≤ 1000 := by
 rcases Int.le_total 0 a with h | h
 ·rw [Int.tmod_eq_emod_of_nonneg h]; omega
 ·have h2 : a.tmod 1001 = -((-a).tmod 1001) := by rw [Int.neg_tmod]; omega
  rw [h2, Int.tmod_eq_emod_of_nonneg (by omega)]; omega
def fixM (m : Mt) : Mt := if m.kind = 4 then ⟨1, m.name, [], m.window, m.cap, m.least, m.before⟩ else m
theorem fixM_ok {m : Mt} (h : MtP m) : MtP (fixM m) ∧ ¬ (fixM m).kind = 4 := by
 unfold fixM
 split
 ·obtain ⟨hk, hn, hb, hw, hc, h3, hl, hf⟩ := h
  exact ⟨⟨by dsimp only; omega, hn, .inr ⟨by dsimp only; omega, rfl⟩, hw, hc, (fun h => by cases h), hl, hf⟩, by dsimp only; omega⟩
 ·exact ⟨h, by assumption⟩
structure MS where
 at_ : Int
 out : Li
def mkN (s : MS) (b : UInt8) : MS :=
 let t := s.at_ + ((b.toNat % 12 : Nat) : Int) - (if b.toNat / 12 = 7 then 15 else 0)
 ⟨t, s.out ++ [t]⟩
def mkP (l : By) : MS := l.foldl mkN ⟨0, []⟩
def mksS (l : By) : Li := (mkP (l.take 45)).out
theorem mkP_take {l : By} {i : Nat} (h : i < l.length) : mkP (l.take (i + 1)) = mkN (mkP (l.take i)) l[i] := by
 unfold mkP; rw [List.take_succ_eq_append_getElem h, List.foldl_append]; rfl
structure MkI (s : MS) (n : Nat) : Prop where
 at_ : -15 * (n : Int) ≤ s.at_ ∧ s.at_ ≤ 11 * (n : Int)
 len : s.out.length = n
 all : ∀ m ∈ s.out, -1000 ≤ m ∧ m ≤ 1000
theorem MkI.next {s : MS} {n : Nat} (h : MkI s n) (hn : n < 45) (b : UInt8) : MkI (mkN s b) (n + 1) := by
 have h1 := h.at_
 have h2 : b.toNat % 12 < 12 := Nat.mod_lt _ (by decide)
 unfold mkN
 refine ⟨by dsimp only; split <;> omega, by dsimp only; rw [List.length_append, h.len]; rfl, fun m hm => ?_⟩
 dsimp only at hm
 rcases List.mem_append.1 hm with hm | hm
 ·exact h.all m hm
 ·rw [List.mem_singleton.1 hm]; split <;> omega
theorem mkP_ok {l : By} : ∀ i, i ≤ l.length → i ≤ 45 → MkI (mkP (l.take i)) i := by
 intro i
 induction i with
 | zero => intro _ _; exact ⟨⟨by show (-15 : Int) * ((0 : Nat) : Int) ≤ 0; decide, by show (0 : Int) ≤ 11 * ((0 : Nat) : Int); decide⟩, rfl, fun m h => by cases h⟩
 | succ i ih => intro h1 h2; rw [mkP_take (by omega)]; exact (ih (by omega) (by omega)).next (by omega) _
theorem mksS_ok (l : By) : (mksS l).length = min 45 l.length ∧ ∀ m ∈ mksS l, -1000 ≤ m ∧ m ≤ 1000 := by
 rcases Nat.lt_or_ge 45 l.length with h | h
 ·have := mkP_ok (l := l) 45 (by omega) (Nat.le_refl _)
  exact ⟨by unfold mksS; rw [this.len]; omega, this.all⟩
 ·have := mkP_ok (l := l) l.length (Nat.le_refl _) h
  unfold mksS
  rw [List.take_of_length_le h]
  rw [List.take_length] at this
  exact ⟨by rw [this.len]; omega, this.all⟩
theorem mksS_I (l : By) : AllI (mksS l) := fun m hm => by have := (mksS_ok l).2 m hm; unfold I64; omega
theorem marksA (l : By) : AFn Tryz.prog GS 20 [bs l] 0 [] (Is (li (mksS l))) := by
 obtain ⟨A, hA⟩ : ∃ A, A = mksS l := ⟨_, rfl⟩
 rw [← hA]
 refine afn_of Tryz.func20 rfl mixed (by kernel_rfl) ?_
 conv=>whnf
 refine aloop ws20_1 1 [3, 4, 5] (fun i : Nat => [(3, .own 0), (4, iv (mkP (l.take i)).at_), (5, iv i)]) (fun i => [(0, .rows 3 1 ((mkP (l.take i)).out.map enI))]) (fun i => i ≤ l.length ∧ i ≤ 45) (fun i => 45 - i) [(0, .nil)] [] 0 (by kernel_rfl) (fun _ => rfl) rfl ⟨Nat.zero_le _, by decide⟩ (by trivial) (by trivial) ?_
 rintro i ⟨hi, h45⟩
 have hok := mkP_ok i hi h45
 conv=>whnf
 apply vif_split <;> intro h
 rotate_left 1
 ·have hie : i = l.length := by simp at h; omega
  subst hie
  have e : mkP (l.take l.length) = mkP (l.take 45) := by rw [List.take_length, List.take_of_length_le h45]
  rw [e]
  conv=>whnf
  exact aend (li A) 0 [] [] [0] ⟨rfl, rfl, rfl⟩ rfl trivial ⟨rfl, rfl, by rw [hA]; rfl⟩
 have hlt : i < l.length := by simp at h; omega
 conv=>whnf
 refine vif_split (fun h2 => ?_) (fun h2 => ?_)
 rotate_left 1
 ·have hie : i = 45 := by simp at h2; omega
  subst hie
  conv=>whnf
  exact aend (li A) 0 [] [] [0] ⟨rfl, rfl, rfl⟩ rfl trivial ⟨rfl, rfl, by rw [hA]; rfl⟩
 have hl4 : i < 45 := by simp at h2; omega
 have hg := List.getElem?_eq_getElem hlt
 have hn := mkP_take hlt
 have hat := hok.at_
 have hln := hok.len
 generalize l[i] = b at *
 generalize mkP (l.take i) = s at *
 have hb := b.toNat_lt
 have hm : b.toNat % 12 < 12 := Nat.mod_lt _ (by decide)
 unfold mkN at hn
 conv=>whnf
 refine AIn.mk' i rfl (lmZ hlt) ?_
 conv=>whnf
 refine ARd.mapAt hg ?_
 conv=>whnf
 refine AAr.i64 (by omega) ?_
 conv=>whnf
 refine VReq.mk (by decide) ?_
 conv=>whnf
 refine AAr.to (y := s.at_ + ((b.toNat % 12 : Nat) : Int)) (show IntKind.i64.wrap (s.at_ + ((b.toNat % 12 : Nat) : Int)) = _ from IntWalk.i64_in _ (by omega)) ?_
 conv=>whnf
 refine AIn.mk' i rfl (lmZ hlt) ?_
 conv=>whnf
 refine ARd.mapAt hg ?_
 conv=>whnf
 refine VReq.mk (by decide) ?_
 conv=>whnf
 refine AAr.to (y := ((b.toNat / 12 : Nat) : Int)) (show IntKind.u8.wrap ((b.toNat / 12 : Nat) : Int) = _ from wr_u8 (by omega)) ?_
 conv=>whnf
 refine vif_split (fun h3 => ?_) (fun h3 => ?_)
 ·have h7 : b.toNat / 12 = 7 := by simp at h3; omega
  rw [if_pos h7] at hn
  conv=>whnf
  refine AAr.i64 (by omega) ?_
  conv=>whnf
  refine VReq.mk (app_int (by simp only [List.length_map, List.length_cons, List.length_nil]; omega)) ?_
  conv=>whnf
  refine AAr.i64 (by omega) ?_
  conv=>whnf
  exact aback (i + 1) [(0, .lab 2)] [] rfl (by show 45 - (i + 1) < 45 - i; omega) ⟨hlt, hl4⟩ ⟨⟨rfl, rfl, by rw [hn, List.map_append]; rfl⟩, trivial⟩ ⟨rfl, ciZ (by rw [hn]), rfl, trivial⟩
 ·have h7 : ¬ b.toNat / 12 = 7 := by simp at h3; omega
  rw [if_neg h7] at hn
  conv=>whnf
  refine VReq.mk (app_int (by simp only [List.length_map, List.length_cons, List.length_nil]; omega)) ?_
  conv=>whnf
  refine AAr.i64 (by omega) ?_
  conv=>whnf
  exact aback (i + 1) [(0, .lab 2)] [] rfl (by show 45 - (i + 1) < 45 - i; omega) ⟨hlt, hl4⟩ ⟨⟨rfl, rfl, by rw [hn, List.map_append]; (try dsimp only); rw [Int.sub_zero]; rfl⟩, trivial⟩ ⟨rfl, ciZ (by rw [hn]; (try dsimp only); omega), rfl, trivial⟩
def lngS (p : LP) (l : By) : Bool := p.l.any (fun x => decide (40 < x.m.length)) || decide (200 < l.length)
theorem longA (p : LP) (l : By) (hz : p.l.length ≤ 10000000000000) : AFn Tryz.prog GS 10 [lpA p, bs l] 0 [] (Is (bv (lngS p l))) := by
 obtain ⟨B, hB⟩ : ∃ B, B = lngS p l := ⟨_, rfl⟩
 rw [← hB]
 unfold lngS at hB
 refine afn_of Tryz.func10 rfl mixed (by kernel_rfl) ?_
 conv=>whnf
 refine aloop ws10_1 1 [5] (fun i : Nat => [(5, iv i)]) (fun _ => [(0, lpB p)]) (fun i => i ≤ p.l.length ∧ ∀ x ∈ p.l.take i, x.m.length ≤ 40) (fun i => p.l.length - i) [] [] 0 (by kernel_rfl) (fun _ => rfl) rfl ⟨Nat.zero_le _, fun x h => by cases h⟩ (by trivial) (by trivial) ?_
 rintro i ⟨hi, hno⟩
 conv=>whnf
 apply vif_split <;> intro h
 rotate_left 1
 ·have hie : i = p.l.length := by simp at h; omega
  subst hie
  rw [List.take_length] at hno
  have : p.l.any (fun x => decide (40 < x.m.length)) = false := by
   rw [List.any_eq_false]
   intro x hx
   have := hno x hx
   simp only [decide_eq_true_eq]; omega
  rw [this, Bool.false_or] at hB
  conv=>whnf
  exact aret [] (congrArg Value.bool (by rw [hB]; exact decide_eq_decide.2 (by rw [List.length_map]; omega)))
 have hlt : i < p.l.length := by simp at h; omega
 have hg := List.getElem?_eq_getElem hlt
 have hsn := List.take_succ_eq_append_getElem hlt
 have hmem := List.getElem_mem hlt
 generalize p.l[i] = x at *
 conv=>whnf
 refine AIn.mk' i rfl (lmZ hlt) ?_
 conv=>whnf
 refine ARd.mapAt hg ?_
 conv=>whnf
 refine vif_split (fun h2 => ?_) (fun h2 => ?_)
 ·have h40 : 40 < x.m.length := by simp at h2; omega
  have : p.l.any (fun x => decide (40 < x.m.length)) = true := List.any_eq_true.2 ⟨x, hmem, decide_eq_true h40⟩
  rw [this, Bool.true_or] at hB
  conv=>whnf
  exact aret [] (congrArg Value.bool hB.symm)
 have h40 : ¬ 40 < x.m.length := by simp at h2; omega
 conv=>whnf
 refine AAr.i64 (by omega) ?_
 conv=>whnf
 exact aback (i + 1) [] [] rfl (by show p.l.length - (i + 1) < p.l.length - i; omega) ⟨hlt, fun y hy => by
  rw [hsn] at hy
  rcases List.mem_append.1 hy with hy | hy
  ·exact hno y hy
  ·rw [List.mem_singleton.1 hy]; omega⟩ (by trivial) (by trivial)
theorem lngS_no {p : LP} {l : By} (h : lngS p l = false) : l.length ≤ 200 := by
 unfold lngS at h
 rw [Bool.or_eq_false_iff] at h
 simpa using h.2
def awP : Pn := ⟨[98, 108, 117, 101], 1, 0, 0, 50, []⟩
theorem awR : runS awP [] [] [5] = [⟨5, 5, 0, 0, 0, 4294967296, -1⟩] := by kernel_rfl
theorem awPZ : PnZ awP := ⟨by decide, by decide, fun h hh => by cases hh⟩
theorem awEB : EvB [] := ⟨by decide, fun e h => (by cases h), fun e h => (by cases h)⟩
theorem gawakeA : AFn Tryz.prog GS 9 [] 0 [] (Is (bv true)) := by
 have hR := grunA awP [] [] [5] awPZ awEB (by decide) (fun x hx => by rw [List.mem_singleton.1 hx]; unfold I64; omega) (by decide)
 rw [awR] at hR
 refine afn_of Tryz.func9 rfl mixed (by kernel_rfl) ?_
 conv=>whnf
 refine acallF [0] (by kernel_rfl) hR ?_ ?_
 ·trivial
 rintro _ _ _ ⟨rfl, rfl, rfl⟩
 conv=>whnf
 refine AIn.mk' 0 rfl (by decide) ?_
 conv=>whnf
 refine ARd.at rfl ?_
 conv=>whnf
 refine AEq.mk (by kernel_rfl) rfl rfl ?_
 conv=>whnf
 exact aret [] (by trivial)
theorem rolloutA (P : LP) (hz : LpZ P) : AFn Tryz.prog GS 11 [lpA P] 0 [] RoW := by
 obtain ⟨z1, z2, z3, z4, z5, z6, z7⟩ := hz
 have hE : P.e % 2 < 2 := Nat.mod_lt _ (by decide)
 have hS : P.s % 5 < 5 := Nat.mod_lt _ (by decide)
 have hN : P.n % 6 < 6 := Nat.mod_lt _ (by decide)
 have hH : P.h % 30 < 30 := Nat.mod_lt _ (by decide)
 have hV : P.v * 998 / 255 ≤ 998 := by omega
 obtain ⟨nm, hnm⟩ : ∃ nm, expT[P.e % 2]? = some nm := ⟨_, List.getElem?_eq_getElem (show P.e % 2 < 4 by omega)⟩
 refine afn_of Tryz.func11 rfl mixed (by kernel_rfl) ?_
 conv=>whnf
 (refine adraw pln11 [] (by kernel_rfl) ?_; conv=>whnf)
 repeat' (first
  | (refine And.intro ?_ ?_ <;> (conv=>whnf))
  | (refine VReq.mk (by decide) ?_; conv=>whnf)
  | ((refine acallF [] (by kernel_rfl) (expTA) ?_ ?_; (focus (trivial; done)); rintro _ _ _ ⟨rfl, rfl, rfl⟩; (conv=>whnf)))
  | (refine AIn.mk' (P.e % 2) rfl (by rw [List.length_map]; show _ < 4; omega) ?_; conv=>whnf)
  | (refine ARd.mapAt hnm ?_; conv=>whnf)
  | (refine AAr.i64 (by omega) ?_; conv=>whnf)
  | (refine AAr.to (y := 1 + ((P.s % 5 : Nat) : Int)) (show IntKind.i64.wrap (1 + ((P.s % 5 : Nat) : Int)) = _ from IntWalk.i64_in _ (by omega)) ?_; conv=>whnf)
  | (refine AAr.to (y := ((P.v * 998 / 255 : Nat) : Int)) (show IntKind.i64.wrap ((P.v * 998 / 255 : Nat) : Int) = _ from IntWalk.i64_in _ (by omega)) ?_; conv=>whnf)
  | (refine AAr.to (y := 1 + ((P.v * 998 / 255 : Nat) : Int)) (show IntKind.i64.wrap (1 + ((P.v * 998 / 255 : Nat) : Int)) = _ from IntWalk.i64_in _ (by omega)) ?_; conv=>whnf))
 ·refine aloop ws11_1 5 [4] (fun x : KL => [(4, iv x.i)]) (fun x => [(4, .rows 37 9 (x.hs.map hlF)), (3, .var 24 [tv nm, iv (1 + ((P.s % 5 : Nat) : Int)), iv ((P.n % 6 : Nat) : Int), iv ((P.h % 30 : Nat) : Int), iv (1 + ((P.v * 998 / 255 : Nat) : Int)), .own 4]), (1, .var 24 [tv [], iv 0, iv 0, iv 0, iv 0, .v (.slice none 0 0)]), (0, lpB P)]) (fun x => x.i ≤ P.l.length ∧ x.i ≤ 2 ∧ x.hs.length = x.i ∧ ∀ h ∈ x.hs, HlP h) (fun x => 2 - x.i) [(4, .nil)] [] ⟨0, []⟩ (by kernel_rfl) (fun _ => rfl) rfl ⟨Nat.zero_le _, by decide, rfl, fun h hh => by cases hh⟩ (by trivial) (by trivial) ?_
  rintro ⟨i, hs⟩ ⟨hi, hi2, hl, hP⟩
  dsimp only at hi hi2 hl hP
  conv=>whnf
  apply vif_split <;> intro h
  rotate_left 1
  ·skip
   conv=>whnf
   exact aend (pnO ⟨nm, 1 + ((P.s % 5 : Nat) : Int), ((P.n % 6 : Nat) : Int), ((P.h % 30 : Nat) : Int), 1 + ((P.v * 998 / 255 : Nat) : Int), hs⟩ 0) 1 [(0, .rows 37 9 (hs.map hlF))] [(0, .lab 4)] [] ⟨_, ⟨⟨P.e % 2, hE, hnm⟩, by dsimp only; omega, by dsimp only; omega, by dsimp only; omega, by dsimp only; omega, by dsimp only; omega, hP⟩, rfl, rfl, rfl⟩ rfl (by trivial) (by trivial)
  have hlt : i < P.l.length := by simp at h; omega
  conv=>whnf
  apply vif_split <;> intro h
  rotate_left 1
  ·skip
   conv=>whnf
   exact aend (pnO ⟨nm, 1 + ((P.s % 5 : Nat) : Int), ((P.n % 6 : Nat) : Int), ((P.h % 30 : Nat) : Int), 1 + ((P.v * 998 / 255 : Nat) : Int), hs⟩ 0) 1 [(0, .rows 37 9 (hs.map hlF))] [(0, .lab 4)] [] ⟨_, ⟨⟨P.e % 2, hE, hnm⟩, by dsimp only; omega, by dsimp only; omega, by dsimp only; omega, by dsimp only; omega, by dsimp only; omega, hP⟩, rfl, rfl, rfl⟩ rfl (by trivial) (by trivial)
  have hi3 : i < 2 := by simp at h; omega
  have hg := List.getElem?_eq_getElem hlt
  have hz := z7 _ (List.getElem_mem hlt)
  generalize P.l[i] = x at *
  conv=>whnf
  refine AIn.mk' i rfl (lmZ hlt) ?_
  conv=>whnf
  refine ARd.mapAt hg ?_
  conv=>whnf
  refine acallF [] (by kernel_rfl) (metricDA x.m) ?_ ?_
  ·trivial
  rintro _ _ _ ⟨m, hm, rfl, rfl, rfl⟩
  have hmf := fixM_ok hm
  conv=>whnf
  refine vif_split (fun h4 => ?_) (fun h4 => ?_)
  ·have k4 : m.kind = 4 := by simpa using h4
   have hf : fixM m = ⟨1, m.name, [], m.window, m.cap, m.least, m.before⟩ := by unfold fixM; rw [if_pos k4]
   conv=>whnf
   (refine adraw pln11 [] (by kernel_rfl) ?_; conv=>whnf)
   repeat' (first
    | (refine And.intro ?_ ?_ <;> (conv=>whnf))
    | (refine VReq.mk (by decide) ?_; conv=>whnf)
    | (refine AIn.mk' i rfl (lmZ hlt) ?_; conv=>whnf)
    | (refine ARd.mapAt hg ?_; conv=>whnf)
    | (refine AAr.i64 (by omega) ?_; conv=>whnf))
   refine VReq.mk (app_ok (by simp only [List.length_map, List.length_cons, List.length_nil]; omega) (by kernel_rfl)) ?_
   conv=>whnf
   refine AAr.i64 (by (try dsimp only); omega) ?_
   conv=>whnf
   have hm2 : HlP ⟨fixM m, min (x.lo.tmod 1001) (x.hi.tmod 1001), max (x.lo.tmod 1001) (x.hi.tmod 1001)⟩ := ⟨hmf.1, hmf.2, by have := tmod_i16 x.lo; have := tmod_i16 x.hi; dsimp only; omega⟩
   refine aback ⟨i + 1, hs ++ [⟨fixM m, min (x.lo.tmod 1001) (x.hi.tmod 1001), max (x.lo.tmod 1001) (x.hi.tmod 1001)⟩]⟩ [(4, .lab 7)] [] rfl (by show 2 - (i + 1) < 2 - i; omega) ⟨hlt, hi3, by dsimp only; rw [List.length_append, hl]; rfl, fun h hh => ?_⟩ ⟨⟨rfl, rfl, ?_⟩, (by trivial), (by trivial), (by trivial), trivial⟩ (by trivial)
   ·rcases List.mem_append.1 hh with hh | hh
    ·exact hP h hh
    ·rw [List.mem_singleton.1 hh]; exact hm2
   ·rw [List.map_append]
    rw [hf]; rfl
  ·have k4 : ¬ m.kind = 4 := by simpa using h4
   have hf : fixM m = m := by unfold fixM; rw [if_neg k4]
   conv=>whnf
   (refine adraw pln11 [] (by kernel_rfl) ?_; conv=>whnf)
   repeat' (first
    | (refine And.intro ?_ ?_ <;> (conv=>whnf))
    | (refine VReq.mk (by decide) ?_; conv=>whnf)
    | (refine AIn.mk' i rfl (lmZ hlt) ?_; conv=>whnf)
    | (refine ARd.mapAt hg ?_; conv=>whnf)
    | (refine AAr.i64 (by omega) ?_; conv=>whnf))
   refine VReq.mk (app_ok (by simp only [List.length_map, List.length_cons, List.length_nil]; omega) (by kernel_rfl)) ?_
   conv=>whnf
   refine AAr.i64 (by (try dsimp only); omega) ?_
   conv=>whnf
   have hm2 : HlP ⟨fixM m, min (x.lo.tmod 1001) (x.hi.tmod 1001), max (x.lo.tmod 1001) (x.hi.tmod 1001)⟩ := ⟨hmf.1, hmf.2, by have := tmod_i16 x.lo; have := tmod_i16 x.hi; dsimp only; omega⟩
   refine aback ⟨i + 1, hs ++ [⟨fixM m, min (x.lo.tmod 1001) (x.hi.tmod 1001), max (x.lo.tmod 1001) (x.hi.tmod 1001)⟩]⟩ [(4, .lab 7)] [] rfl (by show 2 - (i + 1) < 2 - i; omega) ⟨hlt, hi3, by dsimp only; rw [List.length_append, hl]; rfl, fun h hh => ?_⟩ ⟨⟨rfl, rfl, ?_⟩, (by trivial), (by trivial), (by trivial), trivial⟩ (by trivial)
   ·rcases List.mem_append.1 hh with hh | hh
    ·exact hP h hh
    ·rw [List.mem_singleton.1 hh]; exact hm2
   ·rw [List.map_append]
    rw [hf]; rfl
 ·refine aloop ws11_1 5 [4] (fun x : KL => [(4, iv x.i)]) (fun x => [(4, .rows 37 9 (x.hs.map hlF)), (2, .var 24 [tv nm, iv (1 + ((P.s % 5 : Nat) : Int)), iv ((P.n % 6 : Nat) : Int), iv ((P.h % 30 : Nat) : Int), iv (1 + ((P.v * 998 / 255 : Nat) : Int)), .own 4]), (1, .var 24 [tv [], iv 0, iv 0, iv 0, iv 0, .v (.slice none 0 0)]), (0, lpB P)]) (fun x => x.i ≤ P.l.length ∧ x.i ≤ 2 ∧ x.hs.length = x.i ∧ ∀ h ∈ x.hs, HlP h) (fun x => 2 - x.i) [(4, .nil)] [] ⟨0, []⟩ (by kernel_rfl) (fun _ => rfl) rfl ⟨Nat.zero_le _, by decide, rfl, fun h hh => by cases hh⟩ (by trivial) (by trivial) ?_
  rintro ⟨i, hs⟩ ⟨hi, hi2, hl, hP⟩
  dsimp only at hi hi2 hl hP
  conv=>whnf
  apply vif_split <;> intro h
  rotate_left 1
  ·skip
   conv=>whnf
   exact aend (pnO ⟨nm, 1 + ((P.s % 5 : Nat) : Int), ((P.n % 6 : Nat) : Int), ((P.h % 30 : Nat) : Int), 1 + ((P.v * 998 / 255 : Nat) : Int), hs⟩ 0) 1 [(0, .rows 37 9 (hs.map hlF))] [(0, .lab 4)] [] ⟨_, ⟨⟨P.e % 2, hE, hnm⟩, by dsimp only; omega, by dsimp only; omega, by dsimp only; omega, by dsimp only; omega, by dsimp only; omega, hP⟩, rfl, rfl, rfl⟩ rfl (by trivial) (by trivial)
  have hlt : i < P.l.length := by simp at h; omega
  conv=>whnf
  apply vif_split <;> intro h
  rotate_left 1
  ·skip
   conv=>whnf
   exact aend (pnO ⟨nm, 1 + ((P.s % 5 : Nat) : Int), ((P.n % 6 : Nat) : Int), ((P.h % 30 : Nat) : Int), 1 + ((P.v * 998 / 255 : Nat) : Int), hs⟩ 0) 1 [(0, .rows 37 9 (hs.map hlF))] [(0, .lab 4)] [] ⟨_, ⟨⟨P.e % 2, hE, hnm⟩, by dsimp only; omega, by dsimp only; omega, by dsimp only; omega, by dsimp only; omega, by dsimp only; omega, hP⟩, rfl, rfl, rfl⟩ rfl (by trivial) (by trivial)
  have hi3 : i < 2 := by simp at h; omega
  have hg := List.getElem?_eq_getElem hlt
  have hz := z7 _ (List.getElem_mem hlt)
  generalize P.l[i] = x at *
  conv=>whnf
  refine AIn.mk' i rfl (lmZ hlt) ?_
  conv=>whnf
  refine ARd.mapAt hg ?_
  conv=>whnf
  refine acallF [] (by kernel_rfl) (metricDA x.m) ?_ ?_
  ·trivial
  rintro _ _ _ ⟨m, hm, rfl, rfl, rfl⟩
  have hmf := fixM_ok hm
  conv=>whnf
  refine vif_split (fun h4 => ?_) (fun h4 => ?_)
  ·have k4 : m.kind = 4 := by simpa using h4
   have hf : fixM m = ⟨1, m.name, [], m.window, m.cap, m.least, m.before⟩ := by unfold fixM; rw [if_pos k4]
   conv=>whnf
   (refine adraw pln11 [] (by kernel_rfl) ?_; conv=>whnf)
   repeat' (first
    | (refine And.intro ?_ ?_ <;> (conv=>whnf))
    | (refine VReq.mk (by decide) ?_; conv=>whnf)
    | (refine AIn.mk' i rfl (lmZ hlt) ?_; conv=>whnf)
    | (refine ARd.mapAt hg ?_; conv=>whnf)
    | (refine AAr.i64 (by omega) ?_; conv=>whnf))
   refine VReq.mk (app_ok (by simp only [List.length_map, List.length_cons, List.length_nil]; omega) (by kernel_rfl)) ?_
   conv=>whnf
   refine AAr.i64 (by (try dsimp only); omega) ?_
   conv=>whnf
   have hm2 : HlP ⟨fixM m, min (x.lo.tmod 1001) (x.hi.tmod 1001), max (x.lo.tmod 1001) (x.hi.tmod 1001)⟩ := ⟨hmf.1, hmf.2, by have := tmod_i16 x.lo; have := tmod_i16 x.hi; dsimp only; omega⟩
   refine aback ⟨i + 1, hs ++ [⟨fixM m, min (x.lo.tmod 1001) (x.hi.tmod 1001), max (x.lo.tmod 1001) (x.hi.tmod 1001)⟩]⟩ [(4, .lab 7)] [] rfl (by show 2 - (i + 1) < 2 - i; omega) ⟨hlt, hi3, by dsimp only; rw [List.length_append, hl]; rfl, fun h hh => ?_⟩ ⟨⟨rfl, rfl, ?_⟩, (by trivial), (by trivial), (by trivial), trivial⟩ (by trivial)
   ·rcases List.mem_append.1 hh with hh | hh
    ·exact hP h hh
    ·rw [List.mem_singleton.1 hh]; exact hm2
   ·rw [List.map_append]
    rw [hf]; rfl
  ·have k4 : ¬ m.kind = 4 := by simpa using h4
   have hf : fixM m = m := by unfold fixM; rw [if_neg k4]
   conv=>whnf
   (refine adraw pln11 [] (by kernel_rfl) ?_; conv=>whnf)
   repeat' (first
    | (refine And.intro ?_ ?_ <;> (conv=>whnf))
    | (refine VReq.mk (by decide) ?_; conv=>whnf)
    | (refine AIn.mk' i rfl (lmZ hlt) ?_; conv=>whnf)
    | (refine ARd.mapAt hg ?_; conv=>whnf)
    | (refine AAr.i64 (by omega) ?_; conv=>whnf))
   refine VReq.mk (app_ok (by simp only [List.length_map, List.length_cons, List.length_nil]; omega) (by kernel_rfl)) ?_
   conv=>whnf
   refine AAr.i64 (by (try dsimp only); omega) ?_
   conv=>whnf
   have hm2 : HlP ⟨fixM m, min (x.lo.tmod 1001) (x.hi.tmod 1001), max (x.lo.tmod 1001) (x.hi.tmod 1001)⟩ := ⟨hmf.1, hmf.2, by have := tmod_i16 x.lo; have := tmod_i16 x.hi; dsimp only; omega⟩
   refine aback ⟨i + 1, hs ++ [⟨fixM m, min (x.lo.tmod 1001) (x.hi.tmod 1001), max (x.lo.tmod 1001) (x.hi.tmod 1001)⟩]⟩ [(4, .lab 7)] [] rfl (by show 2 - (i + 1) < 2 - i; omega) ⟨hlt, hi3, by dsimp only; rw [List.length_append, hl]; rfl, fun h hh => ?_⟩ ⟨⟨rfl, rfl, ?_⟩, (by trivial), (by trivial), (by trivial), trivial⟩ (by trivial)
   ·rcases List.mem_append.1 hh with hh | hh
    ·exact hP h hh
    ·rw [List.mem_singleton.1 hh]; exact hm2
   ·rw [List.map_append]
    rw [hf]; rfl
theorem AFn.end0 {P : Program} {G : Glob} {f : FuncId} {args : List AV} {R R' : AV → Nat → AHeap → Prop} (h : AFn P G f args 0 [] R) (k : ∀ a n H, R a n H → AEnd G 0 R' a n H) : AFn P G f args 0 [] R' := by
 intro w σ F vs st r
 refine (h w σ F vs st r).mono fun v w' ⟨a, m, σ', F', H', hR, s, x, ra⟩ => ?_
 obtain ⟨a', n', H'', hR', _, hE⟩ := (k a m H' hR).ex
 obtain ⟨σ'', F'', s2, r2, _, h4⟩ := hE w (Mut w σ []) F σ' F' w' v s ra
 exact ⟨a', n', σ'', F'', H'', hR', s2, ⟨Nat.zero_le _, fun _ h => absurd h (Nat.not_lt_zero _), fun b hb => ⟨h4 b (x.f b hb).1, (x.f b hb).2⟩, x.sz⟩, r2⟩
theorem rolloutF (P : LP) (hz : LpZ P) : AFn Tryz.prog GS 11 [lpA P] 0 [] RoO :=
 AFn.end0 (rolloutA P hz) fun a n H ⟨p, hp, e1, e2, e3⟩ => by
  subst e1; subst e2; subst e3
  exact aend (pnA p) 0 [] [] [0] ⟨p, hp, rfl, rfl, rfl⟩ rfl trivial (by trivial)
def wg1 (a b : Nat) : Wg := ⟨1, 1 + ((a % 20 : Nat) : Int), 1 + ((b % 20 : Nat) : Int)⟩
def wg2 (a b : Nat) : Wg := ⟨2, 1 + ((a % 20 : Nat) : Int), 1 + ((b % 20 : Nat) : Int)⟩
theorem wdataA (a b c d : Nat) (ha : a < 256) (hb : b < 256) (hc : c < 256) (hd : d < 256) : AFn Tryz.prog GS 15 [u8v a, u8v b, u8v c, u8v d] 0 [] (Is (wgL [wg1 a b, wg2 c d])) := by
 have h1 : ∀ n : Nat, n % 20 < 20 := fun n => Nat.mod_lt _ (by decide)
 have ha := h1 a
 have hb := h1 b
 have hc := h1 c
 have hd := h1 d
 refine afn_of Tryz.func15 rfl mixed (by kernel_rfl) ?_
 conv=>whnf
 repeat' (first
  | (refine And.intro ?_ ?_ <;> (conv=>whnf))
  | (refine VReq.mk (by decide) ?_; conv=>whnf)
  | (refine AAr.i64 (by omega) ?_; conv=>whnf)
  | (refine AAr.to (y := 1 + ((a % 20 : Nat) : Int)) (show IntKind.i64.wrap (1 + ((a % 20 : Nat) : Int)) = _ from IntWalk.i64_in _ (by omega)) ?_; conv=>whnf)
  | (refine AAr.to (y := 1 + ((b % 20 : Nat) : Int)) (show IntKind.i64.wrap (1 + ((b % 20 : Nat) : Int)) = _ from IntWalk.i64_in _ (by omega)) ?_; conv=>whnf)
  | (refine AAr.to (y := 1 + ((c % 20 : Nat) : Int)) (show IntKind.i64.wrap (1 + ((c % 20 : Nat) : Int)) = _ from IntWalk.i64_in _ (by omega)) ?_; conv=>whnf)
  | (refine AAr.to (y := 1 + ((d % 20 : Nat) : Int)) (show IntKind.i64.wrap (1 + ((d % 20 : Nat) : Int)) = _ from IntWalk.i64_in _ (by omega)) ?_; conv=>whnf))
 exact aend (wgL [wg1 a b, wg2 c d]) 0 [] [] [0] ⟨rfl, rfl, rfl⟩ rfl trivial (by trivial)
structure AcG (p : Pn) (st m : Int) (a : Ac) : Prop where
 mark : a.mark = m
 stage : a.stage = st
 kind : 1 ≤ a.kind ∧ a.kind ≤ 5
 rev : a.kind = 4 ↔ 0 ≤ a.health
 fin : a.kind = 5 → p.stages - 1 ≤ st
 ramp : a.kind = 2 → ¬ p.stages - 1 ≤ st
 need : a.kind = 2 ∨ a.kind = 5 → p.needed ≤ a.ctl + a.trt
theorem lookS_good {p : Pn} {l : List Ev} {w : List Wg} {st si m : Int} (hc : pnC p = 0) (hm : si ≤ m) : AcG p st m (lookS p l w st si m) := by
 unfold lookS
 rw [if_neg (by omega)]
 unfold lookG
 dsimp only
 generalize (armN (finS l p.exp m) si 1 : Nat) = a
 generalize (armN (finS l p.exp m) si 2 : Nat) = b
 generalize lastD (balS (finS l p.exp m) w) = k
 generalize illS l w p m = i
 generalize (m - si) % 18446744073709551616 = d
 split
 ·refine ⟨rfl, rfl, ?_, ?_, ?_, ?_, ?_⟩ <;> (try dsimp only) <;> omega
 split
 ·rename_i h4
  refine ⟨rfl, rfl, ?_, ?_, ?_, ?_, ?_⟩ <;> (try dsimp only) <;> omega
 split
 ·refine ⟨rfl, rfl, ?_, ?_, ?_, ?_, ?_⟩ <;> (try dsimp only) <;> omega
 rename_i h5
 split
 ·rename_i h6
  refine ⟨rfl, rfl, ?_, ?_, ?_, ?_, ?_⟩ <;> (try dsimp only) <;> omega
 ·rename_i h6
  refine ⟨rfl, rfl, ?_, ?_, ?_, ?_, ?_⟩ <;> (try dsimp only) <;> omega
def Crs (p : Pn) : Int → Int → List Ac → Prop
 | _, _, [] => True
 | st, la, a :: r => AcG p st a.mark a ∧ la ≤ a.mark ∧ (3 ≤ a.kind → r = []) ∧ st ≤ p.stages - 1 ∧ Crs p (if a.kind = 2 then st + 1 else st) a.mark r
def Rpl (look : Int → Int → Int → Ac) : Int → List Ac → Prop
 | _, [] => True
 | si, a :: r => look a.stage si a.mark = a ∧ si ≤ a.mark ∧ Rpl look (if a.kind = 2 then a.mark else si) r
theorem runR_crs {p : Pn} {l : List Ev} {w : List Wg} (hc : pnC p = 0) : ∀ (ms : Li) (st si la : Int) (n : Nat), si ≤ la → st ≤ p.stages - 1 → Crs p st la (runR (lookS p l w) ms st si la n) := by
 intro ms
 induction ms with
 | nil => intro st si la n _ _; trivial
 | cons m r ih =>
  intro st si la n hla hst
  unfold runR
  split
  ·exact ih st si la n hla hst
  split
  ·trivial
  rename_i h1 _
  have hg := lookS_good (l := l) (w := w) (st := st) (si := si) (m := m) hc (by omega)
  generalize lookS p l w st si m = a at *
  have hmk := hg.mark
  refine ⟨by rw [hmk]; exact hg, by rw [hmk]; omega, fun h3 => ?_, hst, ?_⟩
  ·rw [if_neg (by omega), if_pos ⟨h3, hg.kind.2⟩]
  ·rw [hmk]
   by_cases h2 : a.kind = 2
   ·rw [if_pos h2, if_pos h2]
    exact ih _ _ _ _ (Int.le_refl _) (by have := hg.ramp h2; omega)
   ·rw [if_neg h2, if_neg h2]
    split
    ·trivial
    ·exact ih _ _ _ _ (by omega) hst
theorem runR_rpl {p : Pn} {l : List Ev} {w : List Wg} (hc : pnC p = 0) : ∀ (ms : Li) (st si la : Int) (n : Nat), si ≤ la → Rpl (lookS p l w) si (runR (lookS p l w) ms st si la n) := by
 intro ms
 induction ms with
 | nil => intro st si la n _; trivial
 | cons m r ih =>
  intro st si la n hla
  unfold runR
  split
  ·exact ih st si la n hla
  split
  ·trivial
  rename_i h1 _
  have hg := lookS_good (l := l) (w := w) (st := st) (si := si) (m := m) hc (by omega)
  have he : ∀ a, a = lookS p l w st si m → lookS p l w a.stage si a.mark = a := fun a h => by subst h; rw [hg.mark, hg.stage]
  have hg := hg
  have he := he _ rfl
  refine ⟨he, by rw [hg.mark]; omega, ?_⟩
  have hmk := hg.mark
  have hk := hg.kind
  clear he
  generalize lookS p l w st si m = a at *
  by_cases h2 : a.kind = 2
  ·rw [if_pos h2, if_pos h2, hmk]
   exact ih _ _ _ _ (Int.le_refl _)
  ·rw [if_neg h2, if_neg h2]
   split
   ·trivial
   ·exact ih _ _ _ _ (by omega)
theorem runR_len (look : Int → Int → Int → Ac) : ∀ (ms : Li) (st si la : Int) (n : Nat), n ≤ 30 → (runR look ms st si la n).length ≤ 30 - n ∧ (runR look ms st si la n).length ≤ ms.length := by
 intro ms
 induction ms with
 | nil => intro st si la n _; exact ⟨Nat.zero_le _, Nat.zero_le _⟩
 | cons m r ih =>
  intro st si la n hn
  unfold runR
  split
  ·have := ih st si la n hn; simp only [List.length_cons]; omega
  split
  ·exact ⟨Nat.zero_le _, Nat.zero_le _⟩
  ·rename_i h30
   simp only [List.length_cons]
   split
   ·have := ih (st + 1) m m (n + 1) (by omega); omega
   split
   ·simp only [List.length_nil]; omega
   ·have := ih st si m (n + 1) (by omega); omega
theorem runS_len (p : Pn) (l : List Ev) (w : List Wg) (ms : Li) : (runS p l w ms).length ≤ 30 ∧ (runS p l w ms).length ≤ ms.length := by
 unfold runS
 split
 ·exact ⟨Nat.zero_le _, Nat.zero_le _⟩
 ·cases ms with
  | nil => exact ⟨Nat.zero_le _, Nat.zero_le _⟩
  | cons m r => have := runR_len (lookS p l w) (m :: r) 0 m m 0 (by omega); exact ⟨this.1, this.2⟩
theorem runS_nil {p : Pn} {l : List Ev} {w : List Wg} {ms : Li} (hc : pnC p = 0) : runS p l w ms = [] ↔ ms = [] := by
 unfold runS
 rw [if_neg (by omega)]
 cases ms with
 | nil => simp
 | cons m r =>
  dsimp only
  unfold runR
  rw [if_neg (by omega), if_neg (by decide)]
  simp
theorem runS_first {p : Pn} {l : List Ev} {w : List Wg} {ms : Li} {a : Ac} {r : List Ac} (hc : pnC p = 0) (h : runS p l w ms = a :: r) : ∃ m0, a.mark = m0 ∧ Rpl (lookS p l w) m0 (a :: r) := by
 unfold runS at h
 rw [if_neg (by omega)] at h
 cases ms with
 | nil => cases h
 | cons m r' =>
  have h1 := runR_rpl (l := l) (w := w) hc (m :: r') 0 m m 0 (Int.le_refl _)
  dsimp only at h
  rw [h] at h1
  refine ⟨m, ?_, h1⟩
  unfold runR at h
  rw [if_neg (by omega), if_neg (by decide)] at h
  injection h with h2 _
  rw [← h2]
  exact (lookS_good hc (Int.le_refl _)).mark
theorem finS_more {p r : List Ev} {M : Int} (hp : ∀ e ∈ p, e.time < M) (hr : ∀ e ∈ r, M ≤ e.time) (name : By) : finS (p ++ r) name M = finS p name M := by
 obtain ⟨ys, h1, h2⟩ := fstS_more hp hr name
 unfold finS
 rw [h1, List.filter_append]
 have : ys.filter (fun x => decide (x.time < M)) = [] := by
  rw [List.filter_eq_nil_iff]
  intro y hy
  have := h2 y hy
  simp only [decide_eq_true_eq]
  omega
 rw [this, List.append_nil]
theorem scrS_more {p r : List Ev} {M : Int} (hp : ∀ e ∈ p, e.time < M) (hr : ∀ e ∈ r, M ≤ e.time) (w : List Wg) (name : By) (m : Mt) : scrS (p ++ r) w name m M = scrS p w name m M := by
 unfold scrS
 by_cases h : mtC m = 0
 ·rw [if_pos h, if_pos h, smpS_more hp hr name m (mtC_rng h).1.1]
 ·rw [if_neg h, if_neg h]
theorem lookS_more {p r : List Ev} {M : Int} (hp : ∀ e ∈ p, e.time < M) (hr : ∀ e ∈ r, M ≤ e.time) (q : Pn) (w : List Wg) (st si : Int) : lookS q (p ++ r) w st si M = lookS q p w st si M := by
 have h1 := finS_more hp hr q.exp
 have h2 : illS (p ++ r) w q M = illS p w q M := by
  unfold illS
  have : illP (p ++ r) w q M = illP p w q M := by
   funext h
   unfold illP
   rw [scrS_more hp hr]
  rw [this]
 unfold lookS lookG
 rw [h1, h2]
section
attribute [local irreducible] lookS runS lngS mksS wg1 wg2
theorem wg_ne (a b c d : Nat) : (wg1 a b).ver ≠ (wg2 c d).ver := by unfold wg1 wg2; show (1 : Int) ≠ 2; decide
theorem evB_of {l : List Ev} (h : EvsP l) : EvB l := h.bnd
end
end Go.Proofs.YtgfgndaoocfpdaaGreatDoor.Cl
namespace Go.Proofs.YtgfgndaoocfpdaaGreatDoor.Ax
open Go Go.RowKit Go.Proofs.YtgfgndaoocfpdaaGreatDoor.Vc
variable {P : Program} {G : Glob}
def Here (w : World) (b : Nat) : Prop := b < w.heap.size
def loc0 : Nat → Loc := fun _ => ⟨none, 0, 0, 0⟩
theorem ret_of_afn {f : FuncId} {args : List AV} {x : Value} (h : AFn P G f args 0 [] (Is (.v x))) (w : World) (hG : G.holds w) (vs : List Value) (r : RepL 0 loc0 (Here w) w args vs) : Ret P f vs.toArray w fun v w' => v = x ∧ Below w.heap.size w w' := by
 have st : St G w (Mut w loc0 []) (Here w) 0 loc0 (Here w) [] w := ⟨hG, Chg.refl _ _, fun b hb => ⟨hb, .inl hb⟩, (fun ell b h => by cases h), (fun ell b g h => by cases h), (fun ell ell' b b' g h => by cases h), (fun ell b h => by cases h)⟩
 refine (h w loc0 (Here w) vs st r).mono fun v w' ⟨a, n', σ', F', H', ⟨ha, _, _⟩, s, _, ra⟩ => ?_
 subst ha
 refine ⟨ra.v_eq, s.chg.os, s.chg.tape, s.chg.output, s.chg.size, fun k hk => s.chg.block k hk fun ⟨_, _, hm, _⟩ => by cases hm⟩
theorem seg_at {α : Type} {c : α → List Value} {k : Nat} (hk : ∀ a, (c a).length = k) {l : List α} {i j : Nat} {a : α} {v : Value} (hi : l[i]? = some a) (hj : (c a)[j]? = some v) : (recs c l)[i * k + j]? = some v := by
 obtain ⟨h, rfl⟩ := List.getElem?_eq_some_iff.1 hi
 exact recs_seg hk l i h j v hj
theorem frep_flat {α : Type} {F : Nat → Prop} {w : World} {sz : Nat} {enc : α → List FV} {c : α → List Value} (he : ∀ x, enc x = (c x).map .v) (hk : ∀ a, (c a).length = sz) (h1 : ∀ a, ∀ v ∈ c a, v.oneCell' = true) {l : List α} {oa : Option Addr} {cap : Nat} (hc : l.length ≤ cap) (hnil : oa = none → cap = 0) (hr : Row w oa (recs c l)) (hF : ∀ b, b < w.heap.size → F b) (hz : 0 < sz) :
  FRep F w (.lst sz (l.map enc)) (.slice oa l.length cap) := by
 have hlen : ∀ row ∈ l.map enc, row.length = sz := fun row hrow => by
  obtain ⟨a, _, rfl⟩ := List.mem_map.1 hrow
  rw [he, List.length_map, hk]
 rcases Nat.eq_zero_or_pos l.length with h0 | h0
 ·have hl : l = [] := List.eq_nil_of_length_eq_zero h0
  subst hl
  exact .lst sz [] oa 0 cap 0 0 rfl hc hnil (fun h => absurd h (Nat.lt_irrefl 0)) (fun row hr => by cases hr) (fun i j hi => absurd hi (Nat.not_lt_zero i)) (fun i j row a v hi => by simp at hi)
 ·rcases hr with hr | ⟨b, o, rfl, hb, hcell⟩
  ·have := recs_len hk l
   rw [hr, List.length_nil] at this
   have := Nat.mul_pos h0 hz
   omega
  ·have row : ∀ i j, i < l.length → j < sz → ∃ a v, l[i]? = some a ∧ (c a)[j]? = some v ∧ w.cell? ⟨b, o + (i * sz + j), none⟩ = some v := fun i j hi hj => by
    have hjl : j < (c l[i]).length := by rw [hk]; exact hj
    exact ⟨l[i], (c l[i])[j], List.getElem?_eq_getElem hi, List.getElem?_eq_getElem hjl, hcell _ _ (seg_at hk (List.getElem?_eq_getElem hi) (List.getElem?_eq_getElem hjl))⟩
   refine .lst sz (l.map enc) _ l.length cap b o (by rw [List.length_map]) hc hnil (fun _ => ⟨rfl, hF b hb⟩) hlen (fun i j hi hj => ?_) (fun i j rw_ a v hi hj hv => ?_)
   ·obtain ⟨a, v, _, h2, h3⟩ := row i j hi hj
    exact ⟨v, h3, h1 a v (List.mem_of_getElem? h2)⟩
   ·rw [List.getElem?_map] at hi
    cases hl : l[i]? with
    | none => rw [hl] at hi; cases hi
    | some x =>
     rw [hl] at hi
     simp only [Option.map_some, Option.some.injEq] at hi
     subst hi
     have hil := (List.getElem?_eq_some_iff.1 hl).1
     have hjs : j < sz := by have := (List.getElem?_eq_some_iff.1 hj).1; rw [he, List.length_map, hk] at this; exact this
     obtain ⟨a', v', h4, h5, h6⟩ := row i j hil hjs
     rw [hl] at h4
     injection h4 with h4
     subst h4
     rw [he, List.getElem?_map, h5] at hj
     simp only [Option.map_some, Option.some.injEq] at hj
     rw [h6] at hv
     injection hv with hv
     subst hv; subst hj
     exact .v _
end Go.Proofs.YtgfgndaoocfpdaaGreatDoor.Ax
namespace Go.Proofs.YtgfgndaoocfpdaaGreatDoor.Vc
open Go Go.RowKit Go.ChangeShapes Go.WideShapes Go.ChangeAt
section
variable {H : Type} {enc : TypeId × Value → H} {P : Program} {w : World} {t : TypeId} {cs : List Value}
def RdD (enc : TypeId × Value → H) (P : Program) (w : World) (t : TypeId) (cs : List Value) (d : DataW H) : Prop := ∃ held fuel p, DataW.trod enc P w 0 (fun _ => true) held fuel t cs = some (d, p)
def Rd (enc : TypeId × Value → H) (P : Program) (w : World) (t : TypeId) (cs : List Value) : Prop := ∃ d, RdD enc P w t cs d
theorem rdd_int {k : IntKind} {d : DataW H} (ht : P.underlying t = some (.int k)) (h : RdD enc P w t cs d) : ∃ n, cs = [.int k n] ∧ d = .lit (.int k n) ∧ (Lit.int k n).wf = true := by
 obtain ⟨held, fuel, p, hx⟩ := h
 obtain ⟨n, h1, h2, h3⟩ := DataW.trod_int ht hx
 injection h2 with h2
 exact ⟨n, h1, h2, h3⟩
theorem rd_int {k : IntKind} (ht : P.underlying t = some (.int k)) (h : Rd enc P w t cs) : ∃ n, cs = [.int k n] ∧ (Lit.int k n).wf = true := by
 obtain ⟨d, h⟩ := h
 obtain ⟨n, h1, _, h2⟩ := rdd_int ht h
 exact ⟨n, h1, h2⟩
theorem flat_get {α : Type} {sz : Nat} : ∀ (css : List (List α)) (k : Nat) (v : α), (∀ c ∈ css, c.length = sz) → css.flatten[k]? = some v →
  ∃ i j c, j < sz ∧ k = i * sz + j ∧ css[i]? = some c ∧ c[j]? = some v := by
 intro css
 induction css with
 | nil => intro k v _ h; simp at h
 | cons c r ih =>
  intro k v hl h
  have hc : c.length = sz := hl c (by simp)
  rw [List.flatten_cons, List.getElem?_append] at h
  split at h
  ·rename_i hk
   exact ⟨0, k, c, by omega, by omega, by simp, h⟩
  ·rename_i hk
   obtain ⟨i, j, c', hj, hk', hi, hv⟩ := ih _ v (fun c hc => hl c (by simp [hc])) h
   refine ⟨i + 1, j, c', hj, ?_, by simpa using hi, hv⟩
   rw [Nat.add_mul]
   omega
theorem cells_get {a : Addr} {n : Nat} {cs : List Value} (h : w.cells? 0 a n = some cs) : cs.length = n ∧ ∀ j v, cs[j]? = some v → w.cell? (a.add j) = some v := by
 unfold World.cells? at h
 rw [if_pos (Nat.zero_le _)] at h
 refine ⟨by rw [mapM_some_length h]; simp, fun j v hj => ?_⟩
 have hlt : j < n := by
  have := (List.getElem?_eq_some_iff.1 hj).1
  rw [mapM_some_length h] at this
  simpa using this
 have := mapM_some_get h j j (by simp [hlt])
 rw [this, hj]
theorem rdd_slice {e : TypeId} {d : DataW H} (ht : P.underlying t = some (.slice e)) (h : RdD enc P w t cs d) :
  ∃ (oa : Option Addr) (len cap : Nat) (css : List (List Value)) (ds : List (DataW H)), cs = [.slice oa len cap] ∧ len ≤ cap ∧ cap ≤ maxLen ∧ (oa = none → cap = 0) ∧ css.length = len ∧ Row w oa css.flatten ∧
   (∀ c ∈ css, c.length = P.cellsOf e ∧ Rd enc P w e c) ∧ ds.length = len ∧ ((d = .nil ∧ len = 0) ∨ ∃ rest, d = .slice ds rest) ∧ ∀ (i : Nat) (c : List Value) (d' : DataW H), css[i]? = some c → ds[i]? = some d' → RdD enc P w e c d' := by
 obtain ⟨held, fuel, pp, hx⟩ := h
 rcases DataW.trod_slice ht hx with ⟨h1, hd⟩ | ⟨a, len, cap, elems, rest, n, _, h1, hd, _, hlc, hcm, hlen, hel, _, _⟩
 ·injection hd with hd
  exact ⟨none, 0, 0, [], [], h1, Nat.le_refl _, Nat.zero_le _, fun _ => rfl, rfl, Row.nil _ _, by simp, rfl, .inl ⟨hd, rfl⟩, fun i c d' h => by simp at h⟩
 ·have each : ∀ i, i < len → ∃ ci, w.cells? 0 (a.add (i * P.cellsOf e)) (P.cellsOf e) = some ci ∧ Rd enc P w e ci ∧ ∀ d', (elems.map (·.1))[i]? = some d' → RdD enc P w e ci d' := by
   intro i hi
   have h1 := hel i hi
   rw [List.getElem?_eq_getElem (by omega)] at h1
   obtain ⟨ci, hc, ht⟩ := Option.bind_eq_some_iff.1 h1
   refine ⟨ci, hc, ⟨_, held, n, _, ht⟩, fun d' hd' => ?_⟩
   rw [List.getElem?_map, List.getElem?_eq_getElem (by omega)] at hd'
   simp only [Option.map_some, Option.some.injEq] at hd'
   subst hd'
   exact ⟨held, n, _, ht⟩
  obtain ⟨css, hcl, hcss⟩ : ∃ css : List (List Value), css.length = len ∧ ∀ (i : Nat) (c : List Value), css[i]? = some c → w.cells? 0 (a.add (i * P.cellsOf e)) (P.cellsOf e) = some c ∧ Rd enc P w e c ∧ ∀ d', (elems.map (·.1))[i]? = some d' → RdD enc P w e c d' := by
   refine ⟨(List.range len).map fun i => (w.cells? 0 (a.add (i * P.cellsOf e)) (P.cellsOf e)).getD [], by simp, fun i c hc => ?_⟩
   have hlt : i < len := by simpa using (List.getElem?_eq_some_iff.1 hc).1
   obtain ⟨ci, h1, h2⟩ := each i hlt
   simp only [List.getElem?_map, List.getElem?_range hlt, Option.map_some, h1, Option.getD_some, Option.some.injEq] at hc
   subst hc
   exact ⟨h1, h2⟩
  have hall : ∀ c ∈ css, c.length = P.cellsOf e ∧ Rd enc P w e c := by
   intro c hc
   obtain ⟨i, hi⟩ := List.mem_iff_getElem?.1 hc
   exact ⟨(cells_get (hcss i c hi).1).1, (hcss i c hi).2.1⟩
  refine ⟨some a, len, cap, css, elems.map (·.1), h1, hlc, hcm, (fun e => by cases e), hcl, ?_, hall, by simp [hlen], .inr ⟨rest.map (·.1), by injection hd⟩, fun i c d' h1 h2 => (hcss i c h1).2.2 d' h2⟩
  by_cases hne : css.flatten = []
  ·exact .inl hne
  ·right
   have cell : ∀ k v, css.flatten[k]? = some v → ∃ i j, j < P.cellsOf e ∧ k = i * P.cellsOf e + j ∧ w.cell? ((a.add (i * P.cellsOf e)).add j) = some v := by
    intro k v hk
    obtain ⟨i, j, c, hj, hkk, hi, hv⟩ := flat_get css k v (fun c hc => (hall c hc).1) hk
    exact ⟨i, j, hj, hkk, (cells_get (hcss i c hi).1).2 j v hv⟩
   have hspot : a.spot = none := by
    obtain ⟨v, hv⟩ : ∃ v, css.flatten[0]? = some v := by
     cases hf : css.flatten with
     | nil => exact absurd hf hne
     | cons v r => exact ⟨v, by simp⟩
    obtain ⟨i, j, hj, hk, hc⟩ := cell 0 v hv
    have hj0 : j = 0 := by omega
    have hi0 : i * P.cellsOf e = 0 := by omega
    rw [hi0, hj0] at hc
    have : (a.add 0).add 0 = a := by simp [Addr.add]
    rw [this] at hc
    cases hs : a.spot with
    | none => rfl
    | some s =>
     unfold World.cell? at hc
     split at hc <;> simp [hs] at hc
   obtain ⟨b, o, s⟩ := a
   simp only at hspot
   subst hspot
   refine ⟨b, o, rfl, ?_, fun k v hk => ?_⟩
   ·obtain ⟨v, hv⟩ : ∃ v, css.flatten[0]? = some v := by
     cases hf : css.flatten with
     | nil => exact absurd hf hne
     | cons v r => exact ⟨v, by simp⟩
    obtain ⟨i, j, _, _, hc⟩ := cell 0 v hv
    rw [add0, add0] at hc
    exact World.block_lt_of_cell? w _ hc
   ·obtain ⟨i, j, _, hkk, hc⟩ := cell k v hk
    rw [add0, add0] at hc
    rw [hkk, ← Nat.add_assoc]
    exact hc
theorem rd_slice {e : TypeId} (ht : P.underlying t = some (.slice e)) (h : Rd enc P w t cs) :
  ∃ (oa : Option Addr) (len cap : Nat) (css : List (List Value)), cs = [.slice oa len cap] ∧ len ≤ cap ∧ cap ≤ maxLen ∧ (oa = none → cap = 0) ∧ css.length = len ∧ Row w oa css.flatten ∧
   ∀ c ∈ css, c.length = P.cellsOf e ∧ Rd enc P w e c := by
 obtain ⟨d, h⟩ := h
 obtain ⟨oa, len, cap, css, _, a, b, c, d, e, f, g, _⟩ := rdd_slice ht h
 exact ⟨oa, len, cap, css, a, b, c, d, e, f, g⟩
theorem rd_top {v : Value} {d : DataW H} {p : List MemPlace} (h : DataW.Trod enc P w 0 (fun _ => true) true t v d p) : Rd enc P w t v.cells.toList := ⟨_, true, h.choose, _, h.choose_spec⟩
theorem trodAll_five {base : Nat} {spare : Nat → Bool} {held : Bool} {t0 t1 t2 t3 t4 : TypeId} {args : Array Value} {ds : List (DataW H)} {ps : List MemPlace} (h : DataW.TrodAll enc P w base spare held [t0, t1, t2, t3, t4] args.toList ds ps) :
  ∃ v0 v1 v2 v3 v4 d0 d1 d2 d3 d4 p0 p1 p2 p3 p4, args = #[v0, v1, v2, v3, v4] ∧ ds = [d0, d1, d2, d3, d4] ∧ ps = p0 ++ p1 ++ p2 ++ p3 ++ p4 ∧ DataW.Trod enc P w base spare held t0 v0 d0 p0 ∧ DataW.Trod enc P w base spare held t1 v1 d1 p1 ∧ DataW.Trod enc P w base spare held t2 v2 d2 p2 ∧ DataW.Trod enc P w base spare held t3 v3 d3 p3 ∧ DataW.Trod enc P w base spare held t4 v4 d4 p4 := by
 obtain ⟨v0, vs0, d0, ds0, p0, q0, hargs, rfl, rfl, h0, r0⟩ := trodAll_cons h
 obtain ⟨v1, vs1, d1, ds1, p1, q1, rfl, rfl, rfl, h1, r1⟩ := trodAll_cons r0
 obtain ⟨v2, vs2, d2, ds2, p2, q2, rfl, rfl, rfl, h2, r2⟩ := trodAll_cons r1
 obtain ⟨v3, vs3, d3, ds3, p3, q3, rfl, rfl, rfl, h3, r3⟩ := trodAll_cons r2
 obtain ⟨v4, vs4, d4, ds4, p4, q4, rfl, rfl, rfl, h4, r4⟩ := trodAll_cons r3
 obtain ⟨rfl, rfl, rfl⟩ := trodAll_nil r4
 exact ⟨v0, v1, v2, v3, v4, d0, d1, d2, d3, d4, p0, p1, p2, p3, p4, by cases args; simp_all, rfl, by simp, h0, h1, h2, h3, h4⟩
theorem trodAll_six {base : Nat} {spare : Nat → Bool} {held : Bool} {t0 t1 t2 t3 t4 t5 : TypeId} {args : Array Value} {ds : List (DataW H)} {ps : List MemPlace} (h : DataW.TrodAll enc P w base spare held [t0, t1, t2, t3, t4, t5] args.toList ds ps) :
  ∃ v0 v1 v2 v3 v4 v5 d0 d1 d2 d3 d4 d5 p0 p1 p2 p3 p4 p5, args = #[v0, v1, v2, v3, v4, v5] ∧ ds = [d0, d1, d2, d3, d4, d5] ∧ ps = p0 ++ p1 ++ p2 ++ p3 ++ p4 ++ p5 ∧ DataW.Trod enc P w base spare held t0 v0 d0 p0 ∧ DataW.Trod enc P w base spare held t1 v1 d1 p1 ∧ DataW.Trod enc P w base spare held t2 v2 d2 p2 ∧ DataW.Trod enc P w base spare held t3 v3 d3 p3 ∧ DataW.Trod enc P w base spare held t4 v4 d4 p4 ∧ DataW.Trod enc P w base spare held t5 v5 d5 p5 := by
 obtain ⟨v0, vs0, d0, ds0, p0, q0, hargs, rfl, rfl, h0, r0⟩ := trodAll_cons h
 obtain ⟨v1, vs1, d1, ds1, p1, q1, rfl, rfl, rfl, h1, r1⟩ := trodAll_cons r0
 obtain ⟨v2, vs2, d2, ds2, p2, q2, rfl, rfl, rfl, h2, r2⟩ := trodAll_cons r1
 obtain ⟨v3, vs3, d3, ds3, p3, q3, rfl, rfl, rfl, h3, r3⟩ := trodAll_cons r2
 obtain ⟨v4, vs4, d4, ds4, p4, q4, rfl, rfl, rfl, h4, r4⟩ := trodAll_cons r3
 obtain ⟨v5, vs5, d5, ds5, p5, q5, rfl, rfl, rfl, h5, r5⟩ := trodAll_cons r4
 obtain ⟨rfl, rfl, rfl⟩ := trodAll_nil r5
 exact ⟨v0, v1, v2, v3, v4, v5, d0, d1, d2, d3, d4, d5, p0, p1, p2, p3, p4, p5, by cases args; simp_all, rfl, by simp, h0, h1, h2, h3, h4, h5⟩
theorem trodAll_seven {base : Nat} {spare : Nat → Bool} {held : Bool} {t0 t1 t2 t3 t4 t5 t6 : TypeId} {args : Array Value} {ds : List (DataW H)} {ps : List MemPlace} (h : DataW.TrodAll enc P w base spare held [t0, t1, t2, t3, t4, t5, t6] args.toList ds ps) :
  ∃ v0 v1 v2 v3 v4 v5 v6 d0 d1 d2 d3 d4 d5 d6 p0 p1 p2 p3 p4 p5 p6, args = #[v0, v1, v2, v3, v4, v5, v6] ∧ ds = [d0, d1, d2, d3, d4, d5, d6] ∧ ps = p0 ++ p1 ++ p2 ++ p3 ++ p4 ++ p5 ++ p6 ∧ DataW.Trod enc P w base spare held t0 v0 d0 p0 ∧ DataW.Trod enc P w base spare held t1 v1 d1 p1 ∧ DataW.Trod enc P w base spare held t2 v2 d2 p2 ∧ DataW.Trod enc P w base spare held t3 v3 d3 p3 ∧ DataW.Trod enc P w base spare held t4 v4 d4 p4 ∧ DataW.Trod enc P w base spare held t5 v5 d5 p5 ∧ DataW.Trod enc P w base spare held t6 v6 d6 p6 := by
 obtain ⟨v0, vs0, d0, ds0, p0, q0, hargs, rfl, rfl, h0, r0⟩ := trodAll_cons h
 obtain ⟨v1, vs1, d1, ds1, p1, q1, rfl, rfl, rfl, h1, r1⟩ := trodAll_cons r0
 obtain ⟨v2, vs2, d2, ds2, p2, q2, rfl, rfl, rfl, h2, r2⟩ := trodAll_cons r1
 obtain ⟨v3, vs3, d3, ds3, p3, q3, rfl, rfl, rfl, h3, r3⟩ := trodAll_cons r2
 obtain ⟨v4, vs4, d4, ds4, p4, q4, rfl, rfl, rfl, h4, r4⟩ := trodAll_cons r3
 obtain ⟨v5, vs5, d5, ds5, p5, q5, rfl, rfl, rfl, h5, r5⟩ := trodAll_cons r4
 obtain ⟨v6, vs6, d6, ds6, p6, q6, rfl, rfl, rfl, h6, r6⟩ := trodAll_cons r5
 obtain ⟨rfl, rfl, rfl⟩ := trodAll_nil r6
 exact ⟨v0, v1, v2, v3, v4, v5, v6, d0, d1, d2, d3, d4, d5, d6, p0, p1, p2, p3, p4, p5, p6, by cases args; simp_all, rfl, by simp, h0, h1, h2, h3, h4, h5, h6⟩
theorem trodAll_eight {base : Nat} {spare : Nat → Bool} {held : Bool} {t0 t1 t2 t3 t4 t5 t6 t7 : TypeId} {args : Array Value} {ds : List (DataW H)} {ps : List MemPlace} (h : DataW.TrodAll enc P w base spare held [t0, t1, t2, t3, t4, t5, t6, t7] args.toList ds ps) :
  ∃ v0 v1 v2 v3 v4 v5 v6 v7 d0 d1 d2 d3 d4 d5 d6 d7 p0 p1 p2 p3 p4 p5 p6 p7, args = #[v0, v1, v2, v3, v4, v5, v6, v7] ∧ ds = [d0, d1, d2, d3, d4, d5, d6, d7] ∧ ps = p0 ++ p1 ++ p2 ++ p3 ++ p4 ++ p5 ++ p6 ++ p7 ∧ DataW.Trod enc P w base spare held t0 v0 d0 p0 ∧ DataW.Trod enc P w base spare held t1 v1 d1 p1 ∧ DataW.Trod enc P w base spare held t2 v2 d2 p2 ∧ DataW.Trod enc P w base spare held t3 v3 d3 p3 ∧ DataW.Trod enc P w base spare held t4 v4 d4 p4 ∧ DataW.Trod enc P w base spare held t5 v5 d5 p5 ∧ DataW.Trod enc P w base spare held t6 v6 d6 p6 ∧ DataW.Trod enc P w base spare held t7 v7 d7 p7 := by
 obtain ⟨v0, vs0, d0, ds0, p0, q0, hargs, rfl, rfl, h0, r0⟩ := trodAll_cons h
 obtain ⟨v1, vs1, d1, ds1, p1, q1, rfl, rfl, rfl, h1, r1⟩ := trodAll_cons r0
 obtain ⟨v2, vs2, d2, ds2, p2, q2, rfl, rfl, rfl, h2, r2⟩ := trodAll_cons r1
 obtain ⟨v3, vs3, d3, ds3, p3, q3, rfl, rfl, rfl, h3, r3⟩ := trodAll_cons r2
 obtain ⟨v4, vs4, d4, ds4, p4, q4, rfl, rfl, rfl, h4, r4⟩ := trodAll_cons r3
 obtain ⟨v5, vs5, d5, ds5, p5, q5, rfl, rfl, rfl, h5, r5⟩ := trodAll_cons r4
 obtain ⟨v6, vs6, d6, ds6, p6, q6, rfl, rfl, rfl, h6, r6⟩ := trodAll_cons r5
 obtain ⟨v7, vs7, d7, ds7, p7, q7, rfl, rfl, rfl, h7, r7⟩ := trodAll_cons r6
 obtain ⟨rfl, rfl, rfl⟩ := trodAll_nil r7
 exact ⟨v0, v1, v2, v3, v4, v5, v6, v7, d0, d1, d2, d3, d4, d5, d6, d7, p0, p1, p2, p3, p4, p5, p6, p7, by cases args; simp_all, rfl, by simp, h0, h1, h2, h3, h4, h5, h6, h7⟩
theorem rd_bytes {e : TypeId} (ht : P.underlying t = some (.slice e)) (he : P.underlying e = some (.int .u8)) (h : Rd enc P w t cs) :
  ∃ (oa : Option Addr) (l : List UInt8) (cap : Nat), cs = [.slice oa l.length cap] ∧ l.length ≤ cap ∧ (oa = none → cap = 0) ∧ Row w oa (bvals l) := by
 obtain ⟨oa, len, cap, css, h1, hlc, _, hn, hcl, hr, hall⟩ := rd_slice ht h
 have hb : ∃ l : List UInt8, css = (bvals l).map fun v => [v] := by
  clear hr hcl h1
  induction css with
  | nil => exact ⟨[], rfl⟩
  | cons c r ih =>
   obtain ⟨l, hl⟩ := ih (fun c hc => hall c (by simp [hc]))
   obtain ⟨n, hc, hw⟩ := rd_int he (hall c (by simp)).2
   have hb : 0 ≤ n ∧ n ≤ 255 := by simpa [Lit.wf, IntKind.min, IntKind.max, IntKind.signed, IntKind.bits] using hw
   refine ⟨UInt8.ofNat n.toNat :: l, ?_⟩
   rw [hl, hc]
   simp [bvals]
   omega
 obtain ⟨l, rfl⟩ := hb
 have hl : len = l.length := by rw [← hcl]; simp [bvals]
 subst hl
 refine ⟨oa, l, cap, h1, hlc, hn, ?_⟩
 have hf : ((bvals l).map fun v => [v]).flatten = bvals l := by
  induction bvals l with
  | nil => rfl
  | cons v r ih => simp only [List.map_cons, List.flatten_cons, ih]; rfl
 rw [hf] at hr
 exact hr
theorem val_slice {r : Reach} {b0 : Nat} {e : TypeId} {v : Value} {oa : Option Addr} {n c : Nat} (ht : P.underlying t = some (.slice e)) (hval : Value.okWide P w r b0 t v) (h : v.cells.toList = [.slice oa n c]) : v = .slice oa n c := by
 obtain ⟨a, len, cap, rfl⟩ := okWide_slice ht hval
 simpa [Value.cells] using h
theorem trodAll_stays {W W' : World} (hl : laidOutB P = true) (hb : Below W.heap.size W W') : ∀ (ts : List TypeId) (vs : List Value) (ds : List (DataW H)) (ps : List MemPlace),
  (ts.all fun t => P.readableRec t && Nat.blt t P.types.size) = true → (∀ x ∈ ps, x.block < W.heap.size) → DataW.TrodAll enc P W 0 (fun _ => true) true ts vs ds ps →
  DataW.TrodAll enc P W' 0 (fun b => decide (b < W.heap.size)) true ts vs ds ps := by
 intro ts
 induction ts with
 | nil => intro vs ds ps _ _ h; cases vs <;> cases ds <;> simp_all [DataW.TrodAll]
 | cons t ts ih =>
  intro vs ds ps hrd hlt h
  obtain ⟨v, vs', d, ds', p, q, rfl, rfl, rfl, h1, h2⟩ := trodAll_cons h
  simp only [List.all_cons, Bool.and_eq_true] at hrd
  refine ⟨p, q, Below.trod hl hrd.1.1 (Nat.le_of_ble_eq_true hrd.1.2) h1 hb (fun x hx => hlt x (by simp [hx])), ih _ _ _ hrd.2 (fun x hx => hlt x (by simp [hx])) h2, rfl⟩
end
theorem law_post {H : Type} {enc : TypeId × Value → H} {P : Program} {fn : Func} {s : ChangeSpec} {tb : TypeId} (hl : laidOutB P = true)
  (hrd : (fn.params.toList.all fun t => P.readableRec t && Nat.blt t P.types.size) = true) (hres : fn.resultTypes = #[tb]) (hb : P.underlying tb = some .bool) (hv : s.vars = [])
  (hfn : ∀ ds : List (DataW H), ds.length = fn.params.size → s.fn H ds = { results := [.lit (.bool true)], args := ds })
  {W W' : World} {args : Array Value} {ds gs : List (DataW H)} {before : List MemPlace} (hW : DataW.Whole enc P fn.params.toList s.vars false W args.toList ds gs before) (hB : Below W.heap.size W W') :
  s.post enc P fn false true false false W args (.bool true) W' := by
 have hlt : ∀ x ∈ before, x.block < W.heap.size := fun x hx => hW.lt x hx
 have hW' := hW
 obtain ⟨p, q, hA, hV, rfl, _, _⟩ := hW'
 rw [hv] at hV
 obtain ⟨rfl, rfl⟩ := trodVars_none hV
 have hlen : ds.length = fn.params.size := by
  have : ∀ (ts : List TypeId) (vs : List Value) (ds : List (DataW H)) (ps : List MemPlace), DataW.TrodAll enc P W 0 (fun _ => true) true ts vs ds ps → ds.length = ts.length := by
   intro ts
   induction ts with
   | nil => intro vs ds ps h; cases vs <;> cases ds <;> simp_all [DataW.TrodAll]
   | cons t ts ih =>
    intro vs ds ps h
    obtain ⟨v, vs', d, ds', p, q, rfl, rfl, rfl, _, h2⟩ := trodAll_cons h
    simp [ih _ _ _ h2]
  rw [this _ _ _ _ hA]; simp
 have hspec := hfn ds hlen
 refine ⟨ds, [], p ++ [], [], p, [], hW, ?_, ?_, ?_, World.keptBut_mono (fun x hx => ⟨hx, .inr (.inl (by simpa using hx))⟩) (hB.frame (· ∈ p ++ [])), (fun h => by cases h)⟩
 ·rw [List.append_nil, hspec, hres]
  exact ⟨[], [], ⟨1, by unfold DataW.trod; simp [hb, Value.cells]⟩, rfl, rfl⟩
 ·rw [List.append_nil, hspec]
  exact trodAll_stays hl hB _ _ _ _ hrd (fun x hx => hlt x (by simp [hx])) hA
 ·rw [List.append_nil, hspec, hv]
  rfl
section
open Go.Proofs.YtgfgndaoocfpdaaGreatDoor.Ax
section
variable {H : Type} {enc : TypeId × Value → H} {w : World}
theorem each_ok {P : Program} : ∀ {ts : List TypeId} {ds : List (DataW H)} {B : Nat}, (∀ x ∈ DataW.weightsEach P ts ds, x ≤ B) → ∀ (j : Nat) t d, ts[j]? = some t → ds[j]? = some d → ∀ x ∈ d.weights P t, x ≤ B := by
 intro ts
 induction ts with
 | nil => intro ds B _ j t d h; simp at h
 | cons t ts ih =>
  intro ds B h j u d h1 h2
  cases ds with
  | nil => simp at h2
  | cons e ds =>
   simp only [DataW.weightsEach, List.mem_append] at h
   cases j with
   | zero =>
    simp only [List.getElem?_cons_zero, Option.some.injEq] at h1 h2
    subst h1; subst h2
    exact fun x hx => h x (.inl hx)
   | succ j => exact ih (fun x hx => h x (.inr hx)) j u d (by simpa using h1) (by simpa using h2)
theorem strW_ok {P : Program} {t : TypeId} {s : ByteArray} (h : ∀ x ∈ (DataW.lit (.string s.data.toList) : DataW H).weights P t, x ≤ reachBytes) : s.size ≤ 140737488355328 := by
 have h1 := h s.data.toList.length (by simp [DataW.weights])
 have h2 : s.data.toList.length = s.size := by simp
 have h3 : reachBytes = 140737488351232 := rfl
 omega
theorem rows_of {P : Program} {α : Type} {c : α → List Value} {ok : α → Prop} {e : TypeId} (one : ∀ cs (d : DataW H), RdD enc P w e cs d → (∀ x ∈ d.weights P e, x ≤ reachBytes) → ∃ k : α, cs = c k ∧ ok k) :
  ∀ (css : List (List Value)) (ds : List (DataW H)), ds.length = css.length → (∀ (i : Nat) c d', css[i]? = some c → ds[i]? = some d' → RdD enc P w e c d') → (∀ x ∈ DataW.weightsAll P e ds, x ≤ reachBytes) → ∃ l : List α, l.length = css.length ∧ css.flatten = recs c l ∧ ∀ k ∈ l, ok k := by
 intro css
 induction css with
 | nil => intro ds _ _ _; exact ⟨[], rfl, rfl, fun k h => by cases h⟩
 | cons a css ih =>
  intro ds hl h hB
  cases ds with
  | nil => simp at hl
  | cons d ds =>
   simp only [DataW.weightsAll, List.mem_append] at hB
   obtain ⟨k, e1, hk⟩ := one a d (h 0 a d rfl rfl) fun x hx => hB x (.inl hx)
   obtain ⟨l, h1, h2, h3⟩ := ih ds (by simpa using hl) (fun i c d' hc hd => h (i + 1) c d' (by simpa using hc) (by simpa using hd)) fun x hx => hB x (.inr hx)
   refine ⟨k :: l, by simp [h1], by rw [List.flatten_cons, h2, e1]; rfl, fun y hy => ?_⟩
   rcases List.mem_cons.1 hy with rfl | hy
   ·exact hk
   ·exact h3 y hy
theorem slice_w {P : Program} {t e : TypeId} {d : DataW H} {ds : List (DataW H)} {len : Nat} (hu : P.underlying t = some (.slice e)) (hdl : ds.length = len) (hd : (d = .nil ∧ len = 0) ∨ ∃ rest, d = .slice ds rest) (hB : ∀ x ∈ d.weights P t, x ≤ reachBytes) :
  ∀ x ∈ DataW.weightsAll P e ds, x ≤ reachBytes := by
 rcases hd with ⟨_, h0⟩ | ⟨rest, rfl⟩
 ·have : ds = [] := List.eq_nil_of_length_eq_zero (by omega)
  subst this
  intro x hx; simp [DataW.weightsAll] at hx
 ·intro x hx
  refine hB x ?_
  simp only [DataW.weights, hu, List.mem_cons, List.mem_append]
  exact .inr (.inl hx)
end
end
section
open Go.Proofs.YtgfgndaoocfpdaaGreatDoor.Ax
inductive Sh where
 | n (k : IntKind)
 | b
 | s
 | l (by_ : Nat) (es : List Sh)
inductive OkV : Sh → FV → Prop
 | n {k : IntKind} {x : Int} (h : (Lit.int k x).wf = true) : OkV (.n k) (.v (.int k x))
 | b (x : Bool) : OkV .b (.v (.bool x))
 | s (x : ByteArray) (h : x.size ≤ 140737488351232) : OkV .s (.v (.string x))
 | l {by_ : Nat} {es : List Sh} {rows : List (List FV)} (hn : rows.length ≤ maxLen) (hb : rows.length * by_ ≤ 140737488351232) (h : ∀ row ∈ rows, row.length = es.length) (hr : ∀ row ∈ rows, ∀ (j : Nat) e a, es[j]? = some e → row[j]? = some a → OkV e a) : OkV (.l by_ es) (.lst es.length rows)
def OkR (es : List Sh) (row : List FV) : Prop := row.length = es.length ∧ ∀ (j : Nat) e a, es[j]? = some e → row[j]? = some a → OkV e a
theorem OkR.nil : OkR [] [] := ⟨rfl, fun j e a h => by simp at h⟩
theorem OkR.app {e1 e2 : List Sh} {r1 r2 : List FV} (h1 : OkR e1 r1) (h2 : OkR e2 r2) : OkR (e1 ++ e2) (r1 ++ r2) := by
 refine ⟨by simp [h1.1, h2.1], fun j e a he ha => ?_⟩
 rw [List.getElem?_append] at he ha
 rw [h1.1] at ha
 split at he
 ·rename_i h; rw [if_pos h] at ha; exact h1.2 j e a he ha
 ·rename_i h; rw [if_neg h] at ha; exact h2.2 _ e a he ha
theorem OkR.one {e : Sh} {a : FV} (h : OkV e a) : OkR [e] [a] := ⟨rfl, fun j e' a' he ha => by
 match j, he, ha with
 | 0, he, ha => simp at he ha; subst he; subst ha; exact h⟩
theorem OkR.nil_inv {row : List FV} (h : OkR [] row) : row = [] := List.eq_nil_of_length_eq_zero h.1
theorem OkR.cons_inv {e : Sh} {es : List Sh} {row : List FV} (h : OkR (e :: es) row) : ∃ a r, row = a :: r ∧ OkV e a ∧ OkR es r := by
 cases row with
 | nil => have := h.1; simp at this
 | cons a r => exact ⟨a, r, rfl, h.2 0 e a rfl rfl, by have := h.1; simpa using this, fun j e' a' he ha => h.2 (j + 1) e' a' (by simpa using he) (by simpa using ha)⟩
theorem OkV.l_inv {by_ : Nat} {es : List Sh} {a : FV} (h : OkV (.l by_ es) a) : ∃ rows : List (List FV), a = .lst es.length rows ∧ (rows.length ≤ maxLen ∧ rows.length * by_ ≤ 140737488351232) ∧ ∀ row ∈ rows, OkR es row := by
 cases h with
 | l hn hb h hr => exact ⟨_, rfl, ⟨hn, hb⟩, fun row hrow => ⟨h row hrow, hr row hrow⟩⟩
def shFs (f : TypeId → Option (List Sh)) (P : Program) : List Field → Nat → Option (List Sh)
 | [], _ => some []
 | x :: r, o => bif Nat.beq x.offset o then
   match f x.type with
   | some es => bif Nat.beq es.length (P.cellsOf x.type) then
     match shFs f P r (o + es.length) with
     | some rs => some (es ++ rs)
     | none => none
    else none
   | none => none
  else none
def shT (P : Program) : Nat → TypeId → Option (List Sh)
 | 0, _ => none
 | n + 1, t => match P.underlying t with
  | some (.int k) => some [.n k]
  | some .bool => some [.b]
  | some .string => some [.s]
  | some (.slice e) => match shT P n e with
   | some es => bif Nat.beq es.length (P.cellsOf e) && Nat.ble 1 es.length then some [.l (P.bytesOf e) es] else none
   | none => none
  | some (.struct fs) => match shFs (shT P n) P fs.toList 0 with
   | some es => bif Nat.beq es.length (P.cellsOf t) then some es else none
   | none => none
  | _ => none
section
variable {H : Type} {enc : TypeId × Value → H} {P : Program} {w : World}
def One (w : World) (es : List Sh) (cs : List Value) : Prop := ∃ row, OkR es row ∧ FRepL (Here w) w row cs ∧ ∀ v ∈ cs, v.oneCell' = true
theorem One.nil : One w [] [] := ⟨[], OkR.nil, ⟨rfl, fun j a v h => by simp at h⟩, fun v h => by cases h⟩
theorem One.app {e1 e2 : List Sh} {c1 c2 : List Value} (h1 : One w e1 c1) (h2 : One w e2 c2) : One w (e1 ++ e2) (c1 ++ c2) := by
 obtain ⟨r1, k1, f1, o1⟩ := h1
 obtain ⟨r2, k2, f2, o2⟩ := h2
 refine ⟨r1 ++ r2, k1.app k2, ⟨by simp [f1.1, f2.1], fun j a v ha hv => ?_⟩, fun v hv => (List.mem_append.1 hv).elim (o1 v) (o2 v)⟩
 rw [List.getElem?_append] at ha hv
 rw [f1.1] at hv
 split at ha
 ·rename_i h; rw [if_pos h] at hv; exact f1.2 j a v ha hv
 ·rename_i h; rw [if_neg h] at hv; exact f2.2 _ a v ha hv
theorem One.one {e : Sh} {a : FV} {v : Value} (h : OkV e a) (hf : FRep (Here w) w a v) (ho : v.oneCell' = true) : One w [e] [v] :=
 ⟨[a], .one h, ⟨rfl, fun j a' v' ha hv => by
  match j, ha, hv with
  | 0, ha, hv => simp at ha hv; subst ha; subst hv; exact hf⟩, fun u hu => by rw [List.mem_singleton.1 hu]; exact ho⟩
theorem flat_at {sz : Nat} : ∀ (css : List (List Value)) (i j : Nat) (c : List Value) (v : Value), (∀ c ∈ css, c.length = sz) → css[i]? = some c → c[j]? = some v → css.flatten[i * sz + j]? = some v := by
 intro css
 induction css with
 | nil => intro i j c v _ h; simp at h
 | cons a r ih =>
  intro i j c v hl hi hj
  have ha : a.length = sz := hl a (by simp)
  rw [List.flatten_cons, List.getElem?_append]
  cases i with
  | zero =>
   simp only [List.getElem?_cons_zero, Option.some.injEq] at hi
   subst hi
   have := (List.getElem?_eq_some_iff.1 hj).1
   rw [if_pos (by omega)]
   simpa using hj
  | succ i =>
   rw [if_neg (by rw [ha, Nat.add_mul]; omega), ha]
   have := ih i j c v (fun c hc => hl c (by simp [hc])) (by simpa using hi) hj
   rw [show (i + 1) * sz + j - sz = i * sz + j by rw [Nat.add_mul]; omega]
   exact this
theorem one_fields {f : TypeId → Option (List Sh)} {cs : List Value} : ∀ (fs : List Field) (o : Nat) (es : List Sh), shFs f P fs o = some es →
  (∀ x ∈ fs, ∀ e', f x.type = some e' → e'.length = P.cellsOf x.type → One w e' ((cs.drop x.offset).take (P.cellsOf x.type))) → One w es ((cs.drop o).take es.length) := by
 intro fs
 induction fs with
 | nil => intro o es h _; injection h with h; subst h; simpa using One.nil
 | cons x r ih =>
  intro o es h hx
  unfold shFs at h
  cases ho : Nat.beq x.offset o with
  | false => rw [ho] at h; cases h
  | true =>
   rw [ho] at h
   simp only [cond_true] at h
   have ho := Nat.eq_of_beq_eq_true ho
   cases hf : f x.type with
   | none => rw [hf] at h; cases h
   | some e1 =>
    rw [hf] at h
    simp only at h
    cases hl : Nat.beq e1.length (P.cellsOf x.type) with
    | false => rw [hl] at h; cases h
    | true =>
     rw [hl] at h
     simp only [cond_true] at h
     have hl := Nat.eq_of_beq_eq_true hl
     cases hr : shFs f P r (o + e1.length) with
     | none => rw [hr] at h; cases h
     | some e2 =>
      rw [hr] at h
      simp only [Option.some.injEq] at h
      subst h
      have h1 := hx x (by simp) e1 hf hl
      have h2 := ih (o + e1.length) e2 hr fun y hy => hx y (by simp [hy])
      rw [ho, ← hl] at h1
      have := h1.app h2
      rw [List.length_append, List.take_add, List.drop_drop]
      exact this
theorem one_rows {es : List Sh} {e : TypeId} (one : ∀ cs (d : DataW H), RdD enc P w e cs d → (∀ x ∈ d.weights P e, x ≤ reachBytes) → One w es cs) :
  ∀ (css : List (List Value)) (ds : List (DataW H)), ds.length = css.length → (∀ (i : Nat) c d', css[i]? = some c → ds[i]? = some d' → RdD enc P w e c d') → (∀ x ∈ DataW.weightsAll P e ds, x ≤ reachBytes) →
   ∃ rows : List (List FV), rows.length = css.length ∧ (∀ row ∈ rows, OkR es row) ∧ ∀ (i : Nat) c row, css[i]? = some c → rows[i]? = some row → FRepL (Here w) w row c ∧ ∀ v ∈ c, v.oneCell' = true := by
 intro css
 induction css with
 | nil => intro ds _ _ _; exact ⟨[], rfl, (fun k h => by cases h), fun i c row h => by simp at h⟩
 | cons a css ih =>
  intro ds hl h hB
  cases ds with
  | nil => simp at hl
  | cons d ds =>
   simp only [DataW.weightsAll, List.mem_append] at hB
   obtain ⟨row, k1, k2, k3⟩ := one a d (h 0 a d rfl rfl) fun x hx => hB x (.inl hx)
   obtain ⟨rows, h1, h2, h3⟩ := ih ds (by simpa using hl) (fun i c d' hc hd => h (i + 1) c d' (by simpa using hc) (by simpa using hd)) fun x hx => hB x (.inr hx)
   refine ⟨row :: rows, by simp [h1], fun y hy => ?_, fun i c r hc hr => ?_⟩
   ·rcases List.mem_cons.1 hy with rfl | hy
    ·exact k1
    ·exact h2 y hy
   ·cases i with
    | zero => simp at hc hr; subst hc; subst hr; exact ⟨k2, k3⟩
    | succ i => exact h3 i c r (by simpa using hc) (by simpa using hr)
theorem rdg : ∀ (n : Nat) (t : TypeId) (es : List Sh), shT P n t = some es → ∀ (cs : List Value) (d : DataW H), RdD enc P w t cs d → (∀ x ∈ d.weights P t, x ≤ reachBytes) → One w es cs := by
 intro n
 induction n with
 | zero => intro t es h; cases h
 | succ n ih =>
  intro t es h cs d hd hB
  unfold shT at h
  cases hu : P.underlying t with
  | none => rw [hu] at h; cases h
  | some u =>
   rw [hu] at h
   cases u with
   | int k =>
    simp only [Option.some.injEq] at h
    subst h
    obtain ⟨x, e, _, hw⟩ := rdd_int hu hd
    subst e
    exact .one (.n hw) (.v _) rfl
   | bool =>
    simp only [Option.some.injEq] at h
    subst h
    obtain ⟨held, fuel, p, hx⟩ := hd
    obtain ⟨b, e, _⟩ := DataW.trod_bool hu hx
    subst e
    exact .one (.b b) (.v _) rfl
   | string =>
    simp only [Option.some.injEq] at h
    subst h
    obtain ⟨held, fuel, p, hx⟩ := hd
    obtain ⟨s, e, hd, _⟩ := DataW.trod_string hu hx
    injection hd with hd
    subst hd
    subst e
    have h1 := hB s.data.toList.length (by simp [DataW.weights])
    have h2 : s.data.toList.length = s.size := by simp
    have h3 : reachBytes = 140737488351232 := rfl
    exact .one (.s s (by omega)) (.v _) rfl
   | slice e =>
    simp only at h
    cases hs : shT P n e with
    | none => rw [hs] at h; cases h
    | some ee =>
     rw [hs] at h
     simp only at h
     cases hc : Nat.beq ee.length (P.cellsOf e) && Nat.ble 1 ee.length with
     | false => rw [hc] at h; cases h
     | true =>
      rw [hc] at h
      simp only [cond_true, Option.some.injEq] at h
      subst h
      simp only [Bool.and_eq_true] at hc
      have hsz := Nat.eq_of_beq_eq_true hc.1
      have hpos := Nat.le_of_ble_eq_true hc.2
      obtain ⟨oa, len, cap, css, ds, h1, hlc, hcm, hn, hcl, hr, hall, hdl, hdd, hel⟩ := rdd_slice hu hd
      obtain ⟨rows, k1, k2, k3⟩ := one_rows (fun cs d => ih e ee hs cs d) css ds (by omega) hel (slice_w hu hdl hdd hB)
      subst h1
      have hsz' : ∀ c ∈ css, c.length = ee.length := fun c hc => by rw [(hall c hc).1, hsz]
      have cell : ∀ i j, i < len → j < ee.length → ∃ b o row a v, oa = some ⟨b, o, none⟩ ∧ b < w.heap.size ∧ rows[i]? = some row ∧ row[j]? = some a ∧ w.cell? ⟨b, o + (i * ee.length + j), none⟩ = some v ∧ FRep (Here w) w a v ∧ v.oneCell' = true := by
       intro i j hi hj
       have hic : i < css.length := by omega
       have hir : i < rows.length := by omega
       have hci := List.getElem?_eq_getElem hic
       have hri := List.getElem?_eq_getElem hir
       have hjc : j < css[i].length := by rw [hsz' _ (List.getElem_mem hic)]; exact hj
       have hjr : j < rows[i].length := by rw [(k2 _ (List.getElem_mem hir)).1]; exact hj
       have hfl := flat_at css i j css[i] css[i][j] hsz' hci (List.getElem?_eq_getElem hjc)
       rcases hr with h0 | ⟨b, o, rfl, hb, hcc⟩
       ·rw [h0] at hfl; simp at hfl
       ·obtain ⟨f1, f2⟩ := k3 i css[i] rows[i] hci hri
        exact ⟨b, o, rows[i], rows[i][j], css[i][j], rfl, hb, hri, List.getElem?_eq_getElem hjr, hcc _ _ hfl, f1.2 j _ _ (List.getElem?_eq_getElem hjr) (List.getElem?_eq_getElem hjc), f2 _ (List.getElem_mem hjc)⟩
      have hb : ∃ b o, (0 < len → oa = some ⟨b, o, none⟩ ∧ Here w b) := by
       rcases Nat.eq_zero_or_pos len with h0 | h0
       ·exact ⟨0, 0, fun h => by omega⟩
       ·obtain ⟨b, o, _, _, _, e, hb, _⟩ := cell 0 0 h0 hpos
        exact ⟨b, o, fun _ => ⟨e, hb⟩⟩
      obtain ⟨b, o, hbo⟩ := hb
      have hbb : rows.length * P.bytesOf e ≤ 140737488351232 := by
       rcases hdd with ⟨_, h0⟩ | ⟨rest, hdd⟩
       ·rw [show rows.length = 0 by omega, Nat.zero_mul]; exact Nat.zero_le _
       ·subst hdd
        have := hB ((ds.length + rest.length) * P.bytesOf e) (by simp only [DataW.weights, hu, List.mem_cons, true_or])
        rw [show rows.length = ds.length by omega]
        exact Nat.le_trans (Nat.mul_le_mul_right _ (Nat.le_add_right _ _)) this
      refine .one (a := .lst ee.length rows) (.l (by omega) hbb (fun row hrow => (k2 row hrow).1) fun row hrow => (k2 row hrow).2) ?_ rfl
      refine .lst ee.length rows oa len cap b o (by omega) hlc hn hbo (fun row hrow => (k2 row hrow).1) (fun i j hi hj => ?_) fun i j row a v hi hj hv => ?_
      ·obtain ⟨b', o', _, _, v, e, _, _, _, h4, _, h6⟩ := cell i j hi hj
       obtain ⟨rfl, rfl⟩ : b' = b ∧ o' = o := by
        have := (hbo (by omega)).1
        rw [e] at this; injection this with this; injection this with h1 h2; exact ⟨h1, h2⟩
       exact ⟨v, h4, h6⟩
      ·have hil := (List.getElem?_eq_some_iff.1 hi).1
       have hjl : j < ee.length := by rw [← (k2 row (List.mem_of_getElem? hi)).1]; exact (List.getElem?_eq_some_iff.1 hj).1
       obtain ⟨b', o', row', a', v', e, _, h2, h3, h4, h5, _⟩ := cell i j (by omega) hjl
       obtain ⟨rfl, rfl⟩ : b' = b ∧ o' = o := by
        have := (hbo (by omega)).1
        rw [e] at this; injection this with this; injection this with h1 h2; exact ⟨h1, h2⟩
       rw [hi] at h2; injection h2 with h2; subst h2
       rw [hj] at h3; injection h3 with h3; subst h3
       rw [hv] at h4; injection h4 with h4; subst h4
       exact h5
   | struct fs =>
    simp only at h
    cases hs : shFs (shT P n) P fs.toList 0 with
    | none => rw [hs] at h; cases h
    | some ee =>
     rw [hs] at h
     simp only at h
     cases hc : Nat.beq ee.length (P.cellsOf t) with
     | false => rw [hc] at h; cases h
     | true =>
      rw [hc] at h
      simp only [cond_true, Option.some.injEq] at h
      subst h
      have hsz := Nat.eq_of_beq_eq_true hc
      obtain ⟨held, fuel, p, hx⟩ := hd
      obtain ⟨xs, m, rfl, hdd, hcl, hxl, hel⟩ := DataW.trod_struct hu hx
      injection hdd with hdd
      subst hdd
      have := one_fields (w := w) (cs := cs) fs.toList 0 ee hs fun x hx e' he' hle => by
       obtain ⟨i, hi⟩ := List.mem_iff_getElem?.1 hx
       have hi' : fs[i]? = some x := by simpa using hi
       have hil : i < xs.length := by rw [hxl]; exact (Array.getElem?_eq_some_iff.1 hi').1
       have h1 := hel i x hi'
       rw [List.getElem?_eq_getElem hil] at h1
       refine ih x.type e' he' _ xs[i].1 ⟨held, m, xs[i].2, h1⟩ ?_
       have hE : ∀ y ∈ DataW.weightsEach P (fs.toList.map (·.type)) (xs.map (·.1)), y ≤ reachBytes := by
        intro y hy
        refine hB y ?_
        simp only [DataW.weights, hu]
        exact hy
       exact each_ok hE i x.type xs[i].1 (by rw [List.getElem?_map, hi]; rfl) (by rw [List.getElem?_map, List.getElem?_eq_getElem hil]; rfl)
      rw [List.drop_zero, List.take_of_length_le (by omega)] at this
      exact this
   | _ => cases h
theorem rdg_arg {t : TypeId} {es : List Sh} {fs : Array Field} {v : Value} {r : Reach} {b0 : Nat} {d : DataW H} {p : List MemPlace} (n : Nat) (ht : P.underlying t = some (.struct fs)) (hs : shT P n t = some es) (hval : Value.okWide P w r b0 t v)
  (h : DataW.Trod enc P w 0 (fun _ => true) true t v d p) (hB : ∀ x ∈ d.weights P t, x ≤ reachBytes) : ∃ row, OkR es row ∧ ARep 0 loc0 (Here w) w (.agg (row.map FV.up)) v := by
 unfold Value.okWide at hval
 rw [ht] at hval
 obtain ⟨cs, rfl, _, _⟩ := hval
 obtain ⟨row, h1, h2, h3⟩ := rdg n t es hs cs.toList d ⟨_, _, _, h.choose_spec⟩ hB
 refine ⟨row, h1, ?_⟩
 have := ARep.agg (n := 0) (σ := loc0) (F := Here w) (w := w) (row.map FV.up) cs.toList (by rw [List.length_map]; exact h2.1) fun j a v ha hv => by
  rw [List.getElem?_map] at ha
  cases hj : row[j]? with
  | none => rw [hj] at ha; cases ha
  | some a' =>
   rw [hj] at ha
   simp only [Option.map_some, Option.some.injEq] at ha
   subst ha
   exact (h2.2 j a' v hj hv).up
 simpa using this
end
end
end Go.Proofs.YtgfgndaoocfpdaaGreatDoor.Vc
namespace Go.Proofs.YtgfgndaoocfpdaaGreatDoor.Cl
open Go Go.RowKit Go.Proofs Go.Proofs.YtgfgndaoocfpdaaGreatDoor.Vc Go.Proofs.YtgfgndaoocfpdaaGreatDoor.Ax
section
variable {P : Program} {H : Type} {enc : TypeId × Value → H} {w : World}
theorem rd_bool {t : TypeId} {cs : List Value} (ht : P.underlying t = some .bool) (h : Rd enc P w t cs) : ∃ b : Bool, cs = [.bool b] := by
 obtain ⟨d, held, fuel, p, h⟩ := h
 obtain ⟨b, e, _⟩ := DataW.trod_bool ht h
 exact ⟨b, e⟩
theorem rd_lst {α : Type} {en : α → Value} {Q : α → Prop} {t e : TypeId} {cs : List Value} (ht : P.underlying t = some (.slice e)) (one : ∀ c, Rd enc P w e c → ∃ a : α, c = [en a] ∧ Q a) (h1 : ∀ a, (en a).oneCell' = true) (h : Rd enc P w t cs) :
  ∃ (oa : Option Addr) (l : List α) (cap : Nat), cs = [.slice oa l.length cap] ∧ (∀ a ∈ l, Q a) ∧ ARep 0 loc0 (Here w) w (.lst 1 (l.map (Ax.en1 en))) (.slice oa l.length cap) := by
 obtain ⟨oa, len, cap, css, hcs, hlc, hcm, hn, hcl, hr, hall⟩ := rd_slice ht h
 have : ∃ l : List α, l.length = css.length ∧ css.flatten = recs (fun a => [en a]) l ∧ ∀ a ∈ l, Q a := by
  clear hr hcl
  induction css with
  | nil => exact ⟨[], rfl, rfl, fun x h => by cases h⟩
  | cons c r ih =>
   obtain ⟨l, h2, h3, h4⟩ := ih fun c hc => hall c (by simp [hc])
   obtain ⟨x, e, hx⟩ := one c (hall c (by simp)).2
   refine ⟨x :: l, by simp [h2], by rw [List.flatten_cons, h3, e]; rfl, fun y hy => ?_⟩
   rcases List.mem_cons.1 hy with rfl | hy
   ·exact hx
   ·exact h4 y hy
 obtain ⟨l, h2, h3, h4⟩ := this
 rw [h3] at hr
 have e : len = l.length := by omega
 subst e
 exact ⟨oa, l, cap, hcs, h4, .lst (frep_flat (enc := Ax.en1 en) (c := fun a => [en a]) (fun _ => rfl) (fun _ => rfl) (fun a v hv => by rw [List.mem_singleton.1 hv]; exact h1 a) hlc hn hr (fun b hb => hb) (by decide))⟩
theorem i64_of {n : Int} (h : (Lit.int .i64 n).wf = true) : I64 n := by
 have : -9223372036854775808 ≤ n ∧ n ≤ 9223372036854775807 := by simpa [Lit.wf, IntKind.min, IntKind.max, IntKind.signed, IntKind.bits] using h
 exact this
theorem u8_of {n : Int} (h : (Lit.int .u8 n).wf = true) : ∃ k : Nat, n = k ∧ k < 256 := by
 have : 0 ≤ n ∧ n ≤ 255 := by simpa [Lit.wf, IntKind.min, IntKind.max, IntKind.signed, IntKind.bits] using h
 exact ⟨n.toNat, by omega, by omega⟩
theorem u16_of {n : Int} (h : (Lit.int .u16 n).wf = true) : ∃ k : Nat, n = k ∧ k < 65536 := by
 have : 0 ≤ n ∧ n ≤ 65535 := by simpa [Lit.wf, IntKind.min, IntKind.max, IntKind.signed, IntKind.bits] using h
 exact ⟨n.toNat, by omega, by omega⟩
theorem i16_of {n : Int} (h : (Lit.int .i16 n).wf = true) : -32768 ≤ n ∧ n ≤ 32767 := by
 simpa [Lit.wf, IntKind.min, IntKind.max, IntKind.signed, IntKind.bits] using h
theorem rd_ints {t e : TypeId} {cs : List Value} (ht : P.underlying t = some (.slice e)) (he : P.underlying e = some (.int .i64)) (h : Rd enc P w t cs) :
  ∃ (oa : Option Addr) (l : Li) (cap : Nat), cs = [.slice oa l.length cap] ∧ AllI l ∧ ARep 0 loc0 (Here w) w (li l) (.slice oa l.length cap) :=
 rd_lst (en := Value.int .i64) (Q := I64) ht (fun c hc => by obtain ⟨n, e, hw⟩ := rd_int he hc; exact ⟨n, e, i64_of hw⟩) (fun _ => rfl) h
theorem rd_i16s {t e : TypeId} {cs : List Value} (ht : P.underlying t = some (.slice e)) (he : P.underlying e = some (.int .i16)) (h : Rd enc P w t cs) :
  ∃ (oa : Option Addr) (l : Li) (cap : Nat), cs = [.slice oa l.length cap] ∧ (∀ x ∈ l, -32768 ≤ x ∧ x ≤ 32767) ∧ ARep 0 loc0 (Here w) w (.lst 1 (l.map (Ax.en1 (Value.int .i16)))) (.slice oa l.length cap) :=
 rd_lst (en := Value.int .i16) (Q := fun x => -32768 ≤ x ∧ x ≤ 32767) ht (fun c hc => by obtain ⟨n, e, hw⟩ := rd_int he hc; exact ⟨n, e, i16_of hw⟩) (fun _ => rfl) h
theorem rd_bools {t e : TypeId} {cs : List Value} (ht : P.underlying t = some (.slice e)) (he : P.underlying e = some .bool) (h : Rd enc P w t cs) :
  ∃ (oa : Option Addr) (l : List Bool) (cap : Nat), cs = [.slice oa l.length cap] ∧ True ∧ ARep 0 loc0 (Here w) w (.lst 1 (l.map enBo)) (.slice oa l.length cap) := by
 obtain ⟨oa, l, cap, h1, _, h3⟩ := rd_lst (en := Value.bool) (Q := fun _ => True) ht (fun c hc => by obtain ⟨n, e⟩ := rd_bool he hc; exact ⟨n, e, trivial⟩) (fun _ => rfl) h
 exact ⟨oa, l, cap, h1, trivial, h3⟩
theorem rd_bys {t e : TypeId} {cs : List Value} (ht : P.underlying t = some (.slice e)) (he : P.underlying e = some (.int .u8)) (h : Rd enc P w t cs) :
  ∃ (oa : Option Addr) (l : By) (cap : Nat), cs = [.slice oa l.length cap] ∧ True ∧ ARep 0 loc0 (Here w) w (bs l) (.slice oa l.length cap) := by
 obtain ⟨oa, l, cap, h1, _, h3⟩ := rd_lst (en := fun c : UInt8 => Value.int .u8 (c.toNat : Int)) (Q := fun _ => True) ht (fun c hc => by
  obtain ⟨n, e, hw⟩ := rd_int he hc
  obtain ⟨k, rfl, hk⟩ := u8_of hw
  exact ⟨UInt8.ofNat k, by rw [e, toNat_ofNat hk], trivial⟩) (fun _ => rfl) h
 exact ⟨oa, l, cap, h1, trivial, h3⟩
theorem gc_of (W : World) : GC.holds W := ⟨Nat.zero_le _, (fun _ _ h => by cases h), fun _ _ h => by cases h⟩
end
section
open Go.Proofs.YtgfgndaoocfpdaaGreatDoor.Ky Go.Proofs.YtgfgndaoocfpdaaGreatDoor.Id
theorem i8_of {n : Int} (h : (Lit.int .i8 n).wf = true) : -128 ≤ n ∧ n ≤ 127 := by
 simpa [Lit.wf, IntKind.min, IntKind.max, IntKind.signed, IntKind.bits] using h
theorem gAsc : Tryz.prog.globalNamed "strings.asciiSpace" = some 0 := by kernel_rfl
theorem tAsc : (Tryz.prog.globals[0]?).map (·.type) = some 140 := by kernel_rfl
theorem ascL : (Rows.laid_strings_asciiSpace : DataW Unit) = .agg ((List.range 256).map fun c => .lit (.int .u8 (spT c))) := by kernel_rfl
theorem gs_of {W : World} (h : laidMetH Tryz.prog [("unicode.White_Space", Rows.laid_unicode_White_Space), ("strings.asciiSpace", Rows.laid_strings_asciiSpace)] W) : GS.holds W := by
 rw [MakeChecks.laidMetH_plain _ _ _ (by kernel_rfl)] at h
 obtain ⟨ps, ⟨_, _, _, _, _, _, _, _, _, _, ⟨g0, t0, cs0, f0, p0, q0, hg0, ht0, hv0, hd0, _⟩, _⟩, _, _⟩ := h
 obtain rfl := Option.some.inj (gAsc.symm.trans hg0)
 obtain rfl := Option.some.inj (tAsc.symm.trans ht0)
 rw [ascL] at hd0
 obtain ⟨xs, m, rfl, hd, hcl, hxl, hel⟩ := DataW.trod_array (e := 5) (n := 256) rfl hd0
 injection hd with hd _
 injection hd with hd
 have key : ∀ i, i < 256 → W.cell? ⟨0, i, none⟩ = some (.int .u8 (spT i)) := fun i hi => by
  have h1 := hel i hi
  have hx : xs[i]? = some xs[i] := List.getElem?_eq_getElem (by omega)
  rw [hx] at h1
  obtain ⟨k, e, f, _⟩ := DataW.trod_int (t := 5) (k := .u8) rfl h1
  have hf : (xs.map (·.1))[i]? = some (.lit (.int .u8 k)) := by rw [List.getElem?_map, hx, f]; rfl
  rw [← hd, List.getElem?_map, List.getElem?_range hi] at hf
  simp only [Option.map_some, Option.some.injEq, DataW.lit.injEq, Lit.int.injEq, true_and] at hf
  rw [World.var?_cell hg0 hv0 i, ← Array.getElem?_toList]
  have e1 : Tryz.prog.cellsOf 5 = 1 := by kernel_rfl
  rw [e1, Nat.mul_one] at e
  have : (cs0.toList.drop i)[0]? = some (.int .u8 k) := by
   cases hdr : cs0.toList.drop i with
   | nil => rw [hdr] at e; cases e
   | cons a r => rw [hdr] at e; injection e with e; rw [e]; rfl
  rw [List.getElem?_drop, Nat.add_zero] at this
  rw [this, hf]
 have hsz : 0 < W.heap.size := World.block_lt_of_cell? W _ (key 0 (by decide))
 refine ⟨hsz, fun g cs hg => ?_, fun _ _ h => by cases h⟩
 simp only [GS] at hg
 split at hg
 ·rename_i e
  injection hg with hg
  subst e; subst hg
  refine ⟨Nat.lt_succ_self _, fun j v hj => ?_⟩
  unfold spL at hj
  rw [List.getElem?_map] at hj
  rcases Nat.lt_or_ge j 256 with h1 | h1
  ·rw [List.getElem?_range h1] at hj
   simp only [Option.map_some, Option.some.injEq] at hj
   rw [key j h1, hj]
  ·rw [List.getElem?_eq_none (by simpa using h1)] at hj
   cases hj
 ·cases hg
end
end Go.Proofs.YtgfgndaoocfpdaaGreatDoor.Cl
