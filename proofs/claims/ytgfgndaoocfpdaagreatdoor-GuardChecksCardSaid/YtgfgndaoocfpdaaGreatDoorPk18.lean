/- Joined parts of the proof. The walks of the made ids -/
import Derived.Test.YtgfgndaoocfpdaaGreatDoorPk11
import Derived.Test.YtgfgndaoocfpdaaGreatDoorPk13
import Derived.Test.YtgfgndaoocfpdaaGreatDoorPk17
import Derived.Test.YtgfgndaoocfpdaaGreatDoorPk16
set_option linter.unusedVariables false
set_option linter.unusedSimpArgs false
set_option maxRecDepth 100000
set_option maxHeartbeats 16000000
namespace Go.Proofs.YtgfgndaoocfpdaaGreatDoor.Cl
open Go Go.RowKit Go.Proofs Go.Proofs.YtgfgndaoocfpdaaGreatDoor.Vc Go.Proofs.YtgfgndaoocfpdaaGreatDoor.Ax
attribute [local irreducible] loadVar storeVar Instr.indexAt Instr.index Instr.sliceAt Instr.makeSlice Instr.lookup Instr.mapUpdate Instr.range Instr.next Instr.entry Instr.makeMap Builtin.append_ Builtin.copy_ Builtin.len_ Builtin.min_ Builtin.max_ Builtin.cap_ Builtin.delete_ Builtin.clear_ convert binOp eqGuard Op.unary Calls
section
def idsT : Tx := [[97, 110, 110], [98, 111, 98], [99, 97, 116], [100, 97, 110], [101, 118, 101], [102, 97, 121]]
def idT (n : Nat) : By := idsT.getD (n % 6) []
theorem idsTA : AFn Tryz.prog GC 63 [] 0 [] (Own1 9 1 (idsT.map enT)) := by
 refine afn_of Tryz.func63 rfl mixed (by kernel_rfl) ?_
 conv=>whnf
 exact aend (.own 0) 1 _ [(0, .lab 0)] [] ⟨rfl, rfl, rfl⟩ rfl (by trivial) (by trivial)
theorem idsT_len : idsT.length = 6 := rfl
attribute [local irreducible] idsT
theorem idTA (n : Nat) (hn : n < 1000000) : AFn Tryz.prog GC 37 [iv n] 0 [] (Is (tv (idT n))) := by
 refine afn_of Tryz.func37 rfl mixed (by kernel_rfl) ?_
 conv=>whnf
 (refine acallF [] (by kernel_rfl) (idsTA) ?_ ?_; (focus trivial))
 rintro _ _ _ ⟨rfl, rfl, rfl⟩
 conv=>whnf
 (refine acallF [] (by kernel_rfl) (idsTA) ?_ ?_; (focus trivial))
 rintro _ _ _ ⟨rfl, rfl, rfl⟩
 conv=>whnf
 rw [List.length_map, idsT_len]
 refine VReq.mk (by decide) ?_
 conv=>whnf
 have hlt : n % 6 < idsT.length := by rw [idsT_len]; omega
 refine AIn.mk' (n % 6) rfl (lmZ hlt) ?_
 conv=>whnf
 refine ARd.mapAt (List.getElem?_eq_getElem hlt) ?_
 conv=>whnf
 refine aret [] (congrArg (fun x : By => Value.string ⟨x.toArray⟩) ?_)
 unfold idT
 rw [List.getD_eq_getElem?_getD, List.getElem?_eq_getElem hlt]
 rfl
end
section
open Go.Proofs.YtgfgndaoocfpdaaGreatDoor.Ky
def srB (L : By) (at_ : Nat) : ABlk := .var 79 [bs L, iv at_]
def nxV (L : By) (at_ n : Nat) : Nat := (L.getD at_ 0).toNat % n
def nxA (L : By) (at_ : Nat) : Nat := if at_ < L.length then at_ + 1 else at_
theorem nxV_lt (L : By) (at_ n : Nat) (h : 0 < n) : nxV L at_ n < n := Nat.mod_lt _ h
theorem nxA_le {L : By} {at_ : Nat} (h : at_ ≤ L.length) : nxA L at_ ≤ L.length := by unfold nxA; split <;> omega
theorem nextB (L : By) (at_ n : Nat) (hn : 0 < n) (hn2 : n ≤ 256) (hL : at_ ≤ 100000) (ha : at_ ≤ L.length) : AFn Tryz.prog GS 36 [.ptr 0 0, iv n] 1 [(0, srB L at_)] (fun a m H => a = iv (nxV L at_ n) ∧ m = 1 ∧ H = [(0, srB L (nxA L at_))]) := by
 refine afn_of Tryz.func36 rfl mixed (by kernel_rfl) ?_
 conv=>whnf
 (refine adraw pln36 [] (by kernel_rfl) ?_; conv=>whnf)
 apply vif_split <;> intro h
 ·have hge : L.length ≤ at_ := by simp at h; omega
  conv=>whnf
  refine aend (iv (nxV L at_ n)) 1 [(0, srB L (nxA L at_))] [] [] ⟨rfl, rfl, rfl⟩ rfl ?_ ?_
  ·unfold nxA; rw [if_neg (by omega)]; trivial
  ·unfold nxV; rw [List.getD_eq_getElem?_getD, List.getElem?_eq_none hge, Option.getD_none, show (0 : UInt8).toNat = 0 from rfl, Nat.zero_mod]; trivial
 have hlt : at_ < L.length := by simp at h; omega
 conv=>whnf
 refine AAr.i64 (by omega) ?_
 conv=>whnf
 (refine adraw pln36 [] (by kernel_rfl) ?_; conv=>whnf)
 repeat' (first
  | (refine And.intro ?_ ?_ <;> (conv=>whnf))
  | (refine AAr.to (y := ((at_ : Nat) : Int)) (by rw [show ((at_ : Nat) : Int) + 1 - 1 = ((at_ : Nat) : Int) by omega]; exact IntWalk.i64_in _ (by omega)) ?_; conv=>whnf)
  | (refine AIn.mk' at_ rfl (lmZ hlt) ?_; conv=>whnf)
  | (refine ARd.mapAt (List.getElem?_eq_getElem hlt) ?_; conv=>whnf)
  | (refine AAr.i64 (by have := L[at_].toNat_lt; omega) ?_; conv=>whnf)
  | (refine VReq.mk (by omega) ?_; conv=>whnf))
 refine aend (iv (nxV L at_ n)) 1 [(0, srB L (nxA L at_))] [] [] ⟨rfl, rfl, rfl⟩ rfl ?_ ?_
 ·unfold nxA; rw [if_pos hlt]; trivial
 ·unfold nxV; rw [List.getD_eq_getElem?_getD, List.getElem?_eq_getElem hlt]; exact rfl
theorem nextA (L : By) (at_ n : Nat) (hn : 0 < n) (hn2 : n ≤ 256) (hL : L.length ≤ 100000) (ha : at_ ≤ L.length) : AFn Tryz.prog GS 36 [.ptr 0 0, iv n] 1 [(0, srB L at_)] (fun a m H => a = iv (nxV L at_ n) ∧ m = 1 ∧ H = [(0, srB L (nxA L at_))]) := nextB L at_ n hn hn2 (by omega) ha
theorem moreA (L : By) (at_ : Nat) : AFn Tryz.prog GS 35 [.ptr 0 0] 1 [(0, srB L at_)] (fun a m H => a = bv (decide (at_ < L.length)) ∧ m = 1 ∧ H = [(0, srB L at_)]) := by
 refine afn_of Tryz.func35 rfl mixed (by kernel_rfl) ?_
 conv=>whnf
 (refine adraw pln35 [] (by kernel_rfl) ?_; conv=>whnf)
 refine aend (bv (decide (at_ < L.length))) 1 [(0, srB L at_)] [] [] ⟨rfl, rfl, rfl⟩ rfl (by trivial) ?_
 refine congrArg Value.bool ?_
 rw [List.length_map]
 exact decide_eq_decide.2 (by omega)
def expT : Tx := [[98, 108, 117, 101], [103, 114, 101, 101, 110], [102, 97, 115, 116], [115, 108, 111, 119]]
def namT : Tx := [[98, 117, 121], [118, 105, 115, 105, 116]]
theorem expTA : AFn Tryz.prog GS 28 [] 0 [] (Own1 9 1 (expT.map enT)) := by
 refine afn_of Tryz.func28 rfl mixed (by kernel_rfl) ?_
 conv=>whnf
 exact aend (.own 0) 1 _ [(0, .lab 0)] [] ⟨rfl, rfl, rfl⟩ rfl (by trivial) (by trivial)
theorem namTA : AFn Tryz.prog GS 38 [] 0 [] (Own1 9 1 (namT.map enT)) := by
 refine afn_of Tryz.func38 rfl mixed (by kernel_rfl) ?_
 conv=>whnf
 exact aend (.own 0) 1 _ [(0, .lab 0)] [] ⟨rfl, rfl, rfl⟩ rfl (by trivial) (by trivial)
end
section
open Go.Proofs.YtgfgndaoocfpdaaGreatDoor.Ky
def cliT : Tx := [[97, 112, 112], [116, 97, 98], [119, 101, 98]]
structure EvP (e : Ev) : Prop where
 client : e.client ∈ cliT
 id : ∃ k : Nat, k < 6 ∧ e.id = idT k
 seq : 1 ≤ e.seq ∧ e.seq ≤ 60
 time : 0 ≤ e.time ∧ e.time ≤ 180
 kinds : (e.kind = 1 ∧ (∃ k : Nat, k < 2 ∧ e.name = expT.getD k []) ∧ e.other = [] ∧ (1 ≤ e.arm ∧ e.arm ≤ 3) ∧ (1 ≤ e.ver ∧ e.ver ≤ 2) ∧ e.val = 0) ∨
  (e.kind = 2 ∧ (∃ k : Nat, k < 2 ∧ e.name = namT.getD k []) ∧ e.other = [] ∧ e.ver = 0 ∧ e.arm = 0 ∧ (-4 ≤ e.val ∧ e.val ≤ 35)) ∨
  (e.kind = 3 ∧ e.name = [] ∧ (∃ k : Nat, k < 7 ∧ e.other = idT k) ∧ e.other ≠ e.id ∧ e.ver = 0 ∧ e.arm = 0 ∧ e.val = 0)
structure EvsP (l : List Ev) : Prop where
 len : l.length ≤ 60
 all : ∀ e ∈ l, EvP e
 asc : l.Pairwise fun a b => a.time ≤ b.time
structure ES where
 out : List Ev
 a : Nat
 tm : Nat
 sq : List Nat
 last : Int
structure EI (L : By) (x : ES) : Prop where
 at_ : x.a ≤ L.length
 P : EvsP x.out
 tm : x.tm ≤ 3 * x.out.length
 le : ∀ e ∈ x.out, e.time ≤ (x.tm : Int)
 sl : x.sq.length = 3
 sb : ∀ k ∈ x.sq, k ≤ x.out.length
 last : -1 ≤ x.last ∧ x.last ≤ 2
def enN (n : Nat) : List FV := [iF n]
def EvO (a : AV) (m : Nat) (H : AHeap) : Prop := ∃ l, EvsP l ∧ a = el l ∧ m = 0 ∧ H = []
theorem AAr.div {K : Int → Prop} (v k : Nat) (hv : v < 1000000) (c : K ((v / k : Nat) : Int)) : AAr .i64 ((v : Int).tdiv (k : Int)) K := by
 have h := Nat.div_le_self v k
 refine AAr.to (y := ((v / k : Nat) : Int)) ?_ c
 rw [show (v : Int).tdiv (k : Int) = ((v / k : Nat) : Int) from rfl]
 generalize v / k = q at *
 exact IntWalk.i64_in _ (by omega)
theorem idT_ne0 {a b : Nat} (h : sEq ⟨(idT a).toArray⟩ ⟨(idT b).toArray⟩ = false) : idT a ≠ idT b := fun e => by
 rw [sEq_tx, decide_eq_false_iff_not] at h; exact h e
theorem idT_ne1 {a b : Nat} (ha : a < 6) (hb : b < 6) (h : sEq ⟨(idT a).toArray⟩ ⟨(idT b).toArray⟩ = true) : idT (a + 1) ≠ idT b := by
 have h1 : idT a = idT b := by rw [sEq_tx, decide_eq_true_eq] at h; exact h
 have h2 : ∀ a, a < 6 → ∀ b, b < 6 → idT a = idT b → idT (a + 1) ≠ idT b := by decide
 exact h2 a ha b hb h1
theorem enE_app (l : List Ev) (e : Ev) : l.map enE ++ [enE e] = (l ++ [e]).map enE := by rw [List.map_append]; rfl
theorem EI.next {L : By} {out : List Ev} {a tm : Nat} {sq : List Nat} {last : Int} (h : EI L ⟨out, a, tm, sq, last⟩) (hl : out.length < 60) {a' st i k : Nat} (ha : a' ≤ L.length) (hst : st < 4) (hi : i < 3) (hk : k ≤ out.length) {e : Ev} (het : e.time = ((tm + st : Nat) : Int)) (he : EvP e) : EI L ⟨out ++ [e], a', tm + st, sq.set i (k + 1), i⟩ := by
 obtain ⟨hp, hP, htm, hle, hsl, hsb, hlast⟩ := h
 dsimp only at *
 have hn : (out ++ [e]).length = out.length + 1 := by rw [List.length_append]; rfl
 refine ⟨ha, ⟨by dsimp only; omega, fun x hx => ?_, List.pairwise_append.2 ⟨hP.asc, List.pairwise_singleton _ _, fun x hx y hy => ?_⟩⟩, by dsimp only; omega, fun x hx => ?_, by dsimp only; rw [List.length_set]; exact hsl, fun x hx => ?_, by dsimp only; omega⟩
 ·rcases List.mem_append.1 hx with h | h
  ·exact hP.all x h
  ·rw [List.mem_singleton] at h; rw [h]; exact he
 ·rw [List.mem_singleton] at hy
  have := hle x hx
  rw [hy]; omega
 ·dsimp only at hx ⊢
  rcases List.mem_append.1 hx with h | h
  ·have := hle x h; omega
  ·rw [List.mem_singleton] at h; rw [h]; omega
 ·dsimp only at hx ⊢
  rcases List.mem_or_eq_of_mem_set hx with h | h
  ·have := hsb x h; omega
  ·omega
def NxC (L : By) (p n v q : Nat) : Prop := v < n ∧ q ≤ L.length ∧ AFn Tryz.prog GS 36 [.ptr 0 0, iv n] 1 [(0, srB L p)] (fun a m H => a = iv v ∧ m = 1 ∧ H = [(0, srB L q)])
theorem nxC {L : By} (hL : L.length ≤ 1000) {p : Nat} (hp : p ≤ L.length) (n : Nat) (hn : 0 < n) (hn2 : n ≤ 256) : ∃ v q, NxC L p n v q := ⟨nxV L p n, nxA L p, nxV_lt L p n hn, nxA_le hp, nextA L p n hn hn2 (by omega) hp⟩
theorem eventsA (L : By) (hL : L.length ≤ 1000) : AFn Tryz.prog GS 14 [bs L] 0 [] EvO := by
 refine afn_of Tryz.func14 rfl mixed (by kernel_rfl) ?_
 conv=>whnf
 refine aloop ws14_1 3 [4, 5, 7] (fun x : ES => [(4, .own 2), (5, iv x.tm), (7, iv x.last)]) (fun x => [(0, srB L x.a), (1, .rows 3 1 (x.sq.map enN)), (2, .rows 55 10 (x.out.map enE))]) (EI L) (fun x => 60 - x.out.length) [(2, .nil)] [] ⟨[], 0, 0, [0, 0, 0], -1⟩ (by kernel_rfl) (fun _ => rfl) rfl ⟨Nat.zero_le _, ⟨Nat.zero_le _, (fun _ h => by cases h), List.Pairwise.nil⟩, Nat.zero_le _, (fun _ h => by cases h), rfl, (by simp), by constructor <;> (dsimp only; omega)⟩ ⟨(by trivial), (by trivial), rfl, trivial⟩ ⟨trivial, rfl, rfl, trivial⟩ ?_
 rintro ⟨out, p, tm, sq, last⟩ hJ
 obtain ⟨hp, hP, htm, hle, hsl, hsb, hlast⟩ := id hJ
 dsimp only at hp hP htm hle hsl hsb hlast
 have hol := hP.len
 conv=>whnf
 refine acallM [0] [] (by kernel_rfl) (moreA L p) rfl (by trivial) (by trivial) ?_
 rintro _ _ _ ⟨rfl, rfl, rfl⟩
 refine ⟨rfl, ?_⟩
 conv=>whnf
 apply vif_split <;> intro h
 rotate_left 1
 ·conv=>whnf
  refine aend (el out) 0 [] [] [2] ⟨out, hP, rfl, rfl, rfl⟩ rfl trivial ⟨rfl, rfl, rfl⟩
 conv=>whnf
 apply vif_split <;> intro h
 rotate_left 1
 ·conv=>whnf
  refine aend (el out) 0 [] [] [2] ⟨out, hP, rfl, rfl, rfl⟩ rfl trivial ⟨rfl, rfl, rfl⟩
 have hlt : out.length < 60 := by simp at h; omega
 conv=>whnf
 refine acallM [0] [] (by kernel_rfl) (nextA L p 4 (by decide) (by decide) (by omega) hp) rfl (by trivial) (by trivial) ?_
 rintro _ _ _ ⟨rfl, rfl, rfl⟩
 refine ⟨rfl, ?_⟩
 conv=>whnf
 have hv1 := nxV_lt L p 4 (by decide)
 have hp1 := nxA_le (L := L) hp
 generalize nxV L p 4 = v1 at *
 generalize nxA L p = p1 at *
 refine acallM [0] [] (by kernel_rfl) (nextA L p1 3 (by decide) (by decide) (by omega) hp1) rfl (by trivial) (by trivial) ?_
 rintro _ _ _ ⟨rfl, rfl, rfl⟩
 refine ⟨rfl, ?_⟩
 conv=>whnf
 have hv2 := nxV_lt L p1 3 (by decide)
 have hp2 := nxA_le (L := L) hp1
 generalize nxV L p1 3 = v2 at *
 generalize nxA L p1 = p2 at *
 obtain ⟨sv, hsv, hsb1⟩ : ∃ sv, sq[v2]? = some sv ∧ sv ≤ out.length := ⟨_, List.getElem?_eq_getElem (by omega), hsb _ (List.getElem_mem _)⟩
 obtain ⟨cl, hcl, hcm⟩ : ∃ cl, cliT[v2]? = some cl ∧ cl ∈ cliT := ⟨_, List.getElem?_eq_getElem hv2, List.getElem_mem _⟩
 have hv3 := nxV_lt L p2 6 (by decide)
 have hid : AFn Tryz.prog GS 37 [iv (nxV L p2 6)] 0 [] (Is (tv (idT (nxV L p2 6)))) := AFn.up (idTA _ (by omega)) GS
 refine vif_split (fun hq => ?_) (fun hq => ?_)
 ·conv=>whnf
  refine vif_split (fun hc => ?_) (fun hc => ?_)
  ·conv=>whnf
   refine AAr.i64 (by dsimp only; omega) ?_
   conv=>whnf
   refine AIn.mk' v2 rfl (by rw [List.length_map, hsl]; exact hv2) ?_
   conv=>whnf
   refine ARd.mapAt hsv ?_
   conv=>whnf
   refine AAr.i64 (by omega) ?_
   conv=>whnf
   refine AIn.mk' v2 rfl (by rw [List.length_map, hsl]; exact hv2) ?_
   conv=>whnf
   refine ARd.mapAt hsv ?_
   conv=>whnf
   refine adrawC pln14 [0] [(10, 10), (44, 56)] 4 [(10, .ptr 3 0)] [(0, srB L (nxA L p2)), (1, .rows 3 1 (((sq.map enN).set v2 (enN (sv + 1))))), (2, .rows 55 10 (out.map enE)), (3, .var 55 [tv cl, iv ((sv : Int) + 1), iv 0, iv ((tm : Int) + 1), tv (idT (nxV L p2 6)), tv [], tv [], iv 0, iv 0, iv 0])] (by kernel_rfl) (by kernel_rfl) ?_ ?_
   ·conv=>whnf
    repeat' (first
     | (refine And.intro ?_ ?_ <;> (conv=>whnf))
     | (refine AIn.mk' v2 rfl hv2 ?_; conv=>whnf)
     | (refine ARd.mapAt (enc := enT) (xs := cliT) hcl ?_; conv=>whnf)
     | (refine AIn.mk' v2 rfl (by rw [List.length_set, List.length_map, hsl]; exact hv2) ?_; conv=>whnf)
     | (refine ARd.set (by rw [List.length_map, hsl]; exact hv2) ?_; conv=>whnf)
     | (refine acallM [0] [] (by kernel_rfl) (nextA L p2 6 (by decide) (by decide) (by omega) hp2) rfl (by trivial) (by trivial) ?_; rintro _ _ _ ⟨rfl, rfl, rfl⟩; refine ⟨rfl, ?_⟩; conv=>whnf)
     | ((refine acall [] (by kernel_rfl) (hid) rfl ?_ ?_; (focus (trivial; done)); (conv=>whnf))))
    all_goals first
     | (refine arbD [(3, .lab 3)] [] ?_ ?_ ?_; (focus rfl); (focus trivial); (focus trivial); done)
     | (refine arbD [(3, .lab 4)] [] ?_ ?_ ?_; (focus rfl); (focus trivial); (focus trivial); done)
     | (refine arbD [(3, .lab 5)] [] ?_ ?_ ?_; (focus rfl); (focus trivial); (focus trivial); done)
   have hp3 := nxA_le (L := L) hp2
   generalize nxV L p2 6 = v3 at *
   generalize nxA L p2 = p3 at *
   conv=>whnf
   refine acallM [0] [] (by kernel_rfl) (nextA L p3 8 (by decide) (by decide) (by omega) hp3) rfl (by trivial) (by trivial) ?_
   rintro _ _ _ ⟨rfl, rfl, rfl⟩
   refine ⟨rfl, ?_⟩
   conv=>whnf
   have hv4 := nxV_lt L p3 8 (by decide)
   have hp4 := nxA_le (L := L) hp3
   generalize nxV L p3 8 = v4 at *
   generalize nxA L p3 = p4 at *
   rcases (by omega : v4 = 0 ∨ v4 = 1 ∨ v4 = 2 ∨ v4 = 3 ∨ 4 ≤ v4) with rfl | rfl | rfl | rfl | h4
   ·conv=>whnf
    obtain ⟨v5, p5, hv5, hp5, c5⟩ := nxC hL hp4 8 (by decide) (by decide)
    obtain ⟨v6, p6, hv6, hp6, c6⟩ := nxC hL hp5 10 (by decide) (by decide)
    obtain ⟨v7, p7, hv7, hp7, c7⟩ := nxC hL hp6 12 (by decide) (by decide)
    obtain ⟨v8, p8, hv8, hp8, c8⟩ := nxC hL hp7 5 (by decide) (by decide)
    obtain ⟨xn, hxn⟩ : ∃ xn, expT[v5 / 7]? = some xn := ⟨_, List.getElem?_eq_getElem (by have : expT.length = 4 := rfl; omega)⟩
    have hxe : xn = expT.getD (v5 / 7) [] := by rw [List.getD_eq_getElem?_getD, hxn, Option.getD_some]
    (refine adraw pln14 [0, 3] (by kernel_rfl) ?_; conv=>whnf)
    (refine acallF [] (by kernel_rfl) (expTA) ?_ ?_; (focus trivial))
    rintro _ _ _ ⟨rfl, rfl, rfl⟩
    conv=>whnf
    repeat' (first
     | (refine And.intro ?_ ?_ <;> (conv=>whnf))
     | (refine acallM [0] [] (by kernel_rfl) c5 rfl ?_ ?_ ?_; (focus (trivial; done)); (focus (trivial; done)); rintro _ _ _ ⟨rfl, rfl, rfl⟩; refine ⟨rfl, ?_⟩; conv=>whnf)
     | (refine acallM [0] [] (by kernel_rfl) c6 rfl ?_ ?_ ?_; (focus (trivial; done)); (focus (trivial; done)); rintro _ _ _ ⟨rfl, rfl, rfl⟩; refine ⟨rfl, ?_⟩; conv=>whnf)
     | (refine acallM [0] [] (by kernel_rfl) c7 rfl ?_ ?_ ?_; (focus (trivial; done)); (focus (trivial; done)); rintro _ _ _ ⟨rfl, rfl, rfl⟩; refine ⟨rfl, ?_⟩; conv=>whnf)
     | (refine acallM [0] [] (by kernel_rfl) c8 rfl ?_ ?_ ?_; (focus (trivial; done)); (focus (trivial; done)); rintro _ _ _ ⟨rfl, rfl, rfl⟩; refine ⟨rfl, ?_⟩; conv=>whnf)
     | (refine VReq.mk (by decide) ?_; conv=>whnf)
     | (refine AIn.mk' (v5 / 7) rfl (by rw [List.length_map]; have : expT.length = 4 := rfl; omega) ?_; conv=>whnf)
     | (refine ARd.mapAt hxn ?_; conv=>whnf)
     | (refine AAr.div v5 7 (by omega) ?_; conv=>whnf)
     | (refine AAr.div v7 11 (by omega) ?_; conv=>whnf)
     | (refine AAr.div v8 4 (by omega) ?_; conv=>whnf)
     | (refine AAr.to (y := ((1 + v6 % 9 % 2 : Nat) : Int)) ?_ ?_; (focus (rw [show (1 : Int) + ((v6 : Int).tmod 9).tmod 2 = ((1 + v6 % 9 % 2 : Nat) : Int) from rfl]; exact IntWalk.i64_in _ (by omega))); conv=>whnf)
     | (refine AAr.i64 ?_ ?_; (focus omega); conv=>whnf))
    refine VReq.mk (app_ok (by simp only [List.length_map, List.length_cons, List.length_nil]; omega) (by kernel_rfl)) ?_
    conv=>whnf
    exact aback ⟨out ++ [⟨cl, (sv : Int) + 1, 1, (tm : Int) + 1, idT v3, xn, [], 1 + ((v8 / 4 : Nat) : Int), ((1 + v6 % 9 % 2 : Nat) : Int) + ((v7 / 11 : Nat) : Int), 0⟩], p8, tm + 1, sq.set v2 (sv + 1), v2⟩ [(2, .lab 6)] [] rfl (by show 60 - (out ++ [_]).length < 60 - out.length; rw [List.length_append]; simp; omega) (hJ.next hlt hp8 (by omega) hv2 hsb1 rfl ⟨hcm, ⟨v3, hv3, rfl⟩, (by dsimp only; omega), (by dsimp only; omega), .inl ⟨rfl, ⟨v5 / 7, by omega, hxe⟩, rfl, (by dsimp only; omega), (by dsimp only; omega), rfl⟩⟩) ⟨(by trivial), ⟨rfl, rfl, List.map_set.symm⟩, ⟨rfl, rfl, enE_app out ⟨cl, (sv : Int) + 1, 1, (tm : Int) + 1, idT v3, xn, [], 1 + ((v8 / 4 : Nat) : Int), ((1 + v6 % 9 % 2 : Nat) : Int) + ((v7 / 11 : Nat) : Int), 0⟩⟩, trivial⟩ ⟨rfl, rfl, rfl, trivial⟩
   ·conv=>whnf
    obtain ⟨v5, p5, hv5, hp5, c5⟩ := nxC hL hp4 8 (by decide) (by decide)
    obtain ⟨v6, p6, hv6, hp6, c6⟩ := nxC hL hp5 10 (by decide) (by decide)
    obtain ⟨v7, p7, hv7, hp7, c7⟩ := nxC hL hp6 12 (by decide) (by decide)
    obtain ⟨v8, p8, hv8, hp8, c8⟩ := nxC hL hp7 5 (by decide) (by decide)
    obtain ⟨xn, hxn⟩ : ∃ xn, expT[v5 / 7]? = some xn := ⟨_, List.getElem?_eq_getElem (by have : expT.length = 4 := rfl; omega)⟩
    have hxe : xn = expT.getD (v5 / 7) [] := by rw [List.getD_eq_getElem?_getD, hxn, Option.getD_some]
    (refine adraw pln14 [0, 3] (by kernel_rfl) ?_; conv=>whnf)
    (refine acallF [] (by kernel_rfl) (expTA) ?_ ?_; (focus trivial))
    rintro _ _ _ ⟨rfl, rfl, rfl⟩
    conv=>whnf
    repeat' (first
     | (refine And.intro ?_ ?_ <;> (conv=>whnf))
     | (refine acallM [0] [] (by kernel_rfl) c5 rfl ?_ ?_ ?_; (focus (trivial; done)); (focus (trivial; done)); rintro _ _ _ ⟨rfl, rfl, rfl⟩; refine ⟨rfl, ?_⟩; conv=>whnf)
     | (refine acallM [0] [] (by kernel_rfl) c6 rfl ?_ ?_ ?_; (focus (trivial; done)); (focus (trivial; done)); rintro _ _ _ ⟨rfl, rfl, rfl⟩; refine ⟨rfl, ?_⟩; conv=>whnf)
     | (refine acallM [0] [] (by kernel_rfl) c7 rfl ?_ ?_ ?_; (focus (trivial; done)); (focus (trivial; done)); rintro _ _ _ ⟨rfl, rfl, rfl⟩; refine ⟨rfl, ?_⟩; conv=>whnf)
     | (refine acallM [0] [] (by kernel_rfl) c8 rfl ?_ ?_ ?_; (focus (trivial; done)); (focus (trivial; done)); rintro _ _ _ ⟨rfl, rfl, rfl⟩; refine ⟨rfl, ?_⟩; conv=>whnf)
     | (refine VReq.mk (by decide) ?_; conv=>whnf)
     | (refine AIn.mk' (v5 / 7) rfl (by rw [List.length_map]; have : expT.length = 4 := rfl; omega) ?_; conv=>whnf)
     | (refine ARd.mapAt hxn ?_; conv=>whnf)
     | (refine AAr.div v5 7 (by omega) ?_; conv=>whnf)
     | (refine AAr.div v7 11 (by omega) ?_; conv=>whnf)
     | (refine AAr.div v8 4 (by omega) ?_; conv=>whnf)
     | (refine AAr.to (y := ((1 + v6 % 9 % 2 : Nat) : Int)) ?_ ?_; (focus (rw [show (1 : Int) + ((v6 : Int).tmod 9).tmod 2 = ((1 + v6 % 9 % 2 : Nat) : Int) from rfl]; exact IntWalk.i64_in _ (by omega))); conv=>whnf)
     | (refine AAr.i64 ?_ ?_; (focus omega); conv=>whnf))
    refine VReq.mk (app_ok (by simp only [List.length_map, List.length_cons, List.length_nil]; omega) (by kernel_rfl)) ?_
    conv=>whnf
    exact aback ⟨out ++ [⟨cl, (sv : Int) + 1, 1, (tm : Int) + 1, idT v3, xn, [], 1 + ((v8 / 4 : Nat) : Int), ((1 + v6 % 9 % 2 : Nat) : Int) + ((v7 / 11 : Nat) : Int), 0⟩], p8, tm + 1, sq.set v2 (sv + 1), v2⟩ [(2, .lab 6)] [] rfl (by show 60 - (out ++ [_]).length < 60 - out.length; rw [List.length_append]; simp; omega) (hJ.next hlt hp8 (by omega) hv2 hsb1 rfl ⟨hcm, ⟨v3, hv3, rfl⟩, (by dsimp only; omega), (by dsimp only; omega), .inl ⟨rfl, ⟨v5 / 7, by omega, hxe⟩, rfl, (by dsimp only; omega), (by dsimp only; omega), rfl⟩⟩) ⟨(by trivial), ⟨rfl, rfl, List.map_set.symm⟩, ⟨rfl, rfl, enE_app out ⟨cl, (sv : Int) + 1, 1, (tm : Int) + 1, idT v3, xn, [], 1 + ((v8 / 4 : Nat) : Int), ((1 + v6 % 9 % 2 : Nat) : Int) + ((v7 / 11 : Nat) : Int), 0⟩⟩, trivial⟩ ⟨rfl, rfl, rfl, trivial⟩
   ·conv=>whnf
    obtain ⟨v5, p5, hv5, hp5, c5⟩ := nxC hL hp4 8 (by decide) (by decide)
    obtain ⟨v6, p6, hv6, hp6, c6⟩ := nxC hL hp5 10 (by decide) (by decide)
    obtain ⟨v7, p7, hv7, hp7, c7⟩ := nxC hL hp6 12 (by decide) (by decide)
    obtain ⟨v8, p8, hv8, hp8, c8⟩ := nxC hL hp7 5 (by decide) (by decide)
    obtain ⟨xn, hxn⟩ : ∃ xn, expT[v5 / 7]? = some xn := ⟨_, List.getElem?_eq_getElem (by have : expT.length = 4 := rfl; omega)⟩
    have hxe : xn = expT.getD (v5 / 7) [] := by rw [List.getD_eq_getElem?_getD, hxn, Option.getD_some]
    (refine adraw pln14 [0, 3] (by kernel_rfl) ?_; conv=>whnf)
    (refine acallF [] (by kernel_rfl) (expTA) ?_ ?_; (focus trivial))
    rintro _ _ _ ⟨rfl, rfl, rfl⟩
    conv=>whnf
    repeat' (first
     | (refine And.intro ?_ ?_ <;> (conv=>whnf))
     | (refine acallM [0] [] (by kernel_rfl) c5 rfl ?_ ?_ ?_; (focus (trivial; done)); (focus (trivial; done)); rintro _ _ _ ⟨rfl, rfl, rfl⟩; refine ⟨rfl, ?_⟩; conv=>whnf)
     | (refine acallM [0] [] (by kernel_rfl) c6 rfl ?_ ?_ ?_; (focus (trivial; done)); (focus (trivial; done)); rintro _ _ _ ⟨rfl, rfl, rfl⟩; refine ⟨rfl, ?_⟩; conv=>whnf)
     | (refine acallM [0] [] (by kernel_rfl) c7 rfl ?_ ?_ ?_; (focus (trivial; done)); (focus (trivial; done)); rintro _ _ _ ⟨rfl, rfl, rfl⟩; refine ⟨rfl, ?_⟩; conv=>whnf)
     | (refine acallM [0] [] (by kernel_rfl) c8 rfl ?_ ?_ ?_; (focus (trivial; done)); (focus (trivial; done)); rintro _ _ _ ⟨rfl, rfl, rfl⟩; refine ⟨rfl, ?_⟩; conv=>whnf)
     | (refine VReq.mk (by decide) ?_; conv=>whnf)
     | (refine AIn.mk' (v5 / 7) rfl (by rw [List.length_map]; have : expT.length = 4 := rfl; omega) ?_; conv=>whnf)
     | (refine ARd.mapAt hxn ?_; conv=>whnf)
     | (refine AAr.div v5 7 (by omega) ?_; conv=>whnf)
     | (refine AAr.div v7 11 (by omega) ?_; conv=>whnf)
     | (refine AAr.div v8 4 (by omega) ?_; conv=>whnf)
     | (refine AAr.to (y := ((1 + v6 % 9 % 2 : Nat) : Int)) ?_ ?_; (focus (rw [show (1 : Int) + ((v6 : Int).tmod 9).tmod 2 = ((1 + v6 % 9 % 2 : Nat) : Int) from rfl]; exact IntWalk.i64_in _ (by omega))); conv=>whnf)
     | (refine AAr.i64 ?_ ?_; (focus omega); conv=>whnf))
    refine VReq.mk (app_ok (by simp only [List.length_map, List.length_cons, List.length_nil]; omega) (by kernel_rfl)) ?_
    conv=>whnf
    exact aback ⟨out ++ [⟨cl, (sv : Int) + 1, 1, (tm : Int) + 1, idT v3, xn, [], 1 + ((v8 / 4 : Nat) : Int), ((1 + v6 % 9 % 2 : Nat) : Int) + ((v7 / 11 : Nat) : Int), 0⟩], p8, tm + 1, sq.set v2 (sv + 1), v2⟩ [(2, .lab 6)] [] rfl (by show 60 - (out ++ [_]).length < 60 - out.length; rw [List.length_append]; simp; omega) (hJ.next hlt hp8 (by omega) hv2 hsb1 rfl ⟨hcm, ⟨v3, hv3, rfl⟩, (by dsimp only; omega), (by dsimp only; omega), .inl ⟨rfl, ⟨v5 / 7, by omega, hxe⟩, rfl, (by dsimp only; omega), (by dsimp only; omega), rfl⟩⟩) ⟨(by trivial), ⟨rfl, rfl, List.map_set.symm⟩, ⟨rfl, rfl, enE_app out ⟨cl, (sv : Int) + 1, 1, (tm : Int) + 1, idT v3, xn, [], 1 + ((v8 / 4 : Nat) : Int), ((1 + v6 % 9 % 2 : Nat) : Int) + ((v7 / 11 : Nat) : Int), 0⟩⟩, trivial⟩ ⟨rfl, rfl, rfl, trivial⟩
   ·conv=>whnf
    obtain ⟨v5, p5, hv5, hp5, c5⟩ := nxC hL hp4 6 (by decide) (by decide)
    refine acallM [0] [] (by kernel_rfl) c5 rfl ?_ ?_ ?_; (focus (trivial; done)); (focus (trivial; done)); rintro _ _ _ ⟨rfl, rfl, rfl⟩; refine ⟨rfl, ?_⟩; conv=>whnf
    (refine adraw pln14 [] (by kernel_rfl) ?_; conv=>whnf)
    have hi5 : AFn Tryz.prog GS 37 [iv v5] 0 [] (Is (tv (idT v5))) := AFn.up (idTA _ (by omega)) GS
    have hi6 : AFn Tryz.prog GS 37 [iv ((v5 : Int) + 1)] 0 [] (Is (tv (idT (v5 + 1)))) := AFn.up (idTA (v5 + 1) (by omega)) GS
    (refine acall [] (by kernel_rfl) (hi5) rfl ?_ ?_; (focus (trivial; done)); (conv=>whnf))
    apply vif_split <;> intro h
    ·conv=>whnf
     refine AAr.i64 (by omega) ?_
     conv=>whnf
     (refine acall [] (by kernel_rfl) (hi6) rfl ?_ ?_; (focus (trivial; done)); (conv=>whnf))
     refine VReq.mk (app_ok (by simp only [List.length_map, List.length_cons, List.length_nil]; omega) (by kernel_rfl)) ?_
     conv=>whnf
     exact aback ⟨out ++ [⟨cl, (sv : Int) + 1, 3, (tm : Int) + 1, idT v3, [], idT (v5 + 1), 0, 0, 0⟩], p5, tm + 1, sq.set v2 (sv + 1), v2⟩ [(2, .lab 5)] [] rfl (by show 60 - (out ++ [_]).length < 60 - out.length; rw [List.length_append]; simp; omega) (hJ.next hlt hp5 (by omega) hv2 hsb1 rfl ⟨hcm, ⟨v3, hv3, rfl⟩, (by dsimp only; omega), (by dsimp only; omega), .inr (.inr ⟨rfl, rfl, ⟨v5 + 1, by omega, rfl⟩, idT_ne1 hv5 hv3 h, rfl, rfl, rfl⟩)⟩) ⟨(by trivial), ⟨rfl, rfl, List.map_set.symm⟩, ⟨rfl, rfl, enE_app out ⟨cl, (sv : Int) + 1, 3, (tm : Int) + 1, idT v3, [], idT (v5 + 1), 0, 0, 0⟩⟩, trivial⟩ ⟨rfl, rfl, rfl, trivial⟩
    ·conv=>whnf
     (refine acall [] (by kernel_rfl) (hi5) rfl ?_ ?_; (focus (trivial; done)); (conv=>whnf))
     refine VReq.mk (app_ok (by simp only [List.length_map, List.length_cons, List.length_nil]; omega) (by kernel_rfl)) ?_
     conv=>whnf
     exact aback ⟨out ++ [⟨cl, (sv : Int) + 1, 3, (tm : Int) + 1, idT v3, [], idT v5, 0, 0, 0⟩], p5, tm + 1, sq.set v2 (sv + 1), v2⟩ [(2, .lab 5)] [] rfl (by show 60 - (out ++ [_]).length < 60 - out.length; rw [List.length_append]; simp; omega) (hJ.next hlt hp5 (by omega) hv2 hsb1 rfl ⟨hcm, ⟨v3, hv3, rfl⟩, (by dsimp only; omega), (by dsimp only; omega), .inr (.inr ⟨rfl, rfl, ⟨v5, by omega, rfl⟩, idT_ne0 h, rfl, rfl, rfl⟩)⟩) ⟨(by trivial), ⟨rfl, rfl, List.map_set.symm⟩, ⟨rfl, rfl, enE_app out ⟨cl, (sv : Int) + 1, 3, (tm : Int) + 1, idT v3, [], idT v5, 0, 0, 0⟩⟩, trivial⟩ ⟨rfl, rfl, rfl, trivial⟩
   ·repeat' (refine vif_false (beq_eq_false_iff_ne.2 (by omega)) ?_; conv=>whnf)
    obtain ⟨v5, p5, hv5, hp5, c5⟩ := nxC hL hp4 3 (by decide) (by decide)
    obtain ⟨v6, p6, hv6, hp6, c6⟩ := nxC hL hp5 40 (by decide) (by decide)
    obtain ⟨xn, hxn⟩ : ∃ xn, namT[v5 / 2]? = some xn := ⟨_, List.getElem?_eq_getElem (by have : namT.length = 2 := rfl; omega)⟩
    have hxe : xn = namT.getD (v5 / 2) [] := by rw [List.getD_eq_getElem?_getD, hxn, Option.getD_some]
    (refine adraw pln14 [0, 3] (by kernel_rfl) ?_; conv=>whnf)
    (refine acallF [] (by kernel_rfl) (namTA) ?_ ?_; (focus trivial))
    rintro _ _ _ ⟨rfl, rfl, rfl⟩
    conv=>whnf
    repeat' (first
     | (refine And.intro ?_ ?_ <;> (conv=>whnf))
     | (refine acallM [0] [] (by kernel_rfl) c5 rfl ?_ ?_ ?_; (focus (trivial; done)); (focus (trivial; done)); rintro _ _ _ ⟨rfl, rfl, rfl⟩; refine ⟨rfl, ?_⟩; conv=>whnf)
     | (refine acallM [0] [] (by kernel_rfl) c6 rfl ?_ ?_ ?_; (focus (trivial; done)); (focus (trivial; done)); rintro _ _ _ ⟨rfl, rfl, rfl⟩; refine ⟨rfl, ?_⟩; conv=>whnf)
     | (refine VReq.mk (by decide) ?_; conv=>whnf)
     | (refine AIn.mk' (v5 / 2) rfl (by rw [List.length_map]; have : namT.length = 2 := rfl; omega) ?_; conv=>whnf)
     | (refine ARd.mapAt hxn ?_; conv=>whnf)
     | (refine AAr.div v5 2 (by omega) ?_; conv=>whnf)
     | (refine AAr.i64 ?_ ?_; (focus omega); conv=>whnf))
    refine VReq.mk (app_ok (by simp only [List.length_map, List.length_cons, List.length_nil]; omega) (by kernel_rfl)) ?_
    conv=>whnf
    exact aback ⟨out ++ [⟨cl, (sv : Int) + 1, 2, (tm : Int) + 1, idT v3, xn, [], 0, 0, (v6 : Int) - 4⟩], p6, tm + 1, sq.set v2 (sv + 1), v2⟩ [(2, .lab 6)] [] rfl (by show 60 - (out ++ [_]).length < 60 - out.length; rw [List.length_append]; simp; omega) (hJ.next hlt hp6 (by omega) hv2 hsb1 rfl ⟨hcm, ⟨v3, hv3, rfl⟩, (by dsimp only; omega), (by dsimp only; omega), .inr (.inl ⟨rfl, ⟨v5 / 2, by omega, hxe⟩, rfl, rfl, rfl, (by dsimp only; omega)⟩)⟩) ⟨(by trivial), ⟨rfl, rfl, List.map_set.symm⟩, ⟨rfl, rfl, enE_app out ⟨cl, (sv : Int) + 1, 2, (tm : Int) + 1, idT v3, xn, [], 0, 0, (v6 : Int) - 4⟩⟩, trivial⟩ ⟨rfl, rfl, rfl, trivial⟩
  ·conv=>whnf
   refine AAr.i64 (by dsimp only; omega) ?_
   conv=>whnf
   refine AIn.mk' v2 rfl (by rw [List.length_map, hsl]; exact hv2) ?_
   conv=>whnf
   refine ARd.mapAt hsv ?_
   conv=>whnf
   refine AAr.i64 (by omega) ?_
   conv=>whnf
   refine AIn.mk' v2 rfl (by rw [List.length_map, hsl]; exact hv2) ?_
   conv=>whnf
   refine ARd.mapAt hsv ?_
   conv=>whnf
   refine adrawC pln14 [0] [(10, 10), (44, 56)] 4 [(10, .ptr 3 0)] [(0, srB L (nxA L p2)), (1, .rows 3 1 (((sq.map enN).set v2 (enN (sv + 1))))), (2, .rows 55 10 (out.map enE)), (3, .var 55 [tv cl, iv ((sv : Int) + 1), iv 0, iv ((tm : Int) + v1), tv (idT (nxV L p2 6)), tv [], tv [], iv 0, iv 0, iv 0])] (by kernel_rfl) (by kernel_rfl) ?_ ?_
   ·conv=>whnf
    repeat' (first
     | (refine And.intro ?_ ?_ <;> (conv=>whnf))
     | (refine AIn.mk' v2 rfl hv2 ?_; conv=>whnf)
     | (refine ARd.mapAt (enc := enT) (xs := cliT) hcl ?_; conv=>whnf)
     | (refine AIn.mk' v2 rfl (by rw [List.length_set, List.length_map, hsl]; exact hv2) ?_; conv=>whnf)
     | (refine ARd.set (by rw [List.length_map, hsl]; exact hv2) ?_; conv=>whnf)
     | (refine acallM [0] [] (by kernel_rfl) (nextA L p2 6 (by decide) (by decide) (by omega) hp2) rfl (by trivial) (by trivial) ?_; rintro _ _ _ ⟨rfl, rfl, rfl⟩; refine ⟨rfl, ?_⟩; conv=>whnf)
     | ((refine acall [] (by kernel_rfl) (hid) rfl ?_ ?_; (focus (trivial; done)); (conv=>whnf))))
    all_goals first
     | (refine arbD [(3, .lab 3)] [] ?_ ?_ ?_; (focus rfl); (focus trivial); (focus trivial); done)
     | (refine arbD [(3, .lab 4)] [] ?_ ?_ ?_; (focus rfl); (focus trivial); (focus trivial); done)
     | (refine arbD [(3, .lab 5)] [] ?_ ?_ ?_; (focus rfl); (focus trivial); (focus trivial); done)
   have hp3 := nxA_le (L := L) hp2
   generalize nxV L p2 6 = v3 at *
   generalize nxA L p2 = p3 at *
   conv=>whnf
   refine acallM [0] [] (by kernel_rfl) (nextA L p3 8 (by decide) (by decide) (by omega) hp3) rfl (by trivial) (by trivial) ?_
   rintro _ _ _ ⟨rfl, rfl, rfl⟩
   refine ⟨rfl, ?_⟩
   conv=>whnf
   have hv4 := nxV_lt L p3 8 (by decide)
   have hp4 := nxA_le (L := L) hp3
   generalize nxV L p3 8 = v4 at *
   generalize nxA L p3 = p4 at *
   rcases (by omega : v4 = 0 ∨ v4 = 1 ∨ v4 = 2 ∨ v4 = 3 ∨ 4 ≤ v4) with rfl | rfl | rfl | rfl | h4
   ·conv=>whnf
    obtain ⟨v5, p5, hv5, hp5, c5⟩ := nxC hL hp4 8 (by decide) (by decide)
    obtain ⟨v6, p6, hv6, hp6, c6⟩ := nxC hL hp5 10 (by decide) (by decide)
    obtain ⟨v7, p7, hv7, hp7, c7⟩ := nxC hL hp6 12 (by decide) (by decide)
    obtain ⟨v8, p8, hv8, hp8, c8⟩ := nxC hL hp7 5 (by decide) (by decide)
    obtain ⟨xn, hxn⟩ : ∃ xn, expT[v5 / 7]? = some xn := ⟨_, List.getElem?_eq_getElem (by have : expT.length = 4 := rfl; omega)⟩
    have hxe : xn = expT.getD (v5 / 7) [] := by rw [List.getD_eq_getElem?_getD, hxn, Option.getD_some]
    (refine adraw pln14 [0, 3] (by kernel_rfl) ?_; conv=>whnf)
    (refine acallF [] (by kernel_rfl) (expTA) ?_ ?_; (focus trivial))
    rintro _ _ _ ⟨rfl, rfl, rfl⟩
    conv=>whnf
    repeat' (first
     | (refine And.intro ?_ ?_ <;> (conv=>whnf))
     | (refine acallM [0] [] (by kernel_rfl) c5 rfl ?_ ?_ ?_; (focus (trivial; done)); (focus (trivial; done)); rintro _ _ _ ⟨rfl, rfl, rfl⟩; refine ⟨rfl, ?_⟩; conv=>whnf)
     | (refine acallM [0] [] (by kernel_rfl) c6 rfl ?_ ?_ ?_; (focus (trivial; done)); (focus (trivial; done)); rintro _ _ _ ⟨rfl, rfl, rfl⟩; refine ⟨rfl, ?_⟩; conv=>whnf)
     | (refine acallM [0] [] (by kernel_rfl) c7 rfl ?_ ?_ ?_; (focus (trivial; done)); (focus (trivial; done)); rintro _ _ _ ⟨rfl, rfl, rfl⟩; refine ⟨rfl, ?_⟩; conv=>whnf)
     | (refine acallM [0] [] (by kernel_rfl) c8 rfl ?_ ?_ ?_; (focus (trivial; done)); (focus (trivial; done)); rintro _ _ _ ⟨rfl, rfl, rfl⟩; refine ⟨rfl, ?_⟩; conv=>whnf)
     | (refine VReq.mk (by decide) ?_; conv=>whnf)
     | (refine AIn.mk' (v5 / 7) rfl (by rw [List.length_map]; have : expT.length = 4 := rfl; omega) ?_; conv=>whnf)
     | (refine ARd.mapAt hxn ?_; conv=>whnf)
     | (refine AAr.div v5 7 (by omega) ?_; conv=>whnf)
     | (refine AAr.div v7 11 (by omega) ?_; conv=>whnf)
     | (refine AAr.div v8 4 (by omega) ?_; conv=>whnf)
     | (refine AAr.to (y := ((1 + v6 % 9 % 2 : Nat) : Int)) ?_ ?_; (focus (rw [show (1 : Int) + ((v6 : Int).tmod 9).tmod 2 = ((1 + v6 % 9 % 2 : Nat) : Int) from rfl]; exact IntWalk.i64_in _ (by omega))); conv=>whnf)
     | (refine AAr.i64 ?_ ?_; (focus omega); conv=>whnf))
    refine VReq.mk (app_ok (by simp only [List.length_map, List.length_cons, List.length_nil]; omega) (by kernel_rfl)) ?_
    conv=>whnf
    exact aback ⟨out ++ [⟨cl, (sv : Int) + 1, 1, (tm : Int) + v1, idT v3, xn, [], 1 + ((v8 / 4 : Nat) : Int), ((1 + v6 % 9 % 2 : Nat) : Int) + ((v7 / 11 : Nat) : Int), 0⟩], p8, tm + v1, sq.set v2 (sv + 1), v2⟩ [(2, .lab 6)] [] rfl (by show 60 - (out ++ [_]).length < 60 - out.length; rw [List.length_append]; simp; omega) (hJ.next hlt hp8 (by omega) hv2 hsb1 rfl ⟨hcm, ⟨v3, hv3, rfl⟩, (by dsimp only; omega), (by dsimp only; omega), .inl ⟨rfl, ⟨v5 / 7, by omega, hxe⟩, rfl, (by dsimp only; omega), (by dsimp only; omega), rfl⟩⟩) ⟨(by trivial), ⟨rfl, rfl, List.map_set.symm⟩, ⟨rfl, rfl, enE_app out ⟨cl, (sv : Int) + 1, 1, (tm : Int) + v1, idT v3, xn, [], 1 + ((v8 / 4 : Nat) : Int), ((1 + v6 % 9 % 2 : Nat) : Int) + ((v7 / 11 : Nat) : Int), 0⟩⟩, trivial⟩ ⟨rfl, rfl, rfl, trivial⟩
   ·conv=>whnf
    obtain ⟨v5, p5, hv5, hp5, c5⟩ := nxC hL hp4 8 (by decide) (by decide)
    obtain ⟨v6, p6, hv6, hp6, c6⟩ := nxC hL hp5 10 (by decide) (by decide)
    obtain ⟨v7, p7, hv7, hp7, c7⟩ := nxC hL hp6 12 (by decide) (by decide)
    obtain ⟨v8, p8, hv8, hp8, c8⟩ := nxC hL hp7 5 (by decide) (by decide)
    obtain ⟨xn, hxn⟩ : ∃ xn, expT[v5 / 7]? = some xn := ⟨_, List.getElem?_eq_getElem (by have : expT.length = 4 := rfl; omega)⟩
    have hxe : xn = expT.getD (v5 / 7) [] := by rw [List.getD_eq_getElem?_getD, hxn, Option.getD_some]
    (refine adraw pln14 [0, 3] (by kernel_rfl) ?_; conv=>whnf)
    (refine acallF [] (by kernel_rfl) (expTA) ?_ ?_; (focus trivial))
    rintro _ _ _ ⟨rfl, rfl, rfl⟩
    conv=>whnf
    repeat' (first
     | (refine And.intro ?_ ?_ <;> (conv=>whnf))
     | (refine acallM [0] [] (by kernel_rfl) c5 rfl ?_ ?_ ?_; (focus (trivial; done)); (focus (trivial; done)); rintro _ _ _ ⟨rfl, rfl, rfl⟩; refine ⟨rfl, ?_⟩; conv=>whnf)
     | (refine acallM [0] [] (by kernel_rfl) c6 rfl ?_ ?_ ?_; (focus (trivial; done)); (focus (trivial; done)); rintro _ _ _ ⟨rfl, rfl, rfl⟩; refine ⟨rfl, ?_⟩; conv=>whnf)
     | (refine acallM [0] [] (by kernel_rfl) c7 rfl ?_ ?_ ?_; (focus (trivial; done)); (focus (trivial; done)); rintro _ _ _ ⟨rfl, rfl, rfl⟩; refine ⟨rfl, ?_⟩; conv=>whnf)
     | (refine acallM [0] [] (by kernel_rfl) c8 rfl ?_ ?_ ?_; (focus (trivial; done)); (focus (trivial; done)); rintro _ _ _ ⟨rfl, rfl, rfl⟩; refine ⟨rfl, ?_⟩; conv=>whnf)
     | (refine VReq.mk (by decide) ?_; conv=>whnf)
     | (refine AIn.mk' (v5 / 7) rfl (by rw [List.length_map]; have : expT.length = 4 := rfl; omega) ?_; conv=>whnf)
     | (refine ARd.mapAt hxn ?_; conv=>whnf)
     | (refine AAr.div v5 7 (by omega) ?_; conv=>whnf)
     | (refine AAr.div v7 11 (by omega) ?_; conv=>whnf)
     | (refine AAr.div v8 4 (by omega) ?_; conv=>whnf)
     | (refine AAr.to (y := ((1 + v6 % 9 % 2 : Nat) : Int)) ?_ ?_; (focus (rw [show (1 : Int) + ((v6 : Int).tmod 9).tmod 2 = ((1 + v6 % 9 % 2 : Nat) : Int) from rfl]; exact IntWalk.i64_in _ (by omega))); conv=>whnf)
     | (refine AAr.i64 ?_ ?_; (focus omega); conv=>whnf))
    refine VReq.mk (app_ok (by simp only [List.length_map, List.length_cons, List.length_nil]; omega) (by kernel_rfl)) ?_
    conv=>whnf
    exact aback ⟨out ++ [⟨cl, (sv : Int) + 1, 1, (tm : Int) + v1, idT v3, xn, [], 1 + ((v8 / 4 : Nat) : Int), ((1 + v6 % 9 % 2 : Nat) : Int) + ((v7 / 11 : Nat) : Int), 0⟩], p8, tm + v1, sq.set v2 (sv + 1), v2⟩ [(2, .lab 6)] [] rfl (by show 60 - (out ++ [_]).length < 60 - out.length; rw [List.length_append]; simp; omega) (hJ.next hlt hp8 (by omega) hv2 hsb1 rfl ⟨hcm, ⟨v3, hv3, rfl⟩, (by dsimp only; omega), (by dsimp only; omega), .inl ⟨rfl, ⟨v5 / 7, by omega, hxe⟩, rfl, (by dsimp only; omega), (by dsimp only; omega), rfl⟩⟩) ⟨(by trivial), ⟨rfl, rfl, List.map_set.symm⟩, ⟨rfl, rfl, enE_app out ⟨cl, (sv : Int) + 1, 1, (tm : Int) + v1, idT v3, xn, [], 1 + ((v8 / 4 : Nat) : Int), ((1 + v6 % 9 % 2 : Nat) : Int) + ((v7 / 11 : Nat) : Int), 0⟩⟩, trivial⟩ ⟨rfl, rfl, rfl, trivial⟩
   ·conv=>whnf
    obtain ⟨v5, p5, hv5, hp5, c5⟩ := nxC hL hp4 8 (by decide) (by decide)
    obtain ⟨v6, p6, hv6, hp6, c6⟩ := nxC hL hp5 10 (by decide) (by decide)
    obtain ⟨v7, p7, hv7, hp7, c7⟩ := nxC hL hp6 12 (by decide) (by decide)
    obtain ⟨v8, p8, hv8, hp8, c8⟩ := nxC hL hp7 5 (by decide) (by decide)
    obtain ⟨xn, hxn⟩ : ∃ xn, expT[v5 / 7]? = some xn := ⟨_, List.getElem?_eq_getElem (by have : expT.length = 4 := rfl; omega)⟩
    have hxe : xn = expT.getD (v5 / 7) [] := by rw [List.getD_eq_getElem?_getD, hxn, Option.getD_some]
    (refine adraw pln14 [0, 3] (by kernel_rfl) ?_; conv=>whnf)
    (refine acallF [] (by kernel_rfl) (expTA) ?_ ?_; (focus trivial))
    rintro _ _ _ ⟨rfl, rfl, rfl⟩
    conv=>whnf
    repeat' (first
     | (refine And.intro ?_ ?_ <;> (conv=>whnf))
     | (refine acallM [0] [] (by kernel_rfl) c5 rfl ?_ ?_ ?_; (focus (trivial; done)); (focus (trivial; done)); rintro _ _ _ ⟨rfl, rfl, rfl⟩; refine ⟨rfl, ?_⟩; conv=>whnf)
     | (refine acallM [0] [] (by kernel_rfl) c6 rfl ?_ ?_ ?_; (focus (trivial; done)); (focus (trivial; done)); rintro _ _ _ ⟨rfl, rfl, rfl⟩; refine ⟨rfl, ?_⟩; conv=>whnf)
     | (refine acallM [0] [] (by kernel_rfl) c7 rfl ?_ ?_ ?_; (focus (trivial; done)); (focus (trivial; done)); rintro _ _ _ ⟨rfl, rfl, rfl⟩; refine ⟨rfl, ?_⟩; conv=>whnf)
     | (refine acallM [0] [] (by kernel_rfl) c8 rfl ?_ ?_ ?_; (focus (trivial; done)); (focus (trivial; done)); rintro _ _ _ ⟨rfl, rfl, rfl⟩; refine ⟨rfl, ?_⟩; conv=>whnf)
     | (refine VReq.mk (by decide) ?_; conv=>whnf)
     | (refine AIn.mk' (v5 / 7) rfl (by rw [List.length_map]; have : expT.length = 4 := rfl; omega) ?_; conv=>whnf)
     | (refine ARd.mapAt hxn ?_; conv=>whnf)
     | (refine AAr.div v5 7 (by omega) ?_; conv=>whnf)
     | (refine AAr.div v7 11 (by omega) ?_; conv=>whnf)
     | (refine AAr.div v8 4 (by omega) ?_; conv=>whnf)
     | (refine AAr.to (y := ((1 + v6 % 9 % 2 : Nat) : Int)) ?_ ?_; (focus (rw [show (1 : Int) + ((v6 : Int).tmod 9).tmod 2 = ((1 + v6 % 9 % 2 : Nat) : Int) from rfl]; exact IntWalk.i64_in _ (by omega))); conv=>whnf)
     | (refine AAr.i64 ?_ ?_; (focus omega); conv=>whnf))
    refine VReq.mk (app_ok (by simp only [List.length_map, List.length_cons, List.length_nil]; omega) (by kernel_rfl)) ?_
    conv=>whnf
    exact aback ⟨out ++ [⟨cl, (sv : Int) + 1, 1, (tm : Int) + v1, idT v3, xn, [], 1 + ((v8 / 4 : Nat) : Int), ((1 + v6 % 9 % 2 : Nat) : Int) + ((v7 / 11 : Nat) : Int), 0⟩], p8, tm + v1, sq.set v2 (sv + 1), v2⟩ [(2, .lab 6)] [] rfl (by show 60 - (out ++ [_]).length < 60 - out.length; rw [List.length_append]; simp; omega) (hJ.next hlt hp8 (by omega) hv2 hsb1 rfl ⟨hcm, ⟨v3, hv3, rfl⟩, (by dsimp only; omega), (by dsimp only; omega), .inl ⟨rfl, ⟨v5 / 7, by omega, hxe⟩, rfl, (by dsimp only; omega), (by dsimp only; omega), rfl⟩⟩) ⟨(by trivial), ⟨rfl, rfl, List.map_set.symm⟩, ⟨rfl, rfl, enE_app out ⟨cl, (sv : Int) + 1, 1, (tm : Int) + v1, idT v3, xn, [], 1 + ((v8 / 4 : Nat) : Int), ((1 + v6 % 9 % 2 : Nat) : Int) + ((v7 / 11 : Nat) : Int), 0⟩⟩, trivial⟩ ⟨rfl, rfl, rfl, trivial⟩
   ·conv=>whnf
    obtain ⟨v5, p5, hv5, hp5, c5⟩ := nxC hL hp4 6 (by decide) (by decide)
    refine acallM [0] [] (by kernel_rfl) c5 rfl ?_ ?_ ?_; (focus (trivial; done)); (focus (trivial; done)); rintro _ _ _ ⟨rfl, rfl, rfl⟩; refine ⟨rfl, ?_⟩; conv=>whnf
    (refine adraw pln14 [] (by kernel_rfl) ?_; conv=>whnf)
    have hi5 : AFn Tryz.prog GS 37 [iv v5] 0 [] (Is (tv (idT v5))) := AFn.up (idTA _ (by omega)) GS
    have hi6 : AFn Tryz.prog GS 37 [iv ((v5 : Int) + 1)] 0 [] (Is (tv (idT (v5 + 1)))) := AFn.up (idTA (v5 + 1) (by omega)) GS
    (refine acall [] (by kernel_rfl) (hi5) rfl ?_ ?_; (focus (trivial; done)); (conv=>whnf))
    apply vif_split <;> intro h
    ·conv=>whnf
     refine AAr.i64 (by omega) ?_
     conv=>whnf
     (refine acall [] (by kernel_rfl) (hi6) rfl ?_ ?_; (focus (trivial; done)); (conv=>whnf))
     refine VReq.mk (app_ok (by simp only [List.length_map, List.length_cons, List.length_nil]; omega) (by kernel_rfl)) ?_
     conv=>whnf
     exact aback ⟨out ++ [⟨cl, (sv : Int) + 1, 3, (tm : Int) + v1, idT v3, [], idT (v5 + 1), 0, 0, 0⟩], p5, tm + v1, sq.set v2 (sv + 1), v2⟩ [(2, .lab 5)] [] rfl (by show 60 - (out ++ [_]).length < 60 - out.length; rw [List.length_append]; simp; omega) (hJ.next hlt hp5 (by omega) hv2 hsb1 rfl ⟨hcm, ⟨v3, hv3, rfl⟩, (by dsimp only; omega), (by dsimp only; omega), .inr (.inr ⟨rfl, rfl, ⟨v5 + 1, by omega, rfl⟩, idT_ne1 hv5 hv3 h, rfl, rfl, rfl⟩)⟩) ⟨(by trivial), ⟨rfl, rfl, List.map_set.symm⟩, ⟨rfl, rfl, enE_app out ⟨cl, (sv : Int) + 1, 3, (tm : Int) + v1, idT v3, [], idT (v5 + 1), 0, 0, 0⟩⟩, trivial⟩ ⟨rfl, rfl, rfl, trivial⟩
    ·conv=>whnf
     (refine acall [] (by kernel_rfl) (hi5) rfl ?_ ?_; (focus (trivial; done)); (conv=>whnf))
     refine VReq.mk (app_ok (by simp only [List.length_map, List.length_cons, List.length_nil]; omega) (by kernel_rfl)) ?_
     conv=>whnf
     exact aback ⟨out ++ [⟨cl, (sv : Int) + 1, 3, (tm : Int) + v1, idT v3, [], idT v5, 0, 0, 0⟩], p5, tm + v1, sq.set v2 (sv + 1), v2⟩ [(2, .lab 5)] [] rfl (by show 60 - (out ++ [_]).length < 60 - out.length; rw [List.length_append]; simp; omega) (hJ.next hlt hp5 (by omega) hv2 hsb1 rfl ⟨hcm, ⟨v3, hv3, rfl⟩, (by dsimp only; omega), (by dsimp only; omega), .inr (.inr ⟨rfl, rfl, ⟨v5, by omega, rfl⟩, idT_ne0 h, rfl, rfl, rfl⟩)⟩) ⟨(by trivial), ⟨rfl, rfl, List.map_set.symm⟩, ⟨rfl, rfl, enE_app out ⟨cl, (sv : Int) + 1, 3, (tm : Int) + v1, idT v3, [], idT v5, 0, 0, 0⟩⟩, trivial⟩ ⟨rfl, rfl, rfl, trivial⟩
   ·repeat' (refine vif_false (beq_eq_false_iff_ne.2 (by omega)) ?_; conv=>whnf)
    obtain ⟨v5, p5, hv5, hp5, c5⟩ := nxC hL hp4 3 (by decide) (by decide)
    obtain ⟨v6, p6, hv6, hp6, c6⟩ := nxC hL hp5 40 (by decide) (by decide)
    obtain ⟨xn, hxn⟩ : ∃ xn, namT[v5 / 2]? = some xn := ⟨_, List.getElem?_eq_getElem (by have : namT.length = 2 := rfl; omega)⟩
    have hxe : xn = namT.getD (v5 / 2) [] := by rw [List.getD_eq_getElem?_getD, hxn, Option.getD_some]
    (refine adraw pln14 [0, 3] (by kernel_rfl) ?_; conv=>whnf)
    (refine acallF [] (by kernel_rfl) (namTA) ?_ ?_; (focus trivial))
    rintro _ _ _ ⟨rfl, rfl, rfl⟩
    conv=>whnf
    repeat' (first
     | (refine And.intro ?_ ?_ <;> (conv=>whnf))
     | (refine acallM [0] [] (by kernel_rfl) c5 rfl ?_ ?_ ?_; (focus (trivial; done)); (focus (trivial; done)); rintro _ _ _ ⟨rfl, rfl, rfl⟩; refine ⟨rfl, ?_⟩; conv=>whnf)
     | (refine acallM [0] [] (by kernel_rfl) c6 rfl ?_ ?_ ?_; (focus (trivial; done)); (focus (trivial; done)); rintro _ _ _ ⟨rfl, rfl, rfl⟩; refine ⟨rfl, ?_⟩; conv=>whnf)
     | (refine VReq.mk (by decide) ?_; conv=>whnf)
     | (refine AIn.mk' (v5 / 2) rfl (by rw [List.length_map]; have : namT.length = 2 := rfl; omega) ?_; conv=>whnf)
     | (refine ARd.mapAt hxn ?_; conv=>whnf)
     | (refine AAr.div v5 2 (by omega) ?_; conv=>whnf)
     | (refine AAr.i64 ?_ ?_; (focus omega); conv=>whnf))
    refine VReq.mk (app_ok (by simp only [List.length_map, List.length_cons, List.length_nil]; omega) (by kernel_rfl)) ?_
    conv=>whnf
    exact aback ⟨out ++ [⟨cl, (sv : Int) + 1, 2, (tm : Int) + v1, idT v3, xn, [], 0, 0, (v6 : Int) - 4⟩], p6, tm + v1, sq.set v2 (sv + 1), v2⟩ [(2, .lab 6)] [] rfl (by show 60 - (out ++ [_]).length < 60 - out.length; rw [List.length_append]; simp; omega) (hJ.next hlt hp6 (by omega) hv2 hsb1 rfl ⟨hcm, ⟨v3, hv3, rfl⟩, (by dsimp only; omega), (by dsimp only; omega), .inr (.inl ⟨rfl, ⟨v5 / 2, by omega, hxe⟩, rfl, rfl, rfl, (by dsimp only; omega)⟩)⟩) ⟨(by trivial), ⟨rfl, rfl, List.map_set.symm⟩, ⟨rfl, rfl, enE_app out ⟨cl, (sv : Int) + 1, 2, (tm : Int) + v1, idT v3, xn, [], 0, 0, (v6 : Int) - 4⟩⟩, trivial⟩ ⟨rfl, rfl, rfl, trivial⟩
 ·conv=>whnf
  refine AAr.i64 (by dsimp only; omega) ?_
  conv=>whnf
  refine AIn.mk' v2 rfl (by rw [List.length_map, hsl]; exact hv2) ?_
  conv=>whnf
  refine ARd.mapAt hsv ?_
  conv=>whnf
  refine AAr.i64 (by omega) ?_
  conv=>whnf
  refine AIn.mk' v2 rfl (by rw [List.length_map, hsl]; exact hv2) ?_
  conv=>whnf
  refine ARd.mapAt hsv ?_
  conv=>whnf
  refine adrawC pln14 [0] [(10, 10), (44, 56)] 4 [(10, .ptr 3 0)] [(0, srB L (nxA L p2)), (1, .rows 3 1 (((sq.map enN).set v2 (enN (sv + 1))))), (2, .rows 55 10 (out.map enE)), (3, .var 55 [tv cl, iv ((sv : Int) + 1), iv 0, iv ((tm : Int) + v1), tv (idT (nxV L p2 6)), tv [], tv [], iv 0, iv 0, iv 0])] (by kernel_rfl) (by kernel_rfl) ?_ ?_
  ·conv=>whnf
   repeat' (first
    | (refine And.intro ?_ ?_ <;> (conv=>whnf))
    | (refine AIn.mk' v2 rfl hv2 ?_; conv=>whnf)
    | (refine ARd.mapAt (enc := enT) (xs := cliT) hcl ?_; conv=>whnf)
    | (refine AIn.mk' v2 rfl (by rw [List.length_set, List.length_map, hsl]; exact hv2) ?_; conv=>whnf)
    | (refine ARd.set (by rw [List.length_map, hsl]; exact hv2) ?_; conv=>whnf)
    | (refine acallM [0] [] (by kernel_rfl) (nextA L p2 6 (by decide) (by decide) (by omega) hp2) rfl (by trivial) (by trivial) ?_; rintro _ _ _ ⟨rfl, rfl, rfl⟩; refine ⟨rfl, ?_⟩; conv=>whnf)
    | ((refine acall [] (by kernel_rfl) (hid) rfl ?_ ?_; (focus (trivial; done)); (conv=>whnf))))
   all_goals first
    | (refine arbD [(3, .lab 3)] [] ?_ ?_ ?_; (focus rfl); (focus trivial); (focus trivial); done)
    | (refine arbD [(3, .lab 4)] [] ?_ ?_ ?_; (focus rfl); (focus trivial); (focus trivial); done)
    | (refine arbD [(3, .lab 5)] [] ?_ ?_ ?_; (focus rfl); (focus trivial); (focus trivial); done)
  have hp3 := nxA_le (L := L) hp2
  generalize nxV L p2 6 = v3 at *
  generalize nxA L p2 = p3 at *
  conv=>whnf
  refine acallM [0] [] (by kernel_rfl) (nextA L p3 8 (by decide) (by decide) (by omega) hp3) rfl (by trivial) (by trivial) ?_
  rintro _ _ _ ⟨rfl, rfl, rfl⟩
  refine ⟨rfl, ?_⟩
  conv=>whnf
  have hv4 := nxV_lt L p3 8 (by decide)
  have hp4 := nxA_le (L := L) hp3
  generalize nxV L p3 8 = v4 at *
  generalize nxA L p3 = p4 at *
  rcases (by omega : v4 = 0 ∨ v4 = 1 ∨ v4 = 2 ∨ v4 = 3 ∨ 4 ≤ v4) with rfl | rfl | rfl | rfl | h4
  ·conv=>whnf
   obtain ⟨v5, p5, hv5, hp5, c5⟩ := nxC hL hp4 8 (by decide) (by decide)
   obtain ⟨v6, p6, hv6, hp6, c6⟩ := nxC hL hp5 10 (by decide) (by decide)
   obtain ⟨v7, p7, hv7, hp7, c7⟩ := nxC hL hp6 12 (by decide) (by decide)
   obtain ⟨v8, p8, hv8, hp8, c8⟩ := nxC hL hp7 5 (by decide) (by decide)
   obtain ⟨xn, hxn⟩ : ∃ xn, expT[v5 / 7]? = some xn := ⟨_, List.getElem?_eq_getElem (by have : expT.length = 4 := rfl; omega)⟩
   have hxe : xn = expT.getD (v5 / 7) [] := by rw [List.getD_eq_getElem?_getD, hxn, Option.getD_some]
   (refine adraw pln14 [0, 3] (by kernel_rfl) ?_; conv=>whnf)
   (refine acallF [] (by kernel_rfl) (expTA) ?_ ?_; (focus trivial))
   rintro _ _ _ ⟨rfl, rfl, rfl⟩
   conv=>whnf
   repeat' (first
    | (refine And.intro ?_ ?_ <;> (conv=>whnf))
    | (refine acallM [0] [] (by kernel_rfl) c5 rfl ?_ ?_ ?_; (focus (trivial; done)); (focus (trivial; done)); rintro _ _ _ ⟨rfl, rfl, rfl⟩; refine ⟨rfl, ?_⟩; conv=>whnf)
    | (refine acallM [0] [] (by kernel_rfl) c6 rfl ?_ ?_ ?_; (focus (trivial; done)); (focus (trivial; done)); rintro _ _ _ ⟨rfl, rfl, rfl⟩; refine ⟨rfl, ?_⟩; conv=>whnf)
    | (refine acallM [0] [] (by kernel_rfl) c7 rfl ?_ ?_ ?_; (focus (trivial; done)); (focus (trivial; done)); rintro _ _ _ ⟨rfl, rfl, rfl⟩; refine ⟨rfl, ?_⟩; conv=>whnf)
    | (refine acallM [0] [] (by kernel_rfl) c8 rfl ?_ ?_ ?_; (focus (trivial; done)); (focus (trivial; done)); rintro _ _ _ ⟨rfl, rfl, rfl⟩; refine ⟨rfl, ?_⟩; conv=>whnf)
    | (refine VReq.mk (by decide) ?_; conv=>whnf)
    | (refine AIn.mk' (v5 / 7) rfl (by rw [List.length_map]; have : expT.length = 4 := rfl; omega) ?_; conv=>whnf)
    | (refine ARd.mapAt hxn ?_; conv=>whnf)
    | (refine AAr.div v5 7 (by omega) ?_; conv=>whnf)
    | (refine AAr.div v7 11 (by omega) ?_; conv=>whnf)
    | (refine AAr.div v8 4 (by omega) ?_; conv=>whnf)
    | (refine AAr.to (y := ((1 + v6 % 9 % 2 : Nat) : Int)) ?_ ?_; (focus (rw [show (1 : Int) + ((v6 : Int).tmod 9).tmod 2 = ((1 + v6 % 9 % 2 : Nat) : Int) from rfl]; exact IntWalk.i64_in _ (by omega))); conv=>whnf)
    | (refine AAr.i64 ?_ ?_; (focus omega); conv=>whnf))
   refine VReq.mk (app_ok (by simp only [List.length_map, List.length_cons, List.length_nil]; omega) (by kernel_rfl)) ?_
   conv=>whnf
   exact aback ⟨out ++ [⟨cl, (sv : Int) + 1, 1, (tm : Int) + v1, idT v3, xn, [], 1 + ((v8 / 4 : Nat) : Int), ((1 + v6 % 9 % 2 : Nat) : Int) + ((v7 / 11 : Nat) : Int), 0⟩], p8, tm + v1, sq.set v2 (sv + 1), v2⟩ [(2, .lab 6)] [] rfl (by show 60 - (out ++ [_]).length < 60 - out.length; rw [List.length_append]; simp; omega) (hJ.next hlt hp8 (by omega) hv2 hsb1 rfl ⟨hcm, ⟨v3, hv3, rfl⟩, (by dsimp only; omega), (by dsimp only; omega), .inl ⟨rfl, ⟨v5 / 7, by omega, hxe⟩, rfl, (by dsimp only; omega), (by dsimp only; omega), rfl⟩⟩) ⟨(by trivial), ⟨rfl, rfl, List.map_set.symm⟩, ⟨rfl, rfl, enE_app out ⟨cl, (sv : Int) + 1, 1, (tm : Int) + v1, idT v3, xn, [], 1 + ((v8 / 4 : Nat) : Int), ((1 + v6 % 9 % 2 : Nat) : Int) + ((v7 / 11 : Nat) : Int), 0⟩⟩, trivial⟩ ⟨rfl, rfl, rfl, trivial⟩
  ·conv=>whnf
   obtain ⟨v5, p5, hv5, hp5, c5⟩ := nxC hL hp4 8 (by decide) (by decide)
   obtain ⟨v6, p6, hv6, hp6, c6⟩ := nxC hL hp5 10 (by decide) (by decide)
   obtain ⟨v7, p7, hv7, hp7, c7⟩ := nxC hL hp6 12 (by decide) (by decide)
   obtain ⟨v8, p8, hv8, hp8, c8⟩ := nxC hL hp7 5 (by decide) (by decide)
   obtain ⟨xn, hxn⟩ : ∃ xn, expT[v5 / 7]? = some xn := ⟨_, List.getElem?_eq_getElem (by have : expT.length = 4 := rfl; omega)⟩
   have hxe : xn = expT.getD (v5 / 7) [] := by rw [List.getD_eq_getElem?_getD, hxn, Option.getD_some]
   (refine adraw pln14 [0, 3] (by kernel_rfl) ?_; conv=>whnf)
   (refine acallF [] (by kernel_rfl) (expTA) ?_ ?_; (focus trivial))
   rintro _ _ _ ⟨rfl, rfl, rfl⟩
   conv=>whnf
   repeat' (first
    | (refine And.intro ?_ ?_ <;> (conv=>whnf))
    | (refine acallM [0] [] (by kernel_rfl) c5 rfl ?_ ?_ ?_; (focus (trivial; done)); (focus (trivial; done)); rintro _ _ _ ⟨rfl, rfl, rfl⟩; refine ⟨rfl, ?_⟩; conv=>whnf)
    | (refine acallM [0] [] (by kernel_rfl) c6 rfl ?_ ?_ ?_; (focus (trivial; done)); (focus (trivial; done)); rintro _ _ _ ⟨rfl, rfl, rfl⟩; refine ⟨rfl, ?_⟩; conv=>whnf)
    | (refine acallM [0] [] (by kernel_rfl) c7 rfl ?_ ?_ ?_; (focus (trivial; done)); (focus (trivial; done)); rintro _ _ _ ⟨rfl, rfl, rfl⟩; refine ⟨rfl, ?_⟩; conv=>whnf)
    | (refine acallM [0] [] (by kernel_rfl) c8 rfl ?_ ?_ ?_; (focus (trivial; done)); (focus (trivial; done)); rintro _ _ _ ⟨rfl, rfl, rfl⟩; refine ⟨rfl, ?_⟩; conv=>whnf)
    | (refine VReq.mk (by decide) ?_; conv=>whnf)
    | (refine AIn.mk' (v5 / 7) rfl (by rw [List.length_map]; have : expT.length = 4 := rfl; omega) ?_; conv=>whnf)
    | (refine ARd.mapAt hxn ?_; conv=>whnf)
    | (refine AAr.div v5 7 (by omega) ?_; conv=>whnf)
    | (refine AAr.div v7 11 (by omega) ?_; conv=>whnf)
    | (refine AAr.div v8 4 (by omega) ?_; conv=>whnf)
    | (refine AAr.to (y := ((1 + v6 % 9 % 2 : Nat) : Int)) ?_ ?_; (focus (rw [show (1 : Int) + ((v6 : Int).tmod 9).tmod 2 = ((1 + v6 % 9 % 2 : Nat) : Int) from rfl]; exact IntWalk.i64_in _ (by omega))); conv=>whnf)
    | (refine AAr.i64 ?_ ?_; (focus omega); conv=>whnf))
   refine VReq.mk (app_ok (by simp only [List.length_map, List.length_cons, List.length_nil]; omega) (by kernel_rfl)) ?_
   conv=>whnf
   exact aback ⟨out ++ [⟨cl, (sv : Int) + 1, 1, (tm : Int) + v1, idT v3, xn, [], 1 + ((v8 / 4 : Nat) : Int), ((1 + v6 % 9 % 2 : Nat) : Int) + ((v7 / 11 : Nat) : Int), 0⟩], p8, tm + v1, sq.set v2 (sv + 1), v2⟩ [(2, .lab 6)] [] rfl (by show 60 - (out ++ [_]).length < 60 - out.length; rw [List.length_append]; simp; omega) (hJ.next hlt hp8 (by omega) hv2 hsb1 rfl ⟨hcm, ⟨v3, hv3, rfl⟩, (by dsimp only; omega), (by dsimp only; omega), .inl ⟨rfl, ⟨v5 / 7, by omega, hxe⟩, rfl, (by dsimp only; omega), (by dsimp only; omega), rfl⟩⟩) ⟨(by trivial), ⟨rfl, rfl, List.map_set.symm⟩, ⟨rfl, rfl, enE_app out ⟨cl, (sv : Int) + 1, 1, (tm : Int) + v1, idT v3, xn, [], 1 + ((v8 / 4 : Nat) : Int), ((1 + v6 % 9 % 2 : Nat) : Int) + ((v7 / 11 : Nat) : Int), 0⟩⟩, trivial⟩ ⟨rfl, rfl, rfl, trivial⟩
  ·conv=>whnf
   obtain ⟨v5, p5, hv5, hp5, c5⟩ := nxC hL hp4 8 (by decide) (by decide)
   obtain ⟨v6, p6, hv6, hp6, c6⟩ := nxC hL hp5 10 (by decide) (by decide)
   obtain ⟨v7, p7, hv7, hp7, c7⟩ := nxC hL hp6 12 (by decide) (by decide)
   obtain ⟨v8, p8, hv8, hp8, c8⟩ := nxC hL hp7 5 (by decide) (by decide)
   obtain ⟨xn, hxn⟩ : ∃ xn, expT[v5 / 7]? = some xn := ⟨_, List.getElem?_eq_getElem (by have : expT.length = 4 := rfl; omega)⟩
   have hxe : xn = expT.getD (v5 / 7) [] := by rw [List.getD_eq_getElem?_getD, hxn, Option.getD_some]
   (refine adraw pln14 [0, 3] (by kernel_rfl) ?_; conv=>whnf)
   (refine acallF [] (by kernel_rfl) (expTA) ?_ ?_; (focus trivial))
   rintro _ _ _ ⟨rfl, rfl, rfl⟩
   conv=>whnf
   repeat' (first
    | (refine And.intro ?_ ?_ <;> (conv=>whnf))
    | (refine acallM [0] [] (by kernel_rfl) c5 rfl ?_ ?_ ?_; (focus (trivial; done)); (focus (trivial; done)); rintro _ _ _ ⟨rfl, rfl, rfl⟩; refine ⟨rfl, ?_⟩; conv=>whnf)
    | (refine acallM [0] [] (by kernel_rfl) c6 rfl ?_ ?_ ?_; (focus (trivial; done)); (focus (trivial; done)); rintro _ _ _ ⟨rfl, rfl, rfl⟩; refine ⟨rfl, ?_⟩; conv=>whnf)
    | (refine acallM [0] [] (by kernel_rfl) c7 rfl ?_ ?_ ?_; (focus (trivial; done)); (focus (trivial; done)); rintro _ _ _ ⟨rfl, rfl, rfl⟩; refine ⟨rfl, ?_⟩; conv=>whnf)
    | (refine acallM [0] [] (by kernel_rfl) c8 rfl ?_ ?_ ?_; (focus (trivial; done)); (focus (trivial; done)); rintro _ _ _ ⟨rfl, rfl, rfl⟩; refine ⟨rfl, ?_⟩; conv=>whnf)
    | (refine VReq.mk (by decide) ?_; conv=>whnf)
    | (refine AIn.mk' (v5 / 7) rfl (by rw [List.length_map]; have : expT.length = 4 := rfl; omega) ?_; conv=>whnf)
    | (refine ARd.mapAt hxn ?_; conv=>whnf)
    | (refine AAr.div v5 7 (by omega) ?_; conv=>whnf)
    | (refine AAr.div v7 11 (by omega) ?_; conv=>whnf)
    | (refine AAr.div v8 4 (by omega) ?_; conv=>whnf)
    | (refine AAr.to (y := ((1 + v6 % 9 % 2 : Nat) : Int)) ?_ ?_; (focus (rw [show (1 : Int) + ((v6 : Int).tmod 9).tmod 2 = ((1 + v6 % 9 % 2 : Nat) : Int) from rfl]; exact IntWalk.i64_in _ (by omega))); conv=>whnf)
    | (refine AAr.i64 ?_ ?_; (focus omega); conv=>whnf))
   refine VReq.mk (app_ok (by simp only [List.length_map, List.length_cons, List.length_nil]; omega) (by kernel_rfl)) ?_
   conv=>whnf
   exact aback ⟨out ++ [⟨cl, (sv : Int) + 1, 1, (tm : Int) + v1, idT v3, xn, [], 1 + ((v8 / 4 : Nat) : Int), ((1 + v6 % 9 % 2 : Nat) : Int) + ((v7 / 11 : Nat) : Int), 0⟩], p8, tm + v1, sq.set v2 (sv + 1), v2⟩ [(2, .lab 6)] [] rfl (by show 60 - (out ++ [_]).length < 60 - out.length; rw [List.length_append]; simp; omega) (hJ.next hlt hp8 (by omega) hv2 hsb1 rfl ⟨hcm, ⟨v3, hv3, rfl⟩, (by dsimp only; omega), (by dsimp only; omega), .inl ⟨rfl, ⟨v5 / 7, by omega, hxe⟩, rfl, (by dsimp only; omega), (by dsimp only; omega), rfl⟩⟩) ⟨(by trivial), ⟨rfl, rfl, List.map_set.symm⟩, ⟨rfl, rfl, enE_app out ⟨cl, (sv : Int) + 1, 1, (tm : Int) + v1, idT v3, xn, [], 1 + ((v8 / 4 : Nat) : Int), ((1 + v6 % 9 % 2 : Nat) : Int) + ((v7 / 11 : Nat) : Int), 0⟩⟩, trivial⟩ ⟨rfl, rfl, rfl, trivial⟩
  ·conv=>whnf
   obtain ⟨v5, p5, hv5, hp5, c5⟩ := nxC hL hp4 6 (by decide) (by decide)
   refine acallM [0] [] (by kernel_rfl) c5 rfl ?_ ?_ ?_; (focus (trivial; done)); (focus (trivial; done)); rintro _ _ _ ⟨rfl, rfl, rfl⟩; refine ⟨rfl, ?_⟩; conv=>whnf
   (refine adraw pln14 [] (by kernel_rfl) ?_; conv=>whnf)
   have hi5 : AFn Tryz.prog GS 37 [iv v5] 0 [] (Is (tv (idT v5))) := AFn.up (idTA _ (by omega)) GS
   have hi6 : AFn Tryz.prog GS 37 [iv ((v5 : Int) + 1)] 0 [] (Is (tv (idT (v5 + 1)))) := AFn.up (idTA (v5 + 1) (by omega)) GS
   (refine acall [] (by kernel_rfl) (hi5) rfl ?_ ?_; (focus (trivial; done)); (conv=>whnf))
   apply vif_split <;> intro h
   ·conv=>whnf
    refine AAr.i64 (by omega) ?_
    conv=>whnf
    (refine acall [] (by kernel_rfl) (hi6) rfl ?_ ?_; (focus (trivial; done)); (conv=>whnf))
    refine VReq.mk (app_ok (by simp only [List.length_map, List.length_cons, List.length_nil]; omega) (by kernel_rfl)) ?_
    conv=>whnf
    exact aback ⟨out ++ [⟨cl, (sv : Int) + 1, 3, (tm : Int) + v1, idT v3, [], idT (v5 + 1), 0, 0, 0⟩], p5, tm + v1, sq.set v2 (sv + 1), v2⟩ [(2, .lab 5)] [] rfl (by show 60 - (out ++ [_]).length < 60 - out.length; rw [List.length_append]; simp; omega) (hJ.next hlt hp5 (by omega) hv2 hsb1 rfl ⟨hcm, ⟨v3, hv3, rfl⟩, (by dsimp only; omega), (by dsimp only; omega), .inr (.inr ⟨rfl, rfl, ⟨v5 + 1, by omega, rfl⟩, idT_ne1 hv5 hv3 h, rfl, rfl, rfl⟩)⟩) ⟨(by trivial), ⟨rfl, rfl, List.map_set.symm⟩, ⟨rfl, rfl, enE_app out ⟨cl, (sv : Int) + 1, 3, (tm : Int) + v1, idT v3, [], idT (v5 + 1), 0, 0, 0⟩⟩, trivial⟩ ⟨rfl, rfl, rfl, trivial⟩
   ·conv=>whnf
    (refine acall [] (by kernel_rfl) (hi5) rfl ?_ ?_; (focus (trivial; done)); (conv=>whnf))
    refine VReq.mk (app_ok (by simp only [List.length_map, List.length_cons, List.length_nil]; omega) (by kernel_rfl)) ?_
    conv=>whnf
    exact aback ⟨out ++ [⟨cl, (sv : Int) + 1, 3, (tm : Int) + v1, idT v3, [], idT v5, 0, 0, 0⟩], p5, tm + v1, sq.set v2 (sv + 1), v2⟩ [(2, .lab 5)] [] rfl (by show 60 - (out ++ [_]).length < 60 - out.length; rw [List.length_append]; simp; omega) (hJ.next hlt hp5 (by omega) hv2 hsb1 rfl ⟨hcm, ⟨v3, hv3, rfl⟩, (by dsimp only; omega), (by dsimp only; omega), .inr (.inr ⟨rfl, rfl, ⟨v5, by omega, rfl⟩, idT_ne0 h, rfl, rfl, rfl⟩)⟩) ⟨(by trivial), ⟨rfl, rfl, List.map_set.symm⟩, ⟨rfl, rfl, enE_app out ⟨cl, (sv : Int) + 1, 3, (tm : Int) + v1, idT v3, [], idT v5, 0, 0, 0⟩⟩, trivial⟩ ⟨rfl, rfl, rfl, trivial⟩
  ·repeat' (refine vif_false (beq_eq_false_iff_ne.2 (by omega)) ?_; conv=>whnf)
   obtain ⟨v5, p5, hv5, hp5, c5⟩ := nxC hL hp4 3 (by decide) (by decide)
   obtain ⟨v6, p6, hv6, hp6, c6⟩ := nxC hL hp5 40 (by decide) (by decide)
   obtain ⟨xn, hxn⟩ : ∃ xn, namT[v5 / 2]? = some xn := ⟨_, List.getElem?_eq_getElem (by have : namT.length = 2 := rfl; omega)⟩
   have hxe : xn = namT.getD (v5 / 2) [] := by rw [List.getD_eq_getElem?_getD, hxn, Option.getD_some]
   (refine adraw pln14 [0, 3] (by kernel_rfl) ?_; conv=>whnf)
   (refine acallF [] (by kernel_rfl) (namTA) ?_ ?_; (focus trivial))
   rintro _ _ _ ⟨rfl, rfl, rfl⟩
   conv=>whnf
   repeat' (first
    | (refine And.intro ?_ ?_ <;> (conv=>whnf))
    | (refine acallM [0] [] (by kernel_rfl) c5 rfl ?_ ?_ ?_; (focus (trivial; done)); (focus (trivial; done)); rintro _ _ _ ⟨rfl, rfl, rfl⟩; refine ⟨rfl, ?_⟩; conv=>whnf)
    | (refine acallM [0] [] (by kernel_rfl) c6 rfl ?_ ?_ ?_; (focus (trivial; done)); (focus (trivial; done)); rintro _ _ _ ⟨rfl, rfl, rfl⟩; refine ⟨rfl, ?_⟩; conv=>whnf)
    | (refine VReq.mk (by decide) ?_; conv=>whnf)
    | (refine AIn.mk' (v5 / 2) rfl (by rw [List.length_map]; have : namT.length = 2 := rfl; omega) ?_; conv=>whnf)
    | (refine ARd.mapAt hxn ?_; conv=>whnf)
    | (refine AAr.div v5 2 (by omega) ?_; conv=>whnf)
    | (refine AAr.i64 ?_ ?_; (focus omega); conv=>whnf))
   refine VReq.mk (app_ok (by simp only [List.length_map, List.length_cons, List.length_nil]; omega) (by kernel_rfl)) ?_
   conv=>whnf
   exact aback ⟨out ++ [⟨cl, (sv : Int) + 1, 2, (tm : Int) + v1, idT v3, xn, [], 0, 0, (v6 : Int) - 4⟩], p6, tm + v1, sq.set v2 (sv + 1), v2⟩ [(2, .lab 6)] [] rfl (by show 60 - (out ++ [_]).length < 60 - out.length; rw [List.length_append]; simp; omega) (hJ.next hlt hp6 (by omega) hv2 hsb1 rfl ⟨hcm, ⟨v3, hv3, rfl⟩, (by dsimp only; omega), (by dsimp only; omega), .inr (.inl ⟨rfl, ⟨v5 / 2, by omega, hxe⟩, rfl, rfl, rfl, (by dsimp only; omega)⟩)⟩) ⟨(by trivial), ⟨rfl, rfl, List.map_set.symm⟩, ⟨rfl, rfl, enE_app out ⟨cl, (sv : Int) + 1, 2, (tm : Int) + v1, idT v3, xn, [], 0, 0, (v6 : Int) - 4⟩⟩, trivial⟩ ⟨rfl, rfl, rfl, trivial⟩
end
section
open Go.Proofs.YtgfgndaoocfpdaaGreatDoor.Ky Go.Proofs.YtgfgndaoocfpdaaGreatDoor.Id
theorem EvsP.bnd {l : List Ev} (h : EvsP l) : EvB l :=
 ⟨by have := h.len; omega, fun e he => by have := (h.all e he).time; omega, fun e he => by
  rcases (h.all e he).kinds with ⟨_, _, _, _, _, hv⟩ | ⟨_, _, _, _, _, hv⟩ | ⟨_, _, _, _, _, _, hv⟩
  ·omega
  ·omega
  ·omega⟩
end
section
open Go.Proofs.YtgfgndaoocfpdaaGreatDoor.Ky Go.Proofs.YtgfgndaoocfpdaaGreatDoor.Id
section
variable {G : Glob}
theorem links2A (l : List Ev) (hl : l.length ≤ 100000) : AFn Tryz.prog G 48 [el l] 0 [] (Is (lksA (lksE l))) := by
 refine afn_of Tryz.func48 rfl mixed (by kernel_rfl) ?_
 conv=>whnf
 refine aloop ws48_1 1 [3, 4] (fun i : Nat => [(3, .own 0), (4, iv i)]) (fun i => [(0, .rows 135 3 ((lksE (l.take i)).map lkF))]) (fun i => i ≤ l.length) (fun i => l.length - i) [(0, .nil)] [] 0 (by kernel_rfl) (fun _ => rfl) rfl (Nat.zero_le _) ⟨rfl, trivial⟩ ⟨trivial, rfl, trivial⟩ ?_
 intro i hi
 have hol : (lksE (l.take i)).length ≤ i := by
  unfold lksE
  have := ofK_le 3 (l.take i)
  rw [List.length_take] at this
  rw [List.length_map]; omega
 conv=>whnf
 apply vif_split <;> intro h
 ·have hlt : i < l.length := by simp at h; omega
  have hsn := ofK_take (k := 3) hlt
  have hg := List.getElem?_eq_getElem hlt
  generalize l[i] = e at *
  conv=>whnf
  refine AIn.mk' i rfl (lmZ hlt) ?_
  conv=>whnf
  refine ARd.mapAt hg ?_
  conv=>whnf
  refine vif_split (fun h1 => ?_) (fun h1 => ?_)
  ·rw [if_pos (by simpa using h1)] at hsn
   conv=>whnf
   (refine adraw pln48 [] (by kernel_rfl) ?_; conv=>whnf)
   repeat' (first
    | (refine And.intro ?_ ?_ <;> (conv=>whnf))
    | (refine AIn.mk' i rfl (lmZ hlt) ?_; conv=>whnf)
    | (refine ARd.mapAt hg ?_; conv=>whnf))
   refine VReq.mk (app_ok (by simp only [List.length_map, List.length_cons, List.length_nil]; omega) (by kernel_rfl)) ?_
   conv=>whnf
   refine AAr.i64 (by omega) ?_
   conv=>whnf
   refine aback (i + 1) [(0, .lab 2)] [] rfl (by show l.length - (i + 1) < l.length - i; omega) hlt ⟨⟨rfl, rfl, ?_⟩, trivial⟩ (by trivial)
   show _ = (lksE (l.take (i + 1))).map lkF
   unfold lksE
   rw [hsn, List.map_append, List.map_append]
   rfl
  ·rw [if_neg (by simpa using h1)] at hsn
   conv=>whnf
   refine AAr.i64 (by omega) ?_
   conv=>whnf
   refine aback (i + 1) [(0, .lab 0)] [] rfl (by show l.length - (i + 1) < l.length - i; omega) hlt ⟨⟨rfl, rfl, ?_⟩, trivial⟩ (by trivial)
   show _ = (lksE (l.take (i + 1))).map lkF
   unfold lksE
   rw [hsn]
 ·have hie : i = l.length := by simp at h; omega
  subst hie
  rw [List.take_length]
  conv=>whnf
  exact aret [0] (by trivial)
theorem lk_src {n : Nat} {σ : Nat → Ax.Loc} {F : Nat → Prop} {w : World} {l : List Lk} {v : Value} (h : ARep n σ F w (lksA l) v) (hF : ∀ b, F b → b < w.heap.size) :
  ∃ oa cap, v = .slice oa l.length cap ∧ l.length ≤ cap ∧ (oa = none → cap = 0) ∧ Row w oa (recs lkc l) := flat_src (sz := 3) (enc := lkF) (c := lkc) (fun _ => rfl) h hF
theorem same2A (ls : List Lk) (x y : ByteArray) (h : ls.length ≤ 1000000) : AFn Tryz.prog G 50 [lksA ls, sv x, sv y] 0 [] (Is (bv (decide (rt ls x = rt ls y)))) :=
 afn_flat fun w σ F vs hG hF r => by
  match vs, r with
  | [v, u, z], ⟨r1, r2, r3, _⟩ =>
  obtain ⟨oa, c, rfl, _, _, hr⟩ := lk_src r1 hF
  rw [r2.v_eq, r3.v_eq]
  exact same2_ok oa c ls x y w hr h
def before (t : Int) (xs : List Ex) : Prop := ∀ x ∈ xs, x.time ≤ t
theorem owI_neg {ls : List Lk} {xs : List Ex} {id : By} {t : Int} (hb : before t xs) : owI ls xs id t < 0 ↔ ∀ x ∈ xs, ¬ rtA ls t x.id = rtA ls t id := by
 unfold owI
 cases h : owO ls xs id t with
 | some i =>
  obtain ⟨hi, hp⟩ := owO_lt h
  refine ⟨fun h => absurd h (by show ¬ (i : Int) < 0; omega), fun h => ?_⟩
  unfold owP at hp
  simp only [Bool.and_eq_true, decide_eq_true_eq] at hp
  exact absurd hp.2 (h _ (List.getElem_mem hi))
 | none =>
  refine ⟨fun _ x hx e => ?_, fun _ => by show (-1 : Int) < 0; decide⟩
  unfold owO at h
  rw [List.findIdx?_eq_none_iff] at h
  have := h x hx
  unfold owP at this
  rw [decide_eq_true (hb x hx), decide_eq_true e] at this
  cases this
end
end
section
open Go.Proofs.YtgfgndaoocfpdaaGreatDoor.Ky Go.Proofs.YtgfgndaoocfpdaaGreatDoor.Id
theorem fstX_from (ls : List Lk) (name : By) (es : List Ev) : ∀ x ∈ fstX ls name es, ∃ e ∈ es, x = exE e := by
 have : ∀ (es : List Ev) (o : List Ex), ∀ x ∈ es.foldl (fstN ls name) o, x ∈ o ∨ ∃ e ∈ es, x = exE e := by
  intro es
  induction es with
  | nil => intro o x hx; exact .inl hx
  | cons e r ih =>
   intro o x hx
   rw [List.foldl_cons] at hx
   rcases ih _ x hx with h | ⟨e', h1, h2⟩
   ·unfold fstN at h
    split at h
    ·rcases List.mem_append.1 h with h | h
     ·exact .inl h
     ·exact .inr ⟨e, List.mem_cons_self, List.mem_singleton.1 h⟩
    ·exact .inl h
   ·exact .inr ⟨e', List.mem_cons_of_mem _ h1, h2⟩
 intro x hx
 rcases this es [] x hx with h | h
 ·cases h
 ·exact h
def noneB (ls : List Lk) (t : Int) (id : By) (o : List Ex) : Bool := o.all fun x => !decide (rtA ls t x.id = rtA ls t id)
theorem noneB_take {ls : List Lk} {t : Int} {id : By} {o : List Ex} {k : Nat} (h : k < o.length) : noneB ls t id (o.take (k + 1)) = (noneB ls t id (o.take k) && !decide (rtA ls t o[k].id = rtA ls t id)) := by
 unfold noneB
 rw [List.take_succ_eq_append_getElem h, List.all_append]
 simp
section
variable {G : Glob}
theorem first2A (l : List Ev) (name : By) (hl : l.length ≤ 50000) (hasc : l.Pairwise fun a b => a.time ≤ b.time) : AFn Tryz.prog G 22 [el l, tv name] 0 [] (Is (exL (fstS l name))) := by
 have hls : (lksE l).length ≤ 50000 := by unfold lksE; rw [List.length_map]; have := ofK_le 3 l; omega
 refine afn_of Tryz.func22 rfl mixed (by kernel_rfl) ?_
 conv=>whnf
 (refine acallF [] (by kernel_rfl) (links2A l (by omega)) ?_ ?_; (focus trivial))
 rintro _ _ _ ⟨rfl, rfl, rfl⟩
 unfold fstS
 generalize lksE l = ls at *
 conv=>whnf
 refine aloop ws22_1 1 [6, 7] (fun i : Nat => [(6, .own 0), (7, iv i)]) (fun i => [(0, .rows 60 6 ((fstX ls name (ofK 1 (l.take i))).map exF))]) (fun i => i ≤ l.length) (fun i => l.length - i) [(0, .nil)] [] 0 (by kernel_rfl) (fun _ => rfl) rfl (Nat.zero_le _) ⟨rfl, trivial⟩ ⟨trivial, rfl, trivial⟩ ?_
 intro i hi
 conv=>whnf
 apply vif_split <;> intro h
 ·have hlt : i < l.length := by simp at h; omega
  have hsn := ofK_take (k := 1) hlt
  have hol := fstX_len ls name (ofK 1 (l.take i))
  have hol2 := ofK_le 1 (l.take i)
  rw [List.length_take] at hol2
  have hbef : before l[i].time (fstX ls name (ofK 1 (l.take i))) := fun x hx => by
   obtain ⟨e, he, rfl⟩ := fstX_from ls name _ x hx
   have he2 : e ∈ l.take i := by unfold ofK at he; exact (List.mem_filter.1 he).1
   obtain ⟨j, hj, rfl⟩ := List.getElem_of_mem he2
   rw [List.length_take] at hj
   rw [List.getElem_take]
   exact List.pairwise_iff_getElem.1 hasc j i (by omega) hlt (by omega)
  have hg := List.getElem?_eq_getElem hlt
  have hstep : ofK 1 (l.take (i + 1)) = ofK 1 (l.take i) ∨ (l[i].kind = 1 ∧ fstX ls name (ofK 1 (l.take (i + 1))) = fstN ls name (fstX ls name (ofK 1 (l.take i))) l[i]) := by
   rw [hsn]
   by_cases hk : l[i].kind = 1
   ·rw [if_pos hk]; exact .inr ⟨hk, fstX_snoc _ _ _ _⟩
   ·rw [if_neg hk]; exact .inl rfl
  generalize hee : l[i] = e at *
  conv=>whnf
  refine AIn.mk' i rfl (lmZ hlt) ?_
  conv=>whnf
  refine ARd.mapAt hg ?_
  conv=>whnf
  refine vif_split (fun h1 => ?_) (fun h1 => ?_)
  ·have hk : ¬ e.kind = 1 := by simpa using h1
   have hout : fstX ls name (ofK 1 (l.take i)) = fstX ls name (ofK 1 (l.take (i + 1))) := by
    rw [if_neg hk] at hsn; rw [hsn]
   ·skip
    conv=>whnf
    refine AAr.i64 (by omega) ?_
    conv=>whnf
    refine aback (i + 1) [(0, .lab 0)] [] rfl (by show l.length - (i + 1) < l.length - i; omega) hlt ⟨⟨rfl, rfl, ?_⟩, trivial⟩ (by trivial)
    rw [hout]
  have hk : e.kind = 1 := by simpa using h1
  have hst : fstX ls name (ofK 1 (l.take (i + 1))) = fstN ls name (fstX ls name (ofK 1 (l.take i))) e := by
   rw [if_pos hk] at hsn; rw [hsn]; exact fstX_snoc _ _ _ _
  unfold fstN at hst
  conv=>whnf
  refine vif_split (fun h2 => ?_) (fun h2 => ?_)
  ·have hn : ¬ e.name = name := by simpa [sEq_tx] using h2
   have hout : fstX ls name (ofK 1 (l.take i)) = fstX ls name (ofK 1 (l.take (i + 1))) := by
    rw [hst, if_neg fun h => hn h.1]
   ·skip
    conv=>whnf
    refine AAr.i64 (by omega) ?_
    conv=>whnf
    refine aback (i + 1) [(0, .lab 0)] [] rfl (by show l.length - (i + 1) < l.length - i; omega) hlt ⟨⟨rfl, rfl, ?_⟩, trivial⟩ (by trivial)
    rw [hout]
  have hn : e.name = name := by simpa [sEq_tx] using h2
  have hone : (owI ls (fstX ls name (ofK 1 (l.take i))) e.id e.time < 0) ↔ noneB ls e.time e.id (fstX ls name (ofK 1 (l.take i))) = true := by
   rw [owI_neg hbef]
   unfold noneB
   simp [List.all_eq_true]
  generalize fstX ls name (ofK 1 (l.take i)) = o at *
  conv=>whnf
  (refine acallF [] (by kernel_rfl) (AFn.frz (until2A ls e.time (by omega))) ?_ ?_; (focus trivial))
  rintro _ _ _ ⟨rfl, rfl, rfl⟩
  have hul := unt_len e.time ls
  conv=>whnf
  refine aloop ws22_2 2 [10, 11] (fun k : Nat => [(10, bv (noneB ls e.time e.id (o.take k))), (11, iv k)]) (fun _ => [(0, .rows 60 6 (o.map exF)), (1, .var 55 ((enE e).map FV.up))]) (fun k => k ≤ o.length) (fun k => o.length - k) [] [] 0 (by kernel_rfl) (fun _ => rfl) rfl (Nat.zero_le _) (by trivial) (by trivial) ?_
  intro k hk2
  conv=>whnf
  refine vif_split (fun h3 => ?_) (fun h3 => ?_)
  ·have hlk : k < o.length := by simp at h3; omega
   have hnb := noneB_take (ls := ls) (t := e.time) (id := e.id) hlk
   have hgk := List.getElem?_eq_getElem hlk
   generalize o[k] = x at *
   conv=>whnf
   (refine adraw pln22 [] (by kernel_rfl) ?_; conv=>whnf)
   cases hnn : noneB ls e.time e.id (o.take k) with
   | false =>
    rw [hnn, Bool.false_and] at hnb
    conv=>whnf
    refine AAr.i64 (by omega) ?_
    conv=>whnf
    exact aback (k + 1) [] [] rfl (by show o.length - (k + 1) < o.length - k; omega) hlk (by trivial) ⟨congrArg Value.bool hnb.symm, rfl, trivial⟩
   | true =>
    rw [hnn, Bool.true_and] at hnb
    conv=>whnf
    repeat' (first
     | (refine And.intro ?_ ?_ <;> (conv=>whnf))
     | (refine AIn.mk' k rfl (lmZ hlk) ?_; conv=>whnf)
     | (refine ARd.mapAt hgk ?_; conv=>whnf)
     | ((refine acall [] (by kernel_rfl) (same2A (unt e.time ls) (ba x.id) (ba e.id) (by omega)) rfl ?_ ?_; (focus (trivial; done)); (conv=>whnf))))
    refine AAr.i64 (by omega) ?_
    conv=>whnf
    exact aback (k + 1) [] [] rfl (by show o.length - (k + 1) < o.length - k; omega) hlk (by trivial) ⟨congrArg Value.bool hnb.symm, rfl, trivial⟩
  ·have hke : k = o.length := by simp at h3; omega
   subst hke
   rw [List.take_length]
   conv=>whnf
   refine vif_split (fun h4 => ?_) (fun h4 => ?_)
   ·rw [if_pos ⟨hn, hone.2 h4⟩] at hst
    conv=>whnf
    refine VReq.mk (app_ok (by simp only [List.length_map, List.length_cons, List.length_nil]; omega) (by kernel_rfl)) ?_
    conv=>whnf
    refine AAr.i64 (by omega) ?_
    conv=>whnf
    refine aback (i + 1) [(0, .lab 3)] [] rfl (by show l.length - (i + 1) < l.length - i; omega) hlt ⟨⟨rfl, rfl, ?_⟩, trivial⟩ (by trivial)
    rw [hst, List.map_append]
    rfl
   ·rw [if_neg (fun h => by rw [hone.1 h.2] at h4; cases h4)] at hst
    conv=>whnf
    refine AAr.i64 (by omega) ?_
    conv=>whnf
    refine aback (i + 1) [(0, .lab 0)] [] rfl (by show l.length - (i + 1) < l.length - i; omega) hlt ⟨⟨rfl, rfl, ?_⟩, trivial⟩ (by trivial)
    rw [hst]
 ·have hie : i = l.length := by simp at h; omega
  subst hie
  rw [List.take_length]
  conv=>whnf
  exact aret [0] (by trivial)
end
end
end Go.Proofs.YtgfgndaoocfpdaaGreatDoor.Cl
