/- Joined parts of the proof. The walk of the made events -/
import Derived.Test.YtmhpfadbmpipkaaGreatDoorPk19
import Derived.Test.YtmhpfadbmpipkaaGreatDoorPk15
import Derived.Test.YtmhpfadbmpipkaaGreatDoorPk11
set_option linter.unusedVariables false
set_option linter.unusedSimpArgs false
set_option maxRecDepth 100000
set_option maxHeartbeats 16000000
namespace Go.Proofs.YtmhpfadbmpipkaaGreatDoor.Cl
open Go Go.RowKit Go.Proofs Go.Proofs.YtmhpfadbmpipkaaGreatDoor.Vc Go.Proofs.YtmhpfadbmpipkaaGreatDoor.Ax Go.Proofs.YtmhpfadbmpipkaaGreatDoor.Ky
attribute [local irreducible] loadVar storeVar Instr.indexAt Instr.index Instr.sliceAt Instr.makeSlice Instr.lookup Instr.mapUpdate Instr.range Instr.next Instr.entry Instr.makeMap Builtin.append_ Builtin.copy_ Builtin.len_ Builtin.min_ Builtin.max_ Builtin.cap_ Builtin.delete_ Builtin.clear_ convert binOp eqGuard Op.unary Calls
def cliT : Tx := [[97, 112, 112], [116, 97, 98], [119, 101, 98]]
structure EvP (e : Ev) : Prop where
 client : e.client ∈ cliT
 id : ∃ k : Nat, k < 6 ∧ e.id = idT k
 seq : 1 ≤ e.seq ∧ e.seq ≤ 60
 time : 0 ≤ e.time ∧ e.time ≤ 180
 kinds : (e.kind = 1 ∧ (∃ k : Nat, k < 2 ∧ e.name = expT.getD k []) ∧ e.other = [] ∧ (1 ≤ e.arm ∧ e.arm ≤ 3) ∧ (1 ≤ e.ver ∧ e.ver ≤ 2) ∧ e.val = 0) ∨
  (e.kind = 2 ∧ (∃ k : Nat, k < 2 ∧ e.name = namT.getD k []) ∧ e.other = [] ∧ e.ver = 0 ∧ e.arm = 0 ∧ (-4 ≤ e.val ∧ e.val ≤ 35)) ∨
  (e.kind = 3 ∧ e.name = [] ∧ (∃ k : Nat, k < 7 ∧ e.other = idT k) ∧ e.other ≠ e.id ∧ e.ver = 0 ∧ e.arm = 0 ∧ e.val = 0)
structure EvsP (l : List Ev) : Prop where
 len : l.length ≤ 60
 all : ∀ e ∈ l, EvP e
 asc : l.Pairwise fun a b => a.time ≤ b.time
structure ES where
 out : List Ev
 a : Nat
 tm : Nat
 sq : List Nat
 last : Int
structure EI (L : By) (x : ES) : Prop where
 at_ : x.a ≤ L.length
 P : EvsP x.out
 tm : x.tm ≤ 3 * x.out.length
 le : ∀ e ∈ x.out, e.time ≤ (x.tm : Int)
 sl : x.sq.length = 3
 sb : ∀ k ∈ x.sq, k ≤ x.out.length
 last : -1 ≤ x.last ∧ x.last ≤ 2
def enN (n : Nat) : List FV := [iF n]
def EvO (a : AV) (m : Nat) (H : AHeap) : Prop := ∃ l, EvsP l ∧ a = el l ∧ m = 0 ∧ H = []
theorem AAr.div {K : Int → Prop} (v k : Nat) (hv : v < 1000000) (c : K ((v / k : Nat) : Int)) : AAr .i64 ((v : Int).tdiv (k : Int)) K := by
 have h := Nat.div_le_self v k
 refine AAr.to (y := ((v / k : Nat) : Int)) ?_ c
 rw [show (v : Int).tdiv (k : Int) = ((v / k : Nat) : Int) from rfl]
 generalize v / k = q at *
 exact IntWalk.i64_in _ (by omega)
theorem idT_ne0 {a b : Nat} (h : sEq ⟨(idT a).toArray⟩ ⟨(idT b).toArray⟩ = false) : idT a ≠ idT b := fun e => by
 rw [sEq_tx, decide_eq_false_iff_not] at h; exact h e
theorem idT_ne1 {a b : Nat} (ha : a < 6) (hb : b < 6) (h : sEq ⟨(idT a).toArray⟩ ⟨(idT b).toArray⟩ = true) : idT (a + 1) ≠ idT b := by
 have h1 : idT a = idT b := by rw [sEq_tx, decide_eq_true_eq] at h; exact h
 have h2 : ∀ a, a < 6 → ∀ b, b < 6 → idT a = idT b → idT (a + 1) ≠ idT b := by decide
 exact h2 a ha b hb h1
theorem enE_app (l : List Ev) (e : Ev) : l.map enE ++ [enE e] = (l ++ [e]).map enE := by rw [List.map_append]; rfl
theorem EI.next {L : By} {out : List Ev} {a tm : Nat} {sq : List Nat} {last : Int} (h : EI L ⟨out, a, tm, sq, last⟩) (hl : out.length < 60) {a' st i k : Nat} (ha : a' ≤ L.length) (hst : st < 4) (hi : i < 3) (hk : k ≤ out.length) {e : Ev} (het : e.time = ((tm + st : Nat) : Int)) (he : EvP e) : EI L ⟨out ++ [e], a', tm + st, sq.set i (k + 1), i⟩ := by
 obtain ⟨hp, hP, htm, hle, hsl, hsb, hlast⟩ := h
 dsimp only at *
 have hn : (out ++ [e]).length = out.length + 1 := by rw [List.length_append]; rfl
 refine ⟨ha, ⟨by dsimp only; omega, fun x hx => ?_, List.pairwise_append.2 ⟨hP.asc, List.pairwise_singleton _ _, fun x hx y hy => ?_⟩⟩, by dsimp only; omega, fun x hx => ?_, by dsimp only; rw [List.length_set]; exact hsl, fun x hx => ?_, by dsimp only; omega⟩
 ·rcases List.mem_append.1 hx with h | h
  ·exact hP.all x h
  ·rw [List.mem_singleton] at h; rw [h]; exact he
 ·rw [List.mem_singleton] at hy
  have := hle x hx
  rw [hy]; omega
 ·dsimp only at hx ⊢
  rcases List.mem_append.1 hx with h | h
  ·have := hle x h; omega
  ·rw [List.mem_singleton] at h; rw [h]; omega
 ·dsimp only at hx ⊢
  rcases List.mem_or_eq_of_mem_set hx with h | h
  ·have := hsb x h; omega
  ·omega
def NxC (L : By) (p n v q : Nat) : Prop := v < n ∧ q ≤ L.length ∧ AFn Tryz.prog GS 28 [.ptr 0 0, iv n] 1 [(0, srB L p)] (fun a m H => a = iv v ∧ m = 1 ∧ H = [(0, srB L q)])
theorem nxC {L : By} (hL : L.length ≤ 1000) {p : Nat} (hp : p ≤ L.length) (n : Nat) (hn : 0 < n) (hn2 : n ≤ 256) : ∃ v q, NxC L p n v q := ⟨nxV L p n, nxA L p, nxV_lt L p n hn, nxA_le hp, nextA L p n hn hn2 (by omega) hp⟩
theorem eventsA (L : By) (hL : L.length ≤ 1000) : AFn Tryz.prog GS 10 [bs L] 0 [] EvO := by
 refine afn_of Tryz.func10 rfl mixed (by kernel_rfl) ?_
 conv => whnf
 refine aloop ws10_1 3 [4, 5, 7] (fun x : ES => [(4, .own 2), (5, iv x.tm), (7, iv x.last)]) (fun x => [(0, srB L x.a), (1, .rows 3 1 (x.sq.map enN)), (2, .rows 38 10 (x.out.map enE))]) (EI L) (fun x => 60 - x.out.length) [(2, .nil)] [] ⟨[], 0, 0, [0, 0, 0], -1⟩ (by kernel_rfl) (fun _ => rfl) rfl ⟨Nat.zero_le _, ⟨Nat.zero_le _, (fun _ h => by cases h), List.Pairwise.nil⟩, Nat.zero_le _, (fun _ h => by cases h), rfl, (by simp), by constructor <;> (dsimp only; omega)⟩ ⟨(by repeat' (first | rfl | trivial | apply And.intro)), (by repeat' (first | rfl | trivial | apply And.intro)), rfl, trivial⟩ ⟨trivial, rfl, rfl, trivial⟩ ?_
 rintro ⟨out, p, tm, sq, last⟩ hJ
 obtain ⟨hp, hP, htm, hle, hsl, hsb, hlast⟩ := id hJ
 dsimp only at hp hP htm hle hsl hsb hlast
 have hol := hP.len
 conv => whnf
 refine acallM [0] [] (by kernel_rfl) (moreA L p) rfl (by repeat' (first | rfl | trivial | apply And.intro)) (by repeat' (first | rfl | trivial | apply And.intro)) ?_
 rintro _ _ _ ⟨rfl, rfl, rfl⟩
 refine ⟨rfl, ?_⟩
 conv => whnf
 apply vif_split <;> intro h
 rotate_left 1
 ·conv => whnf
  refine aend (el out) 0 [] [] [2] ⟨out, hP, rfl, rfl, rfl⟩ rfl trivial ⟨rfl, rfl, rfl⟩
 conv => whnf
 apply vif_split <;> intro h
 rotate_left 1
 ·conv => whnf
  refine aend (el out) 0 [] [] [2] ⟨out, hP, rfl, rfl, rfl⟩ rfl trivial ⟨rfl, rfl, rfl⟩
 have hlt : out.length < 60 := by simp at h; omega
 conv => whnf
 refine acallM [0] [] (by kernel_rfl) (nextA L p 4 (by decide) (by decide) (by omega) hp) rfl (by repeat' (first | rfl | trivial | apply And.intro)) (by repeat' (first | rfl | trivial | apply And.intro)) ?_
 rintro _ _ _ ⟨rfl, rfl, rfl⟩
 refine ⟨rfl, ?_⟩
 conv => whnf
 have hv1 := nxV_lt L p 4 (by decide)
 have hp1 := nxA_le (L := L) hp
 generalize nxV L p 4 = v1 at *
 generalize nxA L p = p1 at *
 refine acallM [0] [] (by kernel_rfl) (nextA L p1 3 (by decide) (by decide) (by omega) hp1) rfl (by repeat' (first | rfl | trivial | apply And.intro)) (by repeat' (first | rfl | trivial | apply And.intro)) ?_
 rintro _ _ _ ⟨rfl, rfl, rfl⟩
 refine ⟨rfl, ?_⟩
 conv => whnf
 have hv2 := nxV_lt L p1 3 (by decide)
 have hp2 := nxA_le (L := L) hp1
 generalize nxV L p1 3 = v2 at *
 generalize nxA L p1 = p2 at *
 obtain ⟨sv, hsv, hsb1⟩ : ∃ sv, sq[v2]? = some sv ∧ sv ≤ out.length := ⟨_, List.getElem?_eq_getElem (by omega), hsb _ (List.getElem_mem _)⟩
 obtain ⟨cl, hcl, hcm⟩ : ∃ cl, cliT[v2]? = some cl ∧ cl ∈ cliT := ⟨_, List.getElem?_eq_getElem hv2, List.getElem_mem _⟩
 have hv3 := nxV_lt L p2 6 (by decide)
 have hid : AFn Tryz.prog GS 15 [iv (nxV L p2 6)] 0 [] (Is (tv (idT (nxV L p2 6)))) := AFn.up (idTA _ (by omega)) GS
 refine vif_split (fun hq => ?_) (fun hq => ?_)
 ·conv => whnf
  refine vif_split (fun hc => ?_) (fun hc => ?_)
  ·conv => whnf
   refine AAr.i64 (by dsimp only; omega) ?_
   conv => whnf
   refine AIn.mk' v2 rfl (by rw [List.length_map, hsl]; exact hv2) ?_
   conv => whnf
   refine ARd.mapAt hsv ?_
   conv => whnf
   refine AAr.i64 (by omega) ?_
   conv => whnf
   refine AIn.mk' v2 rfl (by rw [List.length_map, hsl]; exact hv2) ?_
   conv => whnf
   refine ARd.mapAt hsv ?_
   conv => whnf
   refine adrawC pln10 [0] [(10, 10), (44, 56)] 4 [(10, .ptr 3 0)] [(0, srB L (nxA L p2)), (1, .rows 3 1 (((sq.map enN).set v2 (enN (sv + 1))))), (2, .rows 38 10 (out.map enE)), (3, .var 38 [tv cl, iv ((sv : Int) + 1), iv 0, iv ((tm : Int) + 1), tv (idT (nxV L p2 6)), tv [], tv [], iv 0, iv 0, iv 0])] (by kernel_rfl) (by kernel_rfl) ?_ ?_
   ·conv => whnf
    repeat' (first
     | (refine And.intro ?_ ?_ <;> (conv => whnf))
     | (refine AIn.mk' v2 rfl hv2 ?_; conv => whnf)
     | (refine ARd.mapAt (enc := enT) (xs := cliT) hcl ?_; conv => whnf)
     | (refine AIn.mk' v2 rfl (by rw [List.length_set, List.length_map, hsl]; exact hv2) ?_; conv => whnf)
     | (refine ARd.set (by rw [List.length_map, hsl]; exact hv2) ?_; conv => whnf)
     | (refine acallM [0] [] (by kernel_rfl) (nextA L p2 6 (by decide) (by decide) (by omega) hp2) rfl (by repeat' (first | rfl | trivial | apply And.intro)) (by repeat' (first | rfl | trivial | apply And.intro)) ?_; rintro _ _ _ ⟨rfl, rfl, rfl⟩; refine ⟨rfl, ?_⟩; conv => whnf)
     | ((refine acall [] (by kernel_rfl) (hid) rfl ?_ ?_; (focus ((repeat' (first | rfl | trivial | apply And.intro)); done)); (conv => whnf))))
    all_goals first
     | (refine arbD [(3, .lab 3)] [] ?_ ?_ ?_; (focus rfl); (focus (repeat' (first | rfl | trivial | apply And.intro))); (focus (repeat' (first | rfl | trivial | apply And.intro))); done)
     | (refine arbD [(3, .lab 4)] [] ?_ ?_ ?_; (focus rfl); (focus (repeat' (first | rfl | trivial | apply And.intro))); (focus (repeat' (first | rfl | trivial | apply And.intro))); done)
     | (refine arbD [(3, .lab 5)] [] ?_ ?_ ?_; (focus rfl); (focus (repeat' (first | rfl | trivial | apply And.intro))); (focus (repeat' (first | rfl | trivial | apply And.intro))); done)
   have hp3 := nxA_le (L := L) hp2
   generalize nxV L p2 6 = v3 at *
   generalize nxA L p2 = p3 at *
   conv => whnf
   refine acallM [0] [] (by kernel_rfl) (nextA L p3 8 (by decide) (by decide) (by omega) hp3) rfl (by repeat' (first | rfl | trivial | apply And.intro)) (by repeat' (first | rfl | trivial | apply And.intro)) ?_
   rintro _ _ _ ⟨rfl, rfl, rfl⟩
   refine ⟨rfl, ?_⟩
   conv => whnf
   have hv4 := nxV_lt L p3 8 (by decide)
   have hp4 := nxA_le (L := L) hp3
   generalize nxV L p3 8 = v4 at *
   generalize nxA L p3 = p4 at *
   rcases (by omega : v4 = 0 ∨ v4 = 1 ∨ v4 = 2 ∨ v4 = 3 ∨ 4 ≤ v4) with rfl | rfl | rfl | rfl | h4
   ·conv => whnf
    obtain ⟨v5, p5, hv5, hp5, c5⟩ := nxC hL hp4 8 (by decide) (by decide)
    obtain ⟨v6, p6, hv6, hp6, c6⟩ := nxC hL hp5 10 (by decide) (by decide)
    obtain ⟨v7, p7, hv7, hp7, c7⟩ := nxC hL hp6 12 (by decide) (by decide)
    obtain ⟨v8, p8, hv8, hp8, c8⟩ := nxC hL hp7 5 (by decide) (by decide)
    obtain ⟨xn, hxn⟩ : ∃ xn, expT[v5 / 7]? = some xn := ⟨_, List.getElem?_eq_getElem (by have : expT.length = 4 := rfl; omega)⟩
    have hxe : xn = expT.getD (v5 / 7) [] := by rw [List.getD_eq_getElem?_getD, hxn, Option.getD_some]
    (refine adraw pln10 [0, 3] (by kernel_rfl) ?_; conv => whnf)
    (refine acallF [] (by kernel_rfl) (expTA) ?_ ?_; (focus (repeat' (first | rfl | trivial | apply And.intro))))
    rintro _ _ _ ⟨rfl, rfl, rfl⟩
    conv => whnf
    repeat' (first
     | (refine And.intro ?_ ?_ <;> (conv => whnf))
     | (refine acallM [0] [] (by kernel_rfl) c5 rfl ?_ ?_ ?_; (focus ((repeat' (first | rfl | trivial | apply And.intro)); done)); (focus ((repeat' (first | rfl | trivial | apply And.intro)); done)); rintro _ _ _ ⟨rfl, rfl, rfl⟩; refine ⟨rfl, ?_⟩; conv => whnf)
     | (refine acallM [0] [] (by kernel_rfl) c6 rfl ?_ ?_ ?_; (focus ((repeat' (first | rfl | trivial | apply And.intro)); done)); (focus ((repeat' (first | rfl | trivial | apply And.intro)); done)); rintro _ _ _ ⟨rfl, rfl, rfl⟩; refine ⟨rfl, ?_⟩; conv => whnf)
     | (refine acallM [0] [] (by kernel_rfl) c7 rfl ?_ ?_ ?_; (focus ((repeat' (first | rfl | trivial | apply And.intro)); done)); (focus ((repeat' (first | rfl | trivial | apply And.intro)); done)); rintro _ _ _ ⟨rfl, rfl, rfl⟩; refine ⟨rfl, ?_⟩; conv => whnf)
     | (refine acallM [0] [] (by kernel_rfl) c8 rfl ?_ ?_ ?_; (focus ((repeat' (first | rfl | trivial | apply And.intro)); done)); (focus ((repeat' (first | rfl | trivial | apply And.intro)); done)); rintro _ _ _ ⟨rfl, rfl, rfl⟩; refine ⟨rfl, ?_⟩; conv => whnf)
     | (refine VReq.mk (by decide) ?_; conv => whnf)
     | (refine AIn.mk' (v5 / 7) rfl (by rw [List.length_map]; have : expT.length = 4 := rfl; omega) ?_; conv => whnf)
     | (refine ARd.mapAt hxn ?_; conv => whnf)
     | (refine AAr.div v5 7 (by omega) ?_; conv => whnf)
     | (refine AAr.div v7 11 (by omega) ?_; conv => whnf)
     | (refine AAr.div v8 4 (by omega) ?_; conv => whnf)
     | (refine AAr.to (y := ((1 + v6 % 9 % 2 : Nat) : Int)) ?_ ?_; (focus (rw [show (1 : Int) + ((v6 : Int).tmod 9).tmod 2 = ((1 + v6 % 9 % 2 : Nat) : Int) from rfl]; exact IntWalk.i64_in _ (by omega))); conv => whnf)
     | (refine AAr.i64 ?_ ?_; (focus omega); conv => whnf))
    refine VReq.mk (app_ok (by simp only [List.length_map, List.length_cons, List.length_nil]; omega) (by kernel_rfl)) ?_
    conv => whnf
    exact aback ⟨out ++ [⟨cl, (sv : Int) + 1, 1, (tm : Int) + 1, idT v3, xn, [], 1 + ((v8 / 4 : Nat) : Int), ((1 + v6 % 9 % 2 : Nat) : Int) + ((v7 / 11 : Nat) : Int), 0⟩], p8, tm + 1, sq.set v2 (sv + 1), v2⟩ [(2, .lab 6)] [] rfl (by show 60 - (out ++ [_]).length < 60 - out.length; rw [List.length_append]; simp; omega) (hJ.next hlt hp8 (by omega) hv2 hsb1 rfl ⟨hcm, ⟨v3, hv3, rfl⟩, (by dsimp only; omega), (by dsimp only; omega), .inl ⟨rfl, ⟨v5 / 7, by omega, hxe⟩, rfl, (by dsimp only; omega), (by dsimp only; omega), rfl⟩⟩) ⟨(by repeat' (first | rfl | trivial | apply And.intro)), ⟨rfl, rfl, List.map_set.symm⟩, ⟨rfl, rfl, enE_app out ⟨cl, (sv : Int) + 1, 1, (tm : Int) + 1, idT v3, xn, [], 1 + ((v8 / 4 : Nat) : Int), ((1 + v6 % 9 % 2 : Nat) : Int) + ((v7 / 11 : Nat) : Int), 0⟩⟩, trivial⟩ ⟨rfl, rfl, rfl, trivial⟩
   ·conv => whnf
    obtain ⟨v5, p5, hv5, hp5, c5⟩ := nxC hL hp4 8 (by decide) (by decide)
    obtain ⟨v6, p6, hv6, hp6, c6⟩ := nxC hL hp5 10 (by decide) (by decide)
    obtain ⟨v7, p7, hv7, hp7, c7⟩ := nxC hL hp6 12 (by decide) (by decide)
    obtain ⟨v8, p8, hv8, hp8, c8⟩ := nxC hL hp7 5 (by decide) (by decide)
    obtain ⟨xn, hxn⟩ : ∃ xn, expT[v5 / 7]? = some xn := ⟨_, List.getElem?_eq_getElem (by have : expT.length = 4 := rfl; omega)⟩
    have hxe : xn = expT.getD (v5 / 7) [] := by rw [List.getD_eq_getElem?_getD, hxn, Option.getD_some]
    (refine adraw pln10 [0, 3] (by kernel_rfl) ?_; conv => whnf)
    (refine acallF [] (by kernel_rfl) (expTA) ?_ ?_; (focus (repeat' (first | rfl | trivial | apply And.intro))))
    rintro _ _ _ ⟨rfl, rfl, rfl⟩
    conv => whnf
    repeat' (first
     | (refine And.intro ?_ ?_ <;> (conv => whnf))
     | (refine acallM [0] [] (by kernel_rfl) c5 rfl ?_ ?_ ?_; (focus ((repeat' (first | rfl | trivial | apply And.intro)); done)); (focus ((repeat' (first | rfl | trivial | apply And.intro)); done)); rintro _ _ _ ⟨rfl, rfl, rfl⟩; refine ⟨rfl, ?_⟩; conv => whnf)
     | (refine acallM [0] [] (by kernel_rfl) c6 rfl ?_ ?_ ?_; (focus ((repeat' (first | rfl | trivial | apply And.intro)); done)); (focus ((repeat' (first | rfl | trivial | apply And.intro)); done)); rintro _ _ _ ⟨rfl, rfl, rfl⟩; refine ⟨rfl, ?_⟩; conv => whnf)
     | (refine acallM [0] [] (by kernel_rfl) c7 rfl ?_ ?_ ?_; (focus ((repeat' (first | rfl | trivial | apply And.intro)); done)); (focus ((repeat' (first | rfl | trivial | apply And.intro)); done)); rintro _ _ _ ⟨rfl, rfl, rfl⟩; refine ⟨rfl, ?_⟩; conv => whnf)
     | (refine acallM [0] [] (by kernel_rfl) c8 rfl ?_ ?_ ?_; (focus ((repeat' (first | rfl | trivial | apply And.intro)); done)); (focus ((repeat' (first | rfl | trivial | apply And.intro)); done)); rintro _ _ _ ⟨rfl, rfl, rfl⟩; refine ⟨rfl, ?_⟩; conv => whnf)
     | (refine VReq.mk (by decide) ?_; conv => whnf)
     | (refine AIn.mk' (v5 / 7) rfl (by rw [List.length_map]; have : expT.length = 4 := rfl; omega) ?_; conv => whnf)
     | (refine ARd.mapAt hxn ?_; conv => whnf)
     | (refine AAr.div v5 7 (by omega) ?_; conv => whnf)
     | (refine AAr.div v7 11 (by omega) ?_; conv => whnf)
     | (refine AAr.div v8 4 (by omega) ?_; conv => whnf)
     | (refine AAr.to (y := ((1 + v6 % 9 % 2 : Nat) : Int)) ?_ ?_; (focus (rw [show (1 : Int) + ((v6 : Int).tmod 9).tmod 2 = ((1 + v6 % 9 % 2 : Nat) : Int) from rfl]; exact IntWalk.i64_in _ (by omega))); conv => whnf)
     | (refine AAr.i64 ?_ ?_; (focus omega); conv => whnf))
    refine VReq.mk (app_ok (by simp only [List.length_map, List.length_cons, List.length_nil]; omega) (by kernel_rfl)) ?_
    conv => whnf
    exact aback ⟨out ++ [⟨cl, (sv : Int) + 1, 1, (tm : Int) + 1, idT v3, xn, [], 1 + ((v8 / 4 : Nat) : Int), ((1 + v6 % 9 % 2 : Nat) : Int) + ((v7 / 11 : Nat) : Int), 0⟩], p8, tm + 1, sq.set v2 (sv + 1), v2⟩ [(2, .lab 6)] [] rfl (by show 60 - (out ++ [_]).length < 60 - out.length; rw [List.length_append]; simp; omega) (hJ.next hlt hp8 (by omega) hv2 hsb1 rfl ⟨hcm, ⟨v3, hv3, rfl⟩, (by dsimp only; omega), (by dsimp only; omega), .inl ⟨rfl, ⟨v5 / 7, by omega, hxe⟩, rfl, (by dsimp only; omega), (by dsimp only; omega), rfl⟩⟩) ⟨(by repeat' (first | rfl | trivial | apply And.intro)), ⟨rfl, rfl, List.map_set.symm⟩, ⟨rfl, rfl, enE_app out ⟨cl, (sv : Int) + 1, 1, (tm : Int) + 1, idT v3, xn, [], 1 + ((v8 / 4 : Nat) : Int), ((1 + v6 % 9 % 2 : Nat) : Int) + ((v7 / 11 : Nat) : Int), 0⟩⟩, trivial⟩ ⟨rfl, rfl, rfl, trivial⟩
   ·conv => whnf
    obtain ⟨v5, p5, hv5, hp5, c5⟩ := nxC hL hp4 8 (by decide) (by decide)
    obtain ⟨v6, p6, hv6, hp6, c6⟩ := nxC hL hp5 10 (by decide) (by decide)
    obtain ⟨v7, p7, hv7, hp7, c7⟩ := nxC hL hp6 12 (by decide) (by decide)
    obtain ⟨v8, p8, hv8, hp8, c8⟩ := nxC hL hp7 5 (by decide) (by decide)
    obtain ⟨xn, hxn⟩ : ∃ xn, expT[v5 / 7]? = some xn := ⟨_, List.getElem?_eq_getElem (by have : expT.length = 4 := rfl; omega)⟩
    have hxe : xn = expT.getD (v5 / 7) [] := by rw [List.getD_eq_getElem?_getD, hxn, Option.getD_some]
    (refine adraw pln10 [0, 3] (by kernel_rfl) ?_; conv => whnf)
    (refine acallF [] (by kernel_rfl) (expTA) ?_ ?_; (focus (repeat' (first | rfl | trivial | apply And.intro))))
    rintro _ _ _ ⟨rfl, rfl, rfl⟩
    conv => whnf
    repeat' (first
     | (refine And.intro ?_ ?_ <;> (conv => whnf))
     | (refine acallM [0] [] (by kernel_rfl) c5 rfl ?_ ?_ ?_; (focus ((repeat' (first | rfl | trivial | apply And.intro)); done)); (focus ((repeat' (first | rfl | trivial | apply And.intro)); done)); rintro _ _ _ ⟨rfl, rfl, rfl⟩; refine ⟨rfl, ?_⟩; conv => whnf)
     | (refine acallM [0] [] (by kernel_rfl) c6 rfl ?_ ?_ ?_; (focus ((repeat' (first | rfl | trivial | apply And.intro)); done)); (focus ((repeat' (first | rfl | trivial | apply And.intro)); done)); rintro _ _ _ ⟨rfl, rfl, rfl⟩; refine ⟨rfl, ?_⟩; conv => whnf)
     | (refine acallM [0] [] (by kernel_rfl) c7 rfl ?_ ?_ ?_; (focus ((repeat' (first | rfl | trivial | apply And.intro)); done)); (focus ((repeat' (first | rfl | trivial | apply And.intro)); done)); rintro _ _ _ ⟨rfl, rfl, rfl⟩; refine ⟨rfl, ?_⟩; conv => whnf)
     | (refine acallM [0] [] (by kernel_rfl) c8 rfl ?_ ?_ ?_; (focus ((repeat' (first | rfl | trivial | apply And.intro)); done)); (focus ((repeat' (first | rfl | trivial | apply And.intro)); done)); rintro _ _ _ ⟨rfl, rfl, rfl⟩; refine ⟨rfl, ?_⟩; conv => whnf)
     | (refine VReq.mk (by decide) ?_; conv => whnf)
     | (refine AIn.mk' (v5 / 7) rfl (by rw [List.length_map]; have : expT.length = 4 := rfl; omega) ?_; conv => whnf)
     | (refine ARd.mapAt hxn ?_; conv => whnf)
     | (refine AAr.div v5 7 (by omega) ?_; conv => whnf)
     | (refine AAr.div v7 11 (by omega) ?_; conv => whnf)
     | (refine AAr.div v8 4 (by omega) ?_; conv => whnf)
     | (refine AAr.to (y := ((1 + v6 % 9 % 2 : Nat) : Int)) ?_ ?_; (focus (rw [show (1 : Int) + ((v6 : Int).tmod 9).tmod 2 = ((1 + v6 % 9 % 2 : Nat) : Int) from rfl]; exact IntWalk.i64_in _ (by omega))); conv => whnf)
     | (refine AAr.i64 ?_ ?_; (focus omega); conv => whnf))
    refine VReq.mk (app_ok (by simp only [List.length_map, List.length_cons, List.length_nil]; omega) (by kernel_rfl)) ?_
    conv => whnf
    exact aback ⟨out ++ [⟨cl, (sv : Int) + 1, 1, (tm : Int) + 1, idT v3, xn, [], 1 + ((v8 / 4 : Nat) : Int), ((1 + v6 % 9 % 2 : Nat) : Int) + ((v7 / 11 : Nat) : Int), 0⟩], p8, tm + 1, sq.set v2 (sv + 1), v2⟩ [(2, .lab 6)] [] rfl (by show 60 - (out ++ [_]).length < 60 - out.length; rw [List.length_append]; simp; omega) (hJ.next hlt hp8 (by omega) hv2 hsb1 rfl ⟨hcm, ⟨v3, hv3, rfl⟩, (by dsimp only; omega), (by dsimp only; omega), .inl ⟨rfl, ⟨v5 / 7, by omega, hxe⟩, rfl, (by dsimp only; omega), (by dsimp only; omega), rfl⟩⟩) ⟨(by repeat' (first | rfl | trivial | apply And.intro)), ⟨rfl, rfl, List.map_set.symm⟩, ⟨rfl, rfl, enE_app out ⟨cl, (sv : Int) + 1, 1, (tm : Int) + 1, idT v3, xn, [], 1 + ((v8 / 4 : Nat) : Int), ((1 + v6 % 9 % 2 : Nat) : Int) + ((v7 / 11 : Nat) : Int), 0⟩⟩, trivial⟩ ⟨rfl, rfl, rfl, trivial⟩
   ·conv => whnf
    obtain ⟨v5, p5, hv5, hp5, c5⟩ := nxC hL hp4 6 (by decide) (by decide)
    refine acallM [0] [] (by kernel_rfl) c5 rfl ?_ ?_ ?_; (focus ((repeat' (first | rfl | trivial | apply And.intro)); done)); (focus ((repeat' (first | rfl | trivial | apply And.intro)); done)); rintro _ _ _ ⟨rfl, rfl, rfl⟩; refine ⟨rfl, ?_⟩; conv => whnf
    (refine adraw pln10 [] (by kernel_rfl) ?_; conv => whnf)
    have hi5 : AFn Tryz.prog GS 15 [iv v5] 0 [] (Is (tv (idT v5))) := AFn.up (idTA _ (by omega)) GS
    have hi6 : AFn Tryz.prog GS 15 [iv ((v5 : Int) + 1)] 0 [] (Is (tv (idT (v5 + 1)))) := AFn.up (idTA (v5 + 1) (by omega)) GS
    (refine acall [] (by kernel_rfl) (hi5) rfl ?_ ?_; (focus ((repeat' (first | rfl | trivial | apply And.intro)); done)); (conv => whnf))
    apply vif_split <;> intro h
    ·conv => whnf
     refine AAr.i64 (by omega) ?_
     conv => whnf
     (refine acall [] (by kernel_rfl) (hi6) rfl ?_ ?_; (focus ((repeat' (first | rfl | trivial | apply And.intro)); done)); (conv => whnf))
     refine VReq.mk (app_ok (by simp only [List.length_map, List.length_cons, List.length_nil]; omega) (by kernel_rfl)) ?_
     conv => whnf
     exact aback ⟨out ++ [⟨cl, (sv : Int) + 1, 3, (tm : Int) + 1, idT v3, [], idT (v5 + 1), 0, 0, 0⟩], p5, tm + 1, sq.set v2 (sv + 1), v2⟩ [(2, .lab 5)] [] rfl (by show 60 - (out ++ [_]).length < 60 - out.length; rw [List.length_append]; simp; omega) (hJ.next hlt hp5 (by omega) hv2 hsb1 rfl ⟨hcm, ⟨v3, hv3, rfl⟩, (by dsimp only; omega), (by dsimp only; omega), .inr (.inr ⟨rfl, rfl, ⟨v5 + 1, by omega, rfl⟩, idT_ne1 hv5 hv3 h, rfl, rfl, rfl⟩)⟩) ⟨(by repeat' (first | rfl | trivial | apply And.intro)), ⟨rfl, rfl, List.map_set.symm⟩, ⟨rfl, rfl, enE_app out ⟨cl, (sv : Int) + 1, 3, (tm : Int) + 1, idT v3, [], idT (v5 + 1), 0, 0, 0⟩⟩, trivial⟩ ⟨rfl, rfl, rfl, trivial⟩
    ·conv => whnf
     (refine acall [] (by kernel_rfl) (hi5) rfl ?_ ?_; (focus ((repeat' (first | rfl | trivial | apply And.intro)); done)); (conv => whnf))
     refine VReq.mk (app_ok (by simp only [List.length_map, List.length_cons, List.length_nil]; omega) (by kernel_rfl)) ?_
     conv => whnf
     exact aback ⟨out ++ [⟨cl, (sv : Int) + 1, 3, (tm : Int) + 1, idT v3, [], idT v5, 0, 0, 0⟩], p5, tm + 1, sq.set v2 (sv + 1), v2⟩ [(2, .lab 5)] [] rfl (by show 60 - (out ++ [_]).length < 60 - out.length; rw [List.length_append]; simp; omega) (hJ.next hlt hp5 (by omega) hv2 hsb1 rfl ⟨hcm, ⟨v3, hv3, rfl⟩, (by dsimp only; omega), (by dsimp only; omega), .inr (.inr ⟨rfl, rfl, ⟨v5, by omega, rfl⟩, idT_ne0 h, rfl, rfl, rfl⟩)⟩) ⟨(by repeat' (first | rfl | trivial | apply And.intro)), ⟨rfl, rfl, List.map_set.symm⟩, ⟨rfl, rfl, enE_app out ⟨cl, (sv : Int) + 1, 3, (tm : Int) + 1, idT v3, [], idT v5, 0, 0, 0⟩⟩, trivial⟩ ⟨rfl, rfl, rfl, trivial⟩
   ·repeat' (refine vif_false (beq_eq_false_iff_ne.2 (by omega)) ?_; conv => whnf)
    obtain ⟨v5, p5, hv5, hp5, c5⟩ := nxC hL hp4 3 (by decide) (by decide)
    obtain ⟨v6, p6, hv6, hp6, c6⟩ := nxC hL hp5 40 (by decide) (by decide)
    obtain ⟨xn, hxn⟩ : ∃ xn, namT[v5 / 2]? = some xn := ⟨_, List.getElem?_eq_getElem (by have : namT.length = 2 := rfl; omega)⟩
    have hxe : xn = namT.getD (v5 / 2) [] := by rw [List.getD_eq_getElem?_getD, hxn, Option.getD_some]
    (refine adraw pln10 [0, 3] (by kernel_rfl) ?_; conv => whnf)
    (refine acallF [] (by kernel_rfl) (namTA) ?_ ?_; (focus (repeat' (first | rfl | trivial | apply And.intro))))
    rintro _ _ _ ⟨rfl, rfl, rfl⟩
    conv => whnf
    repeat' (first
     | (refine And.intro ?_ ?_ <;> (conv => whnf))
     | (refine acallM [0] [] (by kernel_rfl) c5 rfl ?_ ?_ ?_; (focus ((repeat' (first | rfl | trivial | apply And.intro)); done)); (focus ((repeat' (first | rfl | trivial | apply And.intro)); done)); rintro _ _ _ ⟨rfl, rfl, rfl⟩; refine ⟨rfl, ?_⟩; conv => whnf)
     | (refine acallM [0] [] (by kernel_rfl) c6 rfl ?_ ?_ ?_; (focus ((repeat' (first | rfl | trivial | apply And.intro)); done)); (focus ((repeat' (first | rfl | trivial | apply And.intro)); done)); rintro _ _ _ ⟨rfl, rfl, rfl⟩; refine ⟨rfl, ?_⟩; conv => whnf)
     | (refine VReq.mk (by decide) ?_; conv => whnf)
     | (refine AIn.mk' (v5 / 2) rfl (by rw [List.length_map]; have : namT.length = 2 := rfl; omega) ?_; conv => whnf)
     | (refine ARd.mapAt hxn ?_; conv => whnf)
     | (refine AAr.div v5 2 (by omega) ?_; conv => whnf)
     | (refine AAr.i64 ?_ ?_; (focus omega); conv => whnf))
    refine VReq.mk (app_ok (by simp only [List.length_map, List.length_cons, List.length_nil]; omega) (by kernel_rfl)) ?_
    conv => whnf
    exact aback ⟨out ++ [⟨cl, (sv : Int) + 1, 2, (tm : Int) + 1, idT v3, xn, [], 0, 0, (v6 : Int) - 4⟩], p6, tm + 1, sq.set v2 (sv + 1), v2⟩ [(2, .lab 6)] [] rfl (by show 60 - (out ++ [_]).length < 60 - out.length; rw [List.length_append]; simp; omega) (hJ.next hlt hp6 (by omega) hv2 hsb1 rfl ⟨hcm, ⟨v3, hv3, rfl⟩, (by dsimp only; omega), (by dsimp only; omega), .inr (.inl ⟨rfl, ⟨v5 / 2, by omega, hxe⟩, rfl, rfl, rfl, (by dsimp only; omega)⟩)⟩) ⟨(by repeat' (first | rfl | trivial | apply And.intro)), ⟨rfl, rfl, List.map_set.symm⟩, ⟨rfl, rfl, enE_app out ⟨cl, (sv : Int) + 1, 2, (tm : Int) + 1, idT v3, xn, [], 0, 0, (v6 : Int) - 4⟩⟩, trivial⟩ ⟨rfl, rfl, rfl, trivial⟩
  ·conv => whnf
   refine AAr.i64 (by dsimp only; omega) ?_
   conv => whnf
   refine AIn.mk' v2 rfl (by rw [List.length_map, hsl]; exact hv2) ?_
   conv => whnf
   refine ARd.mapAt hsv ?_
   conv => whnf
   refine AAr.i64 (by omega) ?_
   conv => whnf
   refine AIn.mk' v2 rfl (by rw [List.length_map, hsl]; exact hv2) ?_
   conv => whnf
   refine ARd.mapAt hsv ?_
   conv => whnf
   refine adrawC pln10 [0] [(10, 10), (44, 56)] 4 [(10, .ptr 3 0)] [(0, srB L (nxA L p2)), (1, .rows 3 1 (((sq.map enN).set v2 (enN (sv + 1))))), (2, .rows 38 10 (out.map enE)), (3, .var 38 [tv cl, iv ((sv : Int) + 1), iv 0, iv ((tm : Int) + v1), tv (idT (nxV L p2 6)), tv [], tv [], iv 0, iv 0, iv 0])] (by kernel_rfl) (by kernel_rfl) ?_ ?_
   ·conv => whnf
    repeat' (first
     | (refine And.intro ?_ ?_ <;> (conv => whnf))
     | (refine AIn.mk' v2 rfl hv2 ?_; conv => whnf)
     | (refine ARd.mapAt (enc := enT) (xs := cliT) hcl ?_; conv => whnf)
     | (refine AIn.mk' v2 rfl (by rw [List.length_set, List.length_map, hsl]; exact hv2) ?_; conv => whnf)
     | (refine ARd.set (by rw [List.length_map, hsl]; exact hv2) ?_; conv => whnf)
     | (refine acallM [0] [] (by kernel_rfl) (nextA L p2 6 (by decide) (by decide) (by omega) hp2) rfl (by repeat' (first | rfl | trivial | apply And.intro)) (by repeat' (first | rfl | trivial | apply And.intro)) ?_; rintro _ _ _ ⟨rfl, rfl, rfl⟩; refine ⟨rfl, ?_⟩; conv => whnf)
     | ((refine acall [] (by kernel_rfl) (hid) rfl ?_ ?_; (focus ((repeat' (first | rfl | trivial | apply And.intro)); done)); (conv => whnf))))
    all_goals first
     | (refine arbD [(3, .lab 3)] [] ?_ ?_ ?_; (focus rfl); (focus (repeat' (first | rfl | trivial | apply And.intro))); (focus (repeat' (first | rfl | trivial | apply And.intro))); done)
     | (refine arbD [(3, .lab 4)] [] ?_ ?_ ?_; (focus rfl); (focus (repeat' (first | rfl | trivial | apply And.intro))); (focus (repeat' (first | rfl | trivial | apply And.intro))); done)
     | (refine arbD [(3, .lab 5)] [] ?_ ?_ ?_; (focus rfl); (focus (repeat' (first | rfl | trivial | apply And.intro))); (focus (repeat' (first | rfl | trivial | apply And.intro))); done)
   have hp3 := nxA_le (L := L) hp2
   generalize nxV L p2 6 = v3 at *
   generalize nxA L p2 = p3 at *
   conv => whnf
   refine acallM [0] [] (by kernel_rfl) (nextA L p3 8 (by decide) (by decide) (by omega) hp3) rfl (by repeat' (first | rfl | trivial | apply And.intro)) (by repeat' (first | rfl | trivial | apply And.intro)) ?_
   rintro _ _ _ ⟨rfl, rfl, rfl⟩
   refine ⟨rfl, ?_⟩
   conv => whnf
   have hv4 := nxV_lt L p3 8 (by decide)
   have hp4 := nxA_le (L := L) hp3
   generalize nxV L p3 8 = v4 at *
   generalize nxA L p3 = p4 at *
   rcases (by omega : v4 = 0 ∨ v4 = 1 ∨ v4 = 2 ∨ v4 = 3 ∨ 4 ≤ v4) with rfl | rfl | rfl | rfl | h4
   ·conv => whnf
    obtain ⟨v5, p5, hv5, hp5, c5⟩ := nxC hL hp4 8 (by decide) (by decide)
    obtain ⟨v6, p6, hv6, hp6, c6⟩ := nxC hL hp5 10 (by decide) (by decide)
    obtain ⟨v7, p7, hv7, hp7, c7⟩ := nxC hL hp6 12 (by decide) (by decide)
    obtain ⟨v8, p8, hv8, hp8, c8⟩ := nxC hL hp7 5 (by decide) (by decide)
    obtain ⟨xn, hxn⟩ : ∃ xn, expT[v5 / 7]? = some xn := ⟨_, List.getElem?_eq_getElem (by have : expT.length = 4 := rfl; omega)⟩
    have hxe : xn = expT.getD (v5 / 7) [] := by rw [List.getD_eq_getElem?_getD, hxn, Option.getD_some]
    (refine adraw pln10 [0, 3] (by kernel_rfl) ?_; conv => whnf)
    (refine acallF [] (by kernel_rfl) (expTA) ?_ ?_; (focus (repeat' (first | rfl | trivial | apply And.intro))))
    rintro _ _ _ ⟨rfl, rfl, rfl⟩
    conv => whnf
    repeat' (first
     | (refine And.intro ?_ ?_ <;> (conv => whnf))
     | (refine acallM [0] [] (by kernel_rfl) c5 rfl ?_ ?_ ?_; (focus ((repeat' (first | rfl | trivial | apply And.intro)); done)); (focus ((repeat' (first | rfl | trivial | apply And.intro)); done)); rintro _ _ _ ⟨rfl, rfl, rfl⟩; refine ⟨rfl, ?_⟩; conv => whnf)
     | (refine acallM [0] [] (by kernel_rfl) c6 rfl ?_ ?_ ?_; (focus ((repeat' (first | rfl | trivial | apply And.intro)); done)); (focus ((repeat' (first | rfl | trivial | apply And.intro)); done)); rintro _ _ _ ⟨rfl, rfl, rfl⟩; refine ⟨rfl, ?_⟩; conv => whnf)
     | (refine acallM [0] [] (by kernel_rfl) c7 rfl ?_ ?_ ?_; (focus ((repeat' (first | rfl | trivial | apply And.intro)); done)); (focus ((repeat' (first | rfl | trivial | apply And.intro)); done)); rintro _ _ _ ⟨rfl, rfl, rfl⟩; refine ⟨rfl, ?_⟩; conv => whnf)
     | (refine acallM [0] [] (by kernel_rfl) c8 rfl ?_ ?_ ?_; (focus ((repeat' (first | rfl | trivial | apply And.intro)); done)); (focus ((repeat' (first | rfl | trivial | apply And.intro)); done)); rintro _ _ _ ⟨rfl, rfl, rfl⟩; refine ⟨rfl, ?_⟩; conv => whnf)
     | (refine VReq.mk (by decide) ?_; conv => whnf)
     | (refine AIn.mk' (v5 / 7) rfl (by rw [List.length_map]; have : expT.length = 4 := rfl; omega) ?_; conv => whnf)
     | (refine ARd.mapAt hxn ?_; conv => whnf)
     | (refine AAr.div v5 7 (by omega) ?_; conv => whnf)
     | (refine AAr.div v7 11 (by omega) ?_; conv => whnf)
     | (refine AAr.div v8 4 (by omega) ?_; conv => whnf)
     | (refine AAr.to (y := ((1 + v6 % 9 % 2 : Nat) : Int)) ?_ ?_; (focus (rw [show (1 : Int) + ((v6 : Int).tmod 9).tmod 2 = ((1 + v6 % 9 % 2 : Nat) : Int) from rfl]; exact IntWalk.i64_in _ (by omega))); conv => whnf)
     | (refine AAr.i64 ?_ ?_; (focus omega); conv => whnf))
    refine VReq.mk (app_ok (by simp only [List.length_map, List.length_cons, List.length_nil]; omega) (by kernel_rfl)) ?_
    conv => whnf
    exact aback ⟨out ++ [⟨cl, (sv : Int) + 1, 1, (tm : Int) + v1, idT v3, xn, [], 1 + ((v8 / 4 : Nat) : Int), ((1 + v6 % 9 % 2 : Nat) : Int) + ((v7 / 11 : Nat) : Int), 0⟩], p8, tm + v1, sq.set v2 (sv + 1), v2⟩ [(2, .lab 6)] [] rfl (by show 60 - (out ++ [_]).length < 60 - out.length; rw [List.length_append]; simp; omega) (hJ.next hlt hp8 (by omega) hv2 hsb1 rfl ⟨hcm, ⟨v3, hv3, rfl⟩, (by dsimp only; omega), (by dsimp only; omega), .inl ⟨rfl, ⟨v5 / 7, by omega, hxe⟩, rfl, (by dsimp only; omega), (by dsimp only; omega), rfl⟩⟩) ⟨(by repeat' (first | rfl | trivial | apply And.intro)), ⟨rfl, rfl, List.map_set.symm⟩, ⟨rfl, rfl, enE_app out ⟨cl, (sv : Int) + 1, 1, (tm : Int) + v1, idT v3, xn, [], 1 + ((v8 / 4 : Nat) : Int), ((1 + v6 % 9 % 2 : Nat) : Int) + ((v7 / 11 : Nat) : Int), 0⟩⟩, trivial⟩ ⟨rfl, rfl, rfl, trivial⟩
   ·conv => whnf
    obtain ⟨v5, p5, hv5, hp5, c5⟩ := nxC hL hp4 8 (by decide) (by decide)
    obtain ⟨v6, p6, hv6, hp6, c6⟩ := nxC hL hp5 10 (by decide) (by decide)
    obtain ⟨v7, p7, hv7, hp7, c7⟩ := nxC hL hp6 12 (by decide) (by decide)
    obtain ⟨v8, p8, hv8, hp8, c8⟩ := nxC hL hp7 5 (by decide) (by decide)
    obtain ⟨xn, hxn⟩ : ∃ xn, expT[v5 / 7]? = some xn := ⟨_, List.getElem?_eq_getElem (by have : expT.length = 4 := rfl; omega)⟩
    have hxe : xn = expT.getD (v5 / 7) [] := by rw [List.getD_eq_getElem?_getD, hxn, Option.getD_some]
    (refine adraw pln10 [0, 3] (by kernel_rfl) ?_; conv => whnf)
    (refine acallF [] (by kernel_rfl) (expTA) ?_ ?_; (focus (repeat' (first | rfl | trivial | apply And.intro))))
    rintro _ _ _ ⟨rfl, rfl, rfl⟩
    conv => whnf
    repeat' (first
     | (refine And.intro ?_ ?_ <;> (conv => whnf))
     | (refine acallM [0] [] (by kernel_rfl) c5 rfl ?_ ?_ ?_; (focus ((repeat' (first | rfl | trivial | apply And.intro)); done)); (focus ((repeat' (first | rfl | trivial | apply And.intro)); done)); rintro _ _ _ ⟨rfl, rfl, rfl⟩; refine ⟨rfl, ?_⟩; conv => whnf)
     | (refine acallM [0] [] (by kernel_rfl) c6 rfl ?_ ?_ ?_; (focus ((repeat' (first | rfl | trivial | apply And.intro)); done)); (focus ((repeat' (first | rfl | trivial | apply And.intro)); done)); rintro _ _ _ ⟨rfl, rfl, rfl⟩; refine ⟨rfl, ?_⟩; conv => whnf)
     | (refine acallM [0] [] (by kernel_rfl) c7 rfl ?_ ?_ ?_; (focus ((repeat' (first | rfl | trivial | apply And.intro)); done)); (focus ((repeat' (first | rfl | trivial | apply And.intro)); done)); rintro _ _ _ ⟨rfl, rfl, rfl⟩; refine ⟨rfl, ?_⟩; conv => whnf)
     | (refine acallM [0] [] (by kernel_rfl) c8 rfl ?_ ?_ ?_; (focus ((repeat' (first | rfl | trivial | apply And.intro)); done)); (focus ((repeat' (first | rfl | trivial | apply And.intro)); done)); rintro _ _ _ ⟨rfl, rfl, rfl⟩; refine ⟨rfl, ?_⟩; conv => whnf)
     | (refine VReq.mk (by decide) ?_; conv => whnf)
     | (refine AIn.mk' (v5 / 7) rfl (by rw [List.length_map]; have : expT.length = 4 := rfl; omega) ?_; conv => whnf)
     | (refine ARd.mapAt hxn ?_; conv => whnf)
     | (refine AAr.div v5 7 (by omega) ?_; conv => whnf)
     | (refine AAr.div v7 11 (by omega) ?_; conv => whnf)
     | (refine AAr.div v8 4 (by omega) ?_; conv => whnf)
     | (refine AAr.to (y := ((1 + v6 % 9 % 2 : Nat) : Int)) ?_ ?_; (focus (rw [show (1 : Int) + ((v6 : Int).tmod 9).tmod 2 = ((1 + v6 % 9 % 2 : Nat) : Int) from rfl]; exact IntWalk.i64_in _ (by omega))); conv => whnf)
     | (refine AAr.i64 ?_ ?_; (focus omega); conv => whnf))
    refine VReq.mk (app_ok (by simp only [List.length_map, List.length_cons, List.length_nil]; omega) (by kernel_rfl)) ?_
    conv => whnf
    exact aback ⟨out ++ [⟨cl, (sv : Int) + 1, 1, (tm : Int) + v1, idT v3, xn, [], 1 + ((v8 / 4 : Nat) : Int), ((1 + v6 % 9 % 2 : Nat) : Int) + ((v7 / 11 : Nat) : Int), 0⟩], p8, tm + v1, sq.set v2 (sv + 1), v2⟩ [(2, .lab 6)] [] rfl (by show 60 - (out ++ [_]).length < 60 - out.length; rw [List.length_append]; simp; omega) (hJ.next hlt hp8 (by omega) hv2 hsb1 rfl ⟨hcm, ⟨v3, hv3, rfl⟩, (by dsimp only; omega), (by dsimp only; omega), .inl ⟨rfl, ⟨v5 / 7, by omega, hxe⟩, rfl, (by dsimp only; omega), (by dsimp only; omega), rfl⟩⟩) ⟨(by repeat' (first | rfl | trivial | apply And.intro)), ⟨rfl, rfl, List.map_set.symm⟩, ⟨rfl, rfl, enE_app out ⟨cl, (sv : Int) + 1, 1, (tm : Int) + v1, idT v3, xn, [], 1 + ((v8 / 4 : Nat) : Int), ((1 + v6 % 9 % 2 : Nat) : Int) + ((v7 / 11 : Nat) : Int), 0⟩⟩, trivial⟩ ⟨rfl, rfl, rfl, trivial⟩
   ·conv => whnf
    obtain ⟨v5, p5, hv5, hp5, c5⟩ := nxC hL hp4 8 (by decide) (by decide)
    obtain ⟨v6, p6, hv6, hp6, c6⟩ := nxC hL hp5 10 (by decide) (by decide)
    obtain ⟨v7, p7, hv7, hp7, c7⟩ := nxC hL hp6 12 (by decide) (by decide)
    obtain ⟨v8, p8, hv8, hp8, c8⟩ := nxC hL hp7 5 (by decide) (by decide)
    obtain ⟨xn, hxn⟩ : ∃ xn, expT[v5 / 7]? = some xn := ⟨_, List.getElem?_eq_getElem (by have : expT.length = 4 := rfl; omega)⟩
    have hxe : xn = expT.getD (v5 / 7) [] := by rw [List.getD_eq_getElem?_getD, hxn, Option.getD_some]
    (refine adraw pln10 [0, 3] (by kernel_rfl) ?_; conv => whnf)
    (refine acallF [] (by kernel_rfl) (expTA) ?_ ?_; (focus (repeat' (first | rfl | trivial | apply And.intro))))
    rintro _ _ _ ⟨rfl, rfl, rfl⟩
    conv => whnf
    repeat' (first
     | (refine And.intro ?_ ?_ <;> (conv => whnf))
     | (refine acallM [0] [] (by kernel_rfl) c5 rfl ?_ ?_ ?_; (focus ((repeat' (first | rfl | trivial | apply And.intro)); done)); (focus ((repeat' (first | rfl | trivial | apply And.intro)); done)); rintro _ _ _ ⟨rfl, rfl, rfl⟩; refine ⟨rfl, ?_⟩; conv => whnf)
     | (refine acallM [0] [] (by kernel_rfl) c6 rfl ?_ ?_ ?_; (focus ((repeat' (first | rfl | trivial | apply And.intro)); done)); (focus ((repeat' (first | rfl | trivial | apply And.intro)); done)); rintro _ _ _ ⟨rfl, rfl, rfl⟩; refine ⟨rfl, ?_⟩; conv => whnf)
     | (refine acallM [0] [] (by kernel_rfl) c7 rfl ?_ ?_ ?_; (focus ((repeat' (first | rfl | trivial | apply And.intro)); done)); (focus ((repeat' (first | rfl | trivial | apply And.intro)); done)); rintro _ _ _ ⟨rfl, rfl, rfl⟩; refine ⟨rfl, ?_⟩; conv => whnf)
     | (refine acallM [0] [] (by kernel_rfl) c8 rfl ?_ ?_ ?_; (focus ((repeat' (first | rfl | trivial | apply And.intro)); done)); (focus ((repeat' (first | rfl | trivial | apply And.intro)); done)); rintro _ _ _ ⟨rfl, rfl, rfl⟩; refine ⟨rfl, ?_⟩; conv => whnf)
     | (refine VReq.mk (by decide) ?_; conv => whnf)
     | (refine AIn.mk' (v5 / 7) rfl (by rw [List.length_map]; have : expT.length = 4 := rfl; omega) ?_; conv => whnf)
     | (refine ARd.mapAt hxn ?_; conv => whnf)
     | (refine AAr.div v5 7 (by omega) ?_; conv => whnf)
     | (refine AAr.div v7 11 (by omega) ?_; conv => whnf)
     | (refine AAr.div v8 4 (by omega) ?_; conv => whnf)
     | (refine AAr.to (y := ((1 + v6 % 9 % 2 : Nat) : Int)) ?_ ?_; (focus (rw [show (1 : Int) + ((v6 : Int).tmod 9).tmod 2 = ((1 + v6 % 9 % 2 : Nat) : Int) from rfl]; exact IntWalk.i64_in _ (by omega))); conv => whnf)
     | (refine AAr.i64 ?_ ?_; (focus omega); conv => whnf))
    refine VReq.mk (app_ok (by simp only [List.length_map, List.length_cons, List.length_nil]; omega) (by kernel_rfl)) ?_
    conv => whnf
    exact aback ⟨out ++ [⟨cl, (sv : Int) + 1, 1, (tm : Int) + v1, idT v3, xn, [], 1 + ((v8 / 4 : Nat) : Int), ((1 + v6 % 9 % 2 : Nat) : Int) + ((v7 / 11 : Nat) : Int), 0⟩], p8, tm + v1, sq.set v2 (sv + 1), v2⟩ [(2, .lab 6)] [] rfl (by show 60 - (out ++ [_]).length < 60 - out.length; rw [List.length_append]; simp; omega) (hJ.next hlt hp8 (by omega) hv2 hsb1 rfl ⟨hcm, ⟨v3, hv3, rfl⟩, (by dsimp only; omega), (by dsimp only; omega), .inl ⟨rfl, ⟨v5 / 7, by omega, hxe⟩, rfl, (by dsimp only; omega), (by dsimp only; omega), rfl⟩⟩) ⟨(by repeat' (first | rfl | trivial | apply And.intro)), ⟨rfl, rfl, List.map_set.symm⟩, ⟨rfl, rfl, enE_app out ⟨cl, (sv : Int) + 1, 1, (tm : Int) + v1, idT v3, xn, [], 1 + ((v8 / 4 : Nat) : Int), ((1 + v6 % 9 % 2 : Nat) : Int) + ((v7 / 11 : Nat) : Int), 0⟩⟩, trivial⟩ ⟨rfl, rfl, rfl, trivial⟩
   ·conv => whnf
    obtain ⟨v5, p5, hv5, hp5, c5⟩ := nxC hL hp4 6 (by decide) (by decide)
    refine acallM [0] [] (by kernel_rfl) c5 rfl ?_ ?_ ?_; (focus ((repeat' (first | rfl | trivial | apply And.intro)); done)); (focus ((repeat' (first | rfl | trivial | apply And.intro)); done)); rintro _ _ _ ⟨rfl, rfl, rfl⟩; refine ⟨rfl, ?_⟩; conv => whnf
    (refine adraw pln10 [] (by kernel_rfl) ?_; conv => whnf)
    have hi5 : AFn Tryz.prog GS 15 [iv v5] 0 [] (Is (tv (idT v5))) := AFn.up (idTA _ (by omega)) GS
    have hi6 : AFn Tryz.prog GS 15 [iv ((v5 : Int) + 1)] 0 [] (Is (tv (idT (v5 + 1)))) := AFn.up (idTA (v5 + 1) (by omega)) GS
    (refine acall [] (by kernel_rfl) (hi5) rfl ?_ ?_; (focus ((repeat' (first | rfl | trivial | apply And.intro)); done)); (conv => whnf))
    apply vif_split <;> intro h
    ·conv => whnf
     refine AAr.i64 (by omega) ?_
     conv => whnf
     (refine acall [] (by kernel_rfl) (hi6) rfl ?_ ?_; (focus ((repeat' (first | rfl | trivial | apply And.intro)); done)); (conv => whnf))
     refine VReq.mk (app_ok (by simp only [List.length_map, List.length_cons, List.length_nil]; omega) (by kernel_rfl)) ?_
     conv => whnf
     exact aback ⟨out ++ [⟨cl, (sv : Int) + 1, 3, (tm : Int) + v1, idT v3, [], idT (v5 + 1), 0, 0, 0⟩], p5, tm + v1, sq.set v2 (sv + 1), v2⟩ [(2, .lab 5)] [] rfl (by show 60 - (out ++ [_]).length < 60 - out.length; rw [List.length_append]; simp; omega) (hJ.next hlt hp5 (by omega) hv2 hsb1 rfl ⟨hcm, ⟨v3, hv3, rfl⟩, (by dsimp only; omega), (by dsimp only; omega), .inr (.inr ⟨rfl, rfl, ⟨v5 + 1, by omega, rfl⟩, idT_ne1 hv5 hv3 h, rfl, rfl, rfl⟩)⟩) ⟨(by repeat' (first | rfl | trivial | apply And.intro)), ⟨rfl, rfl, List.map_set.symm⟩, ⟨rfl, rfl, enE_app out ⟨cl, (sv : Int) + 1, 3, (tm : Int) + v1, idT v3, [], idT (v5 + 1), 0, 0, 0⟩⟩, trivial⟩ ⟨rfl, rfl, rfl, trivial⟩
    ·conv => whnf
     (refine acall [] (by kernel_rfl) (hi5) rfl ?_ ?_; (focus ((repeat' (first | rfl | trivial | apply And.intro)); done)); (conv => whnf))
     refine VReq.mk (app_ok (by simp only [List.length_map, List.length_cons, List.length_nil]; omega) (by kernel_rfl)) ?_
     conv => whnf
     exact aback ⟨out ++ [⟨cl, (sv : Int) + 1, 3, (tm : Int) + v1, idT v3, [], idT v5, 0, 0, 0⟩], p5, tm + v1, sq.set v2 (sv + 1), v2⟩ [(2, .lab 5)] [] rfl (by show 60 - (out ++ [_]).length < 60 - out.length; rw [List.length_append]; simp; omega) (hJ.next hlt hp5 (by omega) hv2 hsb1 rfl ⟨hcm, ⟨v3, hv3, rfl⟩, (by dsimp only; omega), (by dsimp only; omega), .inr (.inr ⟨rfl, rfl, ⟨v5, by omega, rfl⟩, idT_ne0 h, rfl, rfl, rfl⟩)⟩) ⟨(by repeat' (first | rfl | trivial | apply And.intro)), ⟨rfl, rfl, List.map_set.symm⟩, ⟨rfl, rfl, enE_app out ⟨cl, (sv : Int) + 1, 3, (tm : Int) + v1, idT v3, [], idT v5, 0, 0, 0⟩⟩, trivial⟩ ⟨rfl, rfl, rfl, trivial⟩
   ·repeat' (refine vif_false (beq_eq_false_iff_ne.2 (by omega)) ?_; conv => whnf)
    obtain ⟨v5, p5, hv5, hp5, c5⟩ := nxC hL hp4 3 (by decide) (by decide)
    obtain ⟨v6, p6, hv6, hp6, c6⟩ := nxC hL hp5 40 (by decide) (by decide)
    obtain ⟨xn, hxn⟩ : ∃ xn, namT[v5 / 2]? = some xn := ⟨_, List.getElem?_eq_getElem (by have : namT.length = 2 := rfl; omega)⟩
    have hxe : xn = namT.getD (v5 / 2) [] := by rw [List.getD_eq_getElem?_getD, hxn, Option.getD_some]
    (refine adraw pln10 [0, 3] (by kernel_rfl) ?_; conv => whnf)
    (refine acallF [] (by kernel_rfl) (namTA) ?_ ?_; (focus (repeat' (first | rfl | trivial | apply And.intro))))
    rintro _ _ _ ⟨rfl, rfl, rfl⟩
    conv => whnf
    repeat' (first
     | (refine And.intro ?_ ?_ <;> (conv => whnf))
     | (refine acallM [0] [] (by kernel_rfl) c5 rfl ?_ ?_ ?_; (focus ((repeat' (first | rfl | trivial | apply And.intro)); done)); (focus ((repeat' (first | rfl | trivial | apply And.intro)); done)); rintro _ _ _ ⟨rfl, rfl, rfl⟩; refine ⟨rfl, ?_⟩; conv => whnf)
     | (refine acallM [0] [] (by kernel_rfl) c6 rfl ?_ ?_ ?_; (focus ((repeat' (first | rfl | trivial | apply And.intro)); done)); (focus ((repeat' (first | rfl | trivial | apply And.intro)); done)); rintro _ _ _ ⟨rfl, rfl, rfl⟩; refine ⟨rfl, ?_⟩; conv => whnf)
     | (refine VReq.mk (by decide) ?_; conv => whnf)
     | (refine AIn.mk' (v5 / 2) rfl (by rw [List.length_map]; have : namT.length = 2 := rfl; omega) ?_; conv => whnf)
     | (refine ARd.mapAt hxn ?_; conv => whnf)
     | (refine AAr.div v5 2 (by omega) ?_; conv => whnf)
     | (refine AAr.i64 ?_ ?_; (focus omega); conv => whnf))
    refine VReq.mk (app_ok (by simp only [List.length_map, List.length_cons, List.length_nil]; omega) (by kernel_rfl)) ?_
    conv => whnf
    exact aback ⟨out ++ [⟨cl, (sv : Int) + 1, 2, (tm : Int) + v1, idT v3, xn, [], 0, 0, (v6 : Int) - 4⟩], p6, tm + v1, sq.set v2 (sv + 1), v2⟩ [(2, .lab 6)] [] rfl (by show 60 - (out ++ [_]).length < 60 - out.length; rw [List.length_append]; simp; omega) (hJ.next hlt hp6 (by omega) hv2 hsb1 rfl ⟨hcm, ⟨v3, hv3, rfl⟩, (by dsimp only; omega), (by dsimp only; omega), .inr (.inl ⟨rfl, ⟨v5 / 2, by omega, hxe⟩, rfl, rfl, rfl, (by dsimp only; omega)⟩)⟩) ⟨(by repeat' (first | rfl | trivial | apply And.intro)), ⟨rfl, rfl, List.map_set.symm⟩, ⟨rfl, rfl, enE_app out ⟨cl, (sv : Int) + 1, 2, (tm : Int) + v1, idT v3, xn, [], 0, 0, (v6 : Int) - 4⟩⟩, trivial⟩ ⟨rfl, rfl, rfl, trivial⟩
 ·conv => whnf
  refine AAr.i64 (by dsimp only; omega) ?_
  conv => whnf
  refine AIn.mk' v2 rfl (by rw [List.length_map, hsl]; exact hv2) ?_
  conv => whnf
  refine ARd.mapAt hsv ?_
  conv => whnf
  refine AAr.i64 (by omega) ?_
  conv => whnf
  refine AIn.mk' v2 rfl (by rw [List.length_map, hsl]; exact hv2) ?_
  conv => whnf
  refine ARd.mapAt hsv ?_
  conv => whnf
  refine adrawC pln10 [0] [(10, 10), (44, 56)] 4 [(10, .ptr 3 0)] [(0, srB L (nxA L p2)), (1, .rows 3 1 (((sq.map enN).set v2 (enN (sv + 1))))), (2, .rows 38 10 (out.map enE)), (3, .var 38 [tv cl, iv ((sv : Int) + 1), iv 0, iv ((tm : Int) + v1), tv (idT (nxV L p2 6)), tv [], tv [], iv 0, iv 0, iv 0])] (by kernel_rfl) (by kernel_rfl) ?_ ?_
  ·conv => whnf
   repeat' (first
    | (refine And.intro ?_ ?_ <;> (conv => whnf))
    | (refine AIn.mk' v2 rfl hv2 ?_; conv => whnf)
    | (refine ARd.mapAt (enc := enT) (xs := cliT) hcl ?_; conv => whnf)
    | (refine AIn.mk' v2 rfl (by rw [List.length_set, List.length_map, hsl]; exact hv2) ?_; conv => whnf)
    | (refine ARd.set (by rw [List.length_map, hsl]; exact hv2) ?_; conv => whnf)
    | (refine acallM [0] [] (by kernel_rfl) (nextA L p2 6 (by decide) (by decide) (by omega) hp2) rfl (by repeat' (first | rfl | trivial | apply And.intro)) (by repeat' (first | rfl | trivial | apply And.intro)) ?_; rintro _ _ _ ⟨rfl, rfl, rfl⟩; refine ⟨rfl, ?_⟩; conv => whnf)
    | ((refine acall [] (by kernel_rfl) (hid) rfl ?_ ?_; (focus ((repeat' (first | rfl | trivial | apply And.intro)); done)); (conv => whnf))))
   all_goals first
    | (refine arbD [(3, .lab 3)] [] ?_ ?_ ?_; (focus rfl); (focus (repeat' (first | rfl | trivial | apply And.intro))); (focus (repeat' (first | rfl | trivial | apply And.intro))); done)
    | (refine arbD [(3, .lab 4)] [] ?_ ?_ ?_; (focus rfl); (focus (repeat' (first | rfl | trivial | apply And.intro))); (focus (repeat' (first | rfl | trivial | apply And.intro))); done)
    | (refine arbD [(3, .lab 5)] [] ?_ ?_ ?_; (focus rfl); (focus (repeat' (first | rfl | trivial | apply And.intro))); (focus (repeat' (first | rfl | trivial | apply And.intro))); done)
  have hp3 := nxA_le (L := L) hp2
  generalize nxV L p2 6 = v3 at *
  generalize nxA L p2 = p3 at *
  conv => whnf
  refine acallM [0] [] (by kernel_rfl) (nextA L p3 8 (by decide) (by decide) (by omega) hp3) rfl (by repeat' (first | rfl | trivial | apply And.intro)) (by repeat' (first | rfl | trivial | apply And.intro)) ?_
  rintro _ _ _ ⟨rfl, rfl, rfl⟩
  refine ⟨rfl, ?_⟩
  conv => whnf
  have hv4 := nxV_lt L p3 8 (by decide)
  have hp4 := nxA_le (L := L) hp3
  generalize nxV L p3 8 = v4 at *
  generalize nxA L p3 = p4 at *
  rcases (by omega : v4 = 0 ∨ v4 = 1 ∨ v4 = 2 ∨ v4 = 3 ∨ 4 ≤ v4) with rfl | rfl | rfl | rfl | h4
  ·conv => whnf
   obtain ⟨v5, p5, hv5, hp5, c5⟩ := nxC hL hp4 8 (by decide) (by decide)
   obtain ⟨v6, p6, hv6, hp6, c6⟩ := nxC hL hp5 10 (by decide) (by decide)
   obtain ⟨v7, p7, hv7, hp7, c7⟩ := nxC hL hp6 12 (by decide) (by decide)
   obtain ⟨v8, p8, hv8, hp8, c8⟩ := nxC hL hp7 5 (by decide) (by decide)
   obtain ⟨xn, hxn⟩ : ∃ xn, expT[v5 / 7]? = some xn := ⟨_, List.getElem?_eq_getElem (by have : expT.length = 4 := rfl; omega)⟩
   have hxe : xn = expT.getD (v5 / 7) [] := by rw [List.getD_eq_getElem?_getD, hxn, Option.getD_some]
   (refine adraw pln10 [0, 3] (by kernel_rfl) ?_; conv => whnf)
   (refine acallF [] (by kernel_rfl) (expTA) ?_ ?_; (focus (repeat' (first | rfl | trivial | apply And.intro))))
   rintro _ _ _ ⟨rfl, rfl, rfl⟩
   conv => whnf
   repeat' (first
    | (refine And.intro ?_ ?_ <;> (conv => whnf))
    | (refine acallM [0] [] (by kernel_rfl) c5 rfl ?_ ?_ ?_; (focus ((repeat' (first | rfl | trivial | apply And.intro)); done)); (focus ((repeat' (first | rfl | trivial | apply And.intro)); done)); rintro _ _ _ ⟨rfl, rfl, rfl⟩; refine ⟨rfl, ?_⟩; conv => whnf)
    | (refine acallM [0] [] (by kernel_rfl) c6 rfl ?_ ?_ ?_; (focus ((repeat' (first | rfl | trivial | apply And.intro)); done)); (focus ((repeat' (first | rfl | trivial | apply And.intro)); done)); rintro _ _ _ ⟨rfl, rfl, rfl⟩; refine ⟨rfl, ?_⟩; conv => whnf)
    | (refine acallM [0] [] (by kernel_rfl) c7 rfl ?_ ?_ ?_; (focus ((repeat' (first | rfl | trivial | apply And.intro)); done)); (focus ((repeat' (first | rfl | trivial | apply And.intro)); done)); rintro _ _ _ ⟨rfl, rfl, rfl⟩; refine ⟨rfl, ?_⟩; conv => whnf)
    | (refine acallM [0] [] (by kernel_rfl) c8 rfl ?_ ?_ ?_; (focus ((repeat' (first | rfl | trivial | apply And.intro)); done)); (focus ((repeat' (first | rfl | trivial | apply And.intro)); done)); rintro _ _ _ ⟨rfl, rfl, rfl⟩; refine ⟨rfl, ?_⟩; conv => whnf)
    | (refine VReq.mk (by decide) ?_; conv => whnf)
    | (refine AIn.mk' (v5 / 7) rfl (by rw [List.length_map]; have : expT.length = 4 := rfl; omega) ?_; conv => whnf)
    | (refine ARd.mapAt hxn ?_; conv => whnf)
    | (refine AAr.div v5 7 (by omega) ?_; conv => whnf)
    | (refine AAr.div v7 11 (by omega) ?_; conv => whnf)
    | (refine AAr.div v8 4 (by omega) ?_; conv => whnf)
    | (refine AAr.to (y := ((1 + v6 % 9 % 2 : Nat) : Int)) ?_ ?_; (focus (rw [show (1 : Int) + ((v6 : Int).tmod 9).tmod 2 = ((1 + v6 % 9 % 2 : Nat) : Int) from rfl]; exact IntWalk.i64_in _ (by omega))); conv => whnf)
    | (refine AAr.i64 ?_ ?_; (focus omega); conv => whnf))
   refine VReq.mk (app_ok (by simp only [List.length_map, List.length_cons, List.length_nil]; omega) (by kernel_rfl)) ?_
   conv => whnf
   exact aback ⟨out ++ [⟨cl, (sv : Int) + 1, 1, (tm : Int) + v1, idT v3, xn, [], 1 + ((v8 / 4 : Nat) : Int), ((1 + v6 % 9 % 2 : Nat) : Int) + ((v7 / 11 : Nat) : Int), 0⟩], p8, tm + v1, sq.set v2 (sv + 1), v2⟩ [(2, .lab 6)] [] rfl (by show 60 - (out ++ [_]).length < 60 - out.length; rw [List.length_append]; simp; omega) (hJ.next hlt hp8 (by omega) hv2 hsb1 rfl ⟨hcm, ⟨v3, hv3, rfl⟩, (by dsimp only; omega), (by dsimp only; omega), .inl ⟨rfl, ⟨v5 / 7, by omega, hxe⟩, rfl, (by dsimp only; omega), (by dsimp only; omega), rfl⟩⟩) ⟨(by repeat' (first | rfl | trivial | apply And.intro)), ⟨rfl, rfl, List.map_set.symm⟩, ⟨rfl, rfl, enE_app out ⟨cl, (sv : Int) + 1, 1, (tm : Int) + v1, idT v3, xn, [], 1 + ((v8 / 4 : Nat) : Int), ((1 + v6 % 9 % 2 : Nat) : Int) + ((v7 / 11 : Nat) : Int), 0⟩⟩, trivial⟩ ⟨rfl, rfl, rfl, trivial⟩
  ·conv => whnf
   obtain ⟨v5, p5, hv5, hp5, c5⟩ := nxC hL hp4 8 (by decide) (by decide)
   obtain ⟨v6, p6, hv6, hp6, c6⟩ := nxC hL hp5 10 (by decide) (by decide)
   obtain ⟨v7, p7, hv7, hp7, c7⟩ := nxC hL hp6 12 (by decide) (by decide)
   obtain ⟨v8, p8, hv8, hp8, c8⟩ := nxC hL hp7 5 (by decide) (by decide)
   obtain ⟨xn, hxn⟩ : ∃ xn, expT[v5 / 7]? = some xn := ⟨_, List.getElem?_eq_getElem (by have : expT.length = 4 := rfl; omega)⟩
   have hxe : xn = expT.getD (v5 / 7) [] := by rw [List.getD_eq_getElem?_getD, hxn, Option.getD_some]
   (refine adraw pln10 [0, 3] (by kernel_rfl) ?_; conv => whnf)
   (refine acallF [] (by kernel_rfl) (expTA) ?_ ?_; (focus (repeat' (first | rfl | trivial | apply And.intro))))
   rintro _ _ _ ⟨rfl, rfl, rfl⟩
   conv => whnf
   repeat' (first
    | (refine And.intro ?_ ?_ <;> (conv => whnf))
    | (refine acallM [0] [] (by kernel_rfl) c5 rfl ?_ ?_ ?_; (focus ((repeat' (first | rfl | trivial | apply And.intro)); done)); (focus ((repeat' (first | rfl | trivial | apply And.intro)); done)); rintro _ _ _ ⟨rfl, rfl, rfl⟩; refine ⟨rfl, ?_⟩; conv => whnf)
    | (refine acallM [0] [] (by kernel_rfl) c6 rfl ?_ ?_ ?_; (focus ((repeat' (first | rfl | trivial | apply And.intro)); done)); (focus ((repeat' (first | rfl | trivial | apply And.intro)); done)); rintro _ _ _ ⟨rfl, rfl, rfl⟩; refine ⟨rfl, ?_⟩; conv => whnf)
    | (refine acallM [0] [] (by kernel_rfl) c7 rfl ?_ ?_ ?_; (focus ((repeat' (first | rfl | trivial | apply And.intro)); done)); (focus ((repeat' (first | rfl | trivial | apply And.intro)); done)); rintro _ _ _ ⟨rfl, rfl, rfl⟩; refine ⟨rfl, ?_⟩; conv => whnf)
    | (refine acallM [0] [] (by kernel_rfl) c8 rfl ?_ ?_ ?_; (focus ((repeat' (first | rfl | trivial | apply And.intro)); done)); (focus ((repeat' (first | rfl | trivial | apply And.intro)); done)); rintro _ _ _ ⟨rfl, rfl, rfl⟩; refine ⟨rfl, ?_⟩; conv => whnf)
    | (refine VReq.mk (by decide) ?_; conv => whnf)
    | (refine AIn.mk' (v5 / 7) rfl (by rw [List.length_map]; have : expT.length = 4 := rfl; omega) ?_; conv => whnf)
    | (refine ARd.mapAt hxn ?_; conv => whnf)
    | (refine AAr.div v5 7 (by omega) ?_; conv => whnf)
    | (refine AAr.div v7 11 (by omega) ?_; conv => whnf)
    | (refine AAr.div v8 4 (by omega) ?_; conv => whnf)
    | (refine AAr.to (y := ((1 + v6 % 9 % 2 : Nat) : Int)) ?_ ?_; (focus (rw [show (1 : Int) + ((v6 : Int).tmod 9).tmod 2 = ((1 + v6 % 9 % 2 : Nat) : Int) from rfl]; exact IntWalk.i64_in _ (by omega))); conv => whnf)
    | (refine AAr.i64 ?_ ?_; (focus omega); conv => whnf))
   refine VReq.mk (app_ok (by simp only [List.length_map, List.length_cons, List.length_nil]; omega) (by kernel_rfl)) ?_
   conv => whnf
   exact aback ⟨out ++ [⟨cl, (sv : Int) + 1, 1, (tm : Int) + v1, idT v3, xn, [], 1 + ((v8 / 4 : Nat) : Int), ((1 + v6 % 9 % 2 : Nat) : Int) + ((v7 / 11 : Nat) : Int), 0⟩], p8, tm + v1, sq.set v2 (sv + 1), v2⟩ [(2, .lab 6)] [] rfl (by show 60 - (out ++ [_]).length < 60 - out.length; rw [List.length_append]; simp; omega) (hJ.next hlt hp8 (by omega) hv2 hsb1 rfl ⟨hcm, ⟨v3, hv3, rfl⟩, (by dsimp only; omega), (by dsimp only; omega), .inl ⟨rfl, ⟨v5 / 7, by omega, hxe⟩, rfl, (by dsimp only; omega), (by dsimp only; omega), rfl⟩⟩) ⟨(by repeat' (first | rfl | trivial | apply And.intro)), ⟨rfl, rfl, List.map_set.symm⟩, ⟨rfl, rfl, enE_app out ⟨cl, (sv : Int) + 1, 1, (tm : Int) + v1, idT v3, xn, [], 1 + ((v8 / 4 : Nat) : Int), ((1 + v6 % 9 % 2 : Nat) : Int) + ((v7 / 11 : Nat) : Int), 0⟩⟩, trivial⟩ ⟨rfl, rfl, rfl, trivial⟩
  ·conv => whnf
   obtain ⟨v5, p5, hv5, hp5, c5⟩ := nxC hL hp4 8 (by decide) (by decide)
   obtain ⟨v6, p6, hv6, hp6, c6⟩ := nxC hL hp5 10 (by decide) (by decide)
   obtain ⟨v7, p7, hv7, hp7, c7⟩ := nxC hL hp6 12 (by decide) (by decide)
   obtain ⟨v8, p8, hv8, hp8, c8⟩ := nxC hL hp7 5 (by decide) (by decide)
   obtain ⟨xn, hxn⟩ : ∃ xn, expT[v5 / 7]? = some xn := ⟨_, List.getElem?_eq_getElem (by have : expT.length = 4 := rfl; omega)⟩
   have hxe : xn = expT.getD (v5 / 7) [] := by rw [List.getD_eq_getElem?_getD, hxn, Option.getD_some]
   (refine adraw pln10 [0, 3] (by kernel_rfl) ?_; conv => whnf)
   (refine acallF [] (by kernel_rfl) (expTA) ?_ ?_; (focus (repeat' (first | rfl | trivial | apply And.intro))))
   rintro _ _ _ ⟨rfl, rfl, rfl⟩
   conv => whnf
   repeat' (first
    | (refine And.intro ?_ ?_ <;> (conv => whnf))
    | (refine acallM [0] [] (by kernel_rfl) c5 rfl ?_ ?_ ?_; (focus ((repeat' (first | rfl | trivial | apply And.intro)); done)); (focus ((repeat' (first | rfl | trivial | apply And.intro)); done)); rintro _ _ _ ⟨rfl, rfl, rfl⟩; refine ⟨rfl, ?_⟩; conv => whnf)
    | (refine acallM [0] [] (by kernel_rfl) c6 rfl ?_ ?_ ?_; (focus ((repeat' (first | rfl | trivial | apply And.intro)); done)); (focus ((repeat' (first | rfl | trivial | apply And.intro)); done)); rintro _ _ _ ⟨rfl, rfl, rfl⟩; refine ⟨rfl, ?_⟩; conv => whnf)
    | (refine acallM [0] [] (by kernel_rfl) c7 rfl ?_ ?_ ?_; (focus ((repeat' (first | rfl | trivial | apply And.intro)); done)); (focus ((repeat' (first | rfl | trivial | apply And.intro)); done)); rintro _ _ _ ⟨rfl, rfl, rfl⟩; refine ⟨rfl, ?_⟩; conv => whnf)
    | (refine acallM [0] [] (by kernel_rfl) c8 rfl ?_ ?_ ?_; (focus ((repeat' (first | rfl | trivial | apply And.intro)); done)); (focus ((repeat' (first | rfl | trivial | apply And.intro)); done)); rintro _ _ _ ⟨rfl, rfl, rfl⟩; refine ⟨rfl, ?_⟩; conv => whnf)
    | (refine VReq.mk (by decide) ?_; conv => whnf)
    | (refine AIn.mk' (v5 / 7) rfl (by rw [List.length_map]; have : expT.length = 4 := rfl; omega) ?_; conv => whnf)
    | (refine ARd.mapAt hxn ?_; conv => whnf)
    | (refine AAr.div v5 7 (by omega) ?_; conv => whnf)
    | (refine AAr.div v7 11 (by omega) ?_; conv => whnf)
    | (refine AAr.div v8 4 (by omega) ?_; conv => whnf)
    | (refine AAr.to (y := ((1 + v6 % 9 % 2 : Nat) : Int)) ?_ ?_; (focus (rw [show (1 : Int) + ((v6 : Int).tmod 9).tmod 2 = ((1 + v6 % 9 % 2 : Nat) : Int) from rfl]; exact IntWalk.i64_in _ (by omega))); conv => whnf)
    | (refine AAr.i64 ?_ ?_; (focus omega); conv => whnf))
   refine VReq.mk (app_ok (by simp only [List.length_map, List.length_cons, List.length_nil]; omega) (by kernel_rfl)) ?_
   conv => whnf
   exact aback ⟨out ++ [⟨cl, (sv : Int) + 1, 1, (tm : Int) + v1, idT v3, xn, [], 1 + ((v8 / 4 : Nat) : Int), ((1 + v6 % 9 % 2 : Nat) : Int) + ((v7 / 11 : Nat) : Int), 0⟩], p8, tm + v1, sq.set v2 (sv + 1), v2⟩ [(2, .lab 6)] [] rfl (by show 60 - (out ++ [_]).length < 60 - out.length; rw [List.length_append]; simp; omega) (hJ.next hlt hp8 (by omega) hv2 hsb1 rfl ⟨hcm, ⟨v3, hv3, rfl⟩, (by dsimp only; omega), (by dsimp only; omega), .inl ⟨rfl, ⟨v5 / 7, by omega, hxe⟩, rfl, (by dsimp only; omega), (by dsimp only; omega), rfl⟩⟩) ⟨(by repeat' (first | rfl | trivial | apply And.intro)), ⟨rfl, rfl, List.map_set.symm⟩, ⟨rfl, rfl, enE_app out ⟨cl, (sv : Int) + 1, 1, (tm : Int) + v1, idT v3, xn, [], 1 + ((v8 / 4 : Nat) : Int), ((1 + v6 % 9 % 2 : Nat) : Int) + ((v7 / 11 : Nat) : Int), 0⟩⟩, trivial⟩ ⟨rfl, rfl, rfl, trivial⟩
  ·conv => whnf
   obtain ⟨v5, p5, hv5, hp5, c5⟩ := nxC hL hp4 6 (by decide) (by decide)
   refine acallM [0] [] (by kernel_rfl) c5 rfl ?_ ?_ ?_; (focus ((repeat' (first | rfl | trivial | apply And.intro)); done)); (focus ((repeat' (first | rfl | trivial | apply And.intro)); done)); rintro _ _ _ ⟨rfl, rfl, rfl⟩; refine ⟨rfl, ?_⟩; conv => whnf
   (refine adraw pln10 [] (by kernel_rfl) ?_; conv => whnf)
   have hi5 : AFn Tryz.prog GS 15 [iv v5] 0 [] (Is (tv (idT v5))) := AFn.up (idTA _ (by omega)) GS
   have hi6 : AFn Tryz.prog GS 15 [iv ((v5 : Int) + 1)] 0 [] (Is (tv (idT (v5 + 1)))) := AFn.up (idTA (v5 + 1) (by omega)) GS
   (refine acall [] (by kernel_rfl) (hi5) rfl ?_ ?_; (focus ((repeat' (first | rfl | trivial | apply And.intro)); done)); (conv => whnf))
   apply vif_split <;> intro h
   ·conv => whnf
    refine AAr.i64 (by omega) ?_
    conv => whnf
    (refine acall [] (by kernel_rfl) (hi6) rfl ?_ ?_; (focus ((repeat' (first | rfl | trivial | apply And.intro)); done)); (conv => whnf))
    refine VReq.mk (app_ok (by simp only [List.length_map, List.length_cons, List.length_nil]; omega) (by kernel_rfl)) ?_
    conv => whnf
    exact aback ⟨out ++ [⟨cl, (sv : Int) + 1, 3, (tm : Int) + v1, idT v3, [], idT (v5 + 1), 0, 0, 0⟩], p5, tm + v1, sq.set v2 (sv + 1), v2⟩ [(2, .lab 5)] [] rfl (by show 60 - (out ++ [_]).length < 60 - out.length; rw [List.length_append]; simp; omega) (hJ.next hlt hp5 (by omega) hv2 hsb1 rfl ⟨hcm, ⟨v3, hv3, rfl⟩, (by dsimp only; omega), (by dsimp only; omega), .inr (.inr ⟨rfl, rfl, ⟨v5 + 1, by omega, rfl⟩, idT_ne1 hv5 hv3 h, rfl, rfl, rfl⟩)⟩) ⟨(by repeat' (first | rfl | trivial | apply And.intro)), ⟨rfl, rfl, List.map_set.symm⟩, ⟨rfl, rfl, enE_app out ⟨cl, (sv : Int) + 1, 3, (tm : Int) + v1, idT v3, [], idT (v5 + 1), 0, 0, 0⟩⟩, trivial⟩ ⟨rfl, rfl, rfl, trivial⟩
   ·conv => whnf
    (refine acall [] (by kernel_rfl) (hi5) rfl ?_ ?_; (focus ((repeat' (first | rfl | trivial | apply And.intro)); done)); (conv => whnf))
    refine VReq.mk (app_ok (by simp only [List.length_map, List.length_cons, List.length_nil]; omega) (by kernel_rfl)) ?_
    conv => whnf
    exact aback ⟨out ++ [⟨cl, (sv : Int) + 1, 3, (tm : Int) + v1, idT v3, [], idT v5, 0, 0, 0⟩], p5, tm + v1, sq.set v2 (sv + 1), v2⟩ [(2, .lab 5)] [] rfl (by show 60 - (out ++ [_]).length < 60 - out.length; rw [List.length_append]; simp; omega) (hJ.next hlt hp5 (by omega) hv2 hsb1 rfl ⟨hcm, ⟨v3, hv3, rfl⟩, (by dsimp only; omega), (by dsimp only; omega), .inr (.inr ⟨rfl, rfl, ⟨v5, by omega, rfl⟩, idT_ne0 h, rfl, rfl, rfl⟩)⟩) ⟨(by repeat' (first | rfl | trivial | apply And.intro)), ⟨rfl, rfl, List.map_set.symm⟩, ⟨rfl, rfl, enE_app out ⟨cl, (sv : Int) + 1, 3, (tm : Int) + v1, idT v3, [], idT v5, 0, 0, 0⟩⟩, trivial⟩ ⟨rfl, rfl, rfl, trivial⟩
  ·repeat' (refine vif_false (beq_eq_false_iff_ne.2 (by omega)) ?_; conv => whnf)
   obtain ⟨v5, p5, hv5, hp5, c5⟩ := nxC hL hp4 3 (by decide) (by decide)
   obtain ⟨v6, p6, hv6, hp6, c6⟩ := nxC hL hp5 40 (by decide) (by decide)
   obtain ⟨xn, hxn⟩ : ∃ xn, namT[v5 / 2]? = some xn := ⟨_, List.getElem?_eq_getElem (by have : namT.length = 2 := rfl; omega)⟩
   have hxe : xn = namT.getD (v5 / 2) [] := by rw [List.getD_eq_getElem?_getD, hxn, Option.getD_some]
   (refine adraw pln10 [0, 3] (by kernel_rfl) ?_; conv => whnf)
   (refine acallF [] (by kernel_rfl) (namTA) ?_ ?_; (focus (repeat' (first | rfl | trivial | apply And.intro))))
   rintro _ _ _ ⟨rfl, rfl, rfl⟩
   conv => whnf
   repeat' (first
    | (refine And.intro ?_ ?_ <;> (conv => whnf))
    | (refine acallM [0] [] (by kernel_rfl) c5 rfl ?_ ?_ ?_; (focus ((repeat' (first | rfl | trivial | apply And.intro)); done)); (focus ((repeat' (first | rfl | trivial | apply And.intro)); done)); rintro _ _ _ ⟨rfl, rfl, rfl⟩; refine ⟨rfl, ?_⟩; conv => whnf)
    | (refine acallM [0] [] (by kernel_rfl) c6 rfl ?_ ?_ ?_; (focus ((repeat' (first | rfl | trivial | apply And.intro)); done)); (focus ((repeat' (first | rfl | trivial | apply And.intro)); done)); rintro _ _ _ ⟨rfl, rfl, rfl⟩; refine ⟨rfl, ?_⟩; conv => whnf)
    | (refine VReq.mk (by decide) ?_; conv => whnf)
    | (refine AIn.mk' (v5 / 2) rfl (by rw [List.length_map]; have : namT.length = 2 := rfl; omega) ?_; conv => whnf)
    | (refine ARd.mapAt hxn ?_; conv => whnf)
    | (refine AAr.div v5 2 (by omega) ?_; conv => whnf)
    | (refine AAr.i64 ?_ ?_; (focus omega); conv => whnf))
   refine VReq.mk (app_ok (by simp only [List.length_map, List.length_cons, List.length_nil]; omega) (by kernel_rfl)) ?_
   conv => whnf
   exact aback ⟨out ++ [⟨cl, (sv : Int) + 1, 2, (tm : Int) + v1, idT v3, xn, [], 0, 0, (v6 : Int) - 4⟩], p6, tm + v1, sq.set v2 (sv + 1), v2⟩ [(2, .lab 6)] [] rfl (by show 60 - (out ++ [_]).length < 60 - out.length; rw [List.length_append]; simp; omega) (hJ.next hlt hp6 (by omega) hv2 hsb1 rfl ⟨hcm, ⟨v3, hv3, rfl⟩, (by dsimp only; omega), (by dsimp only; omega), .inr (.inl ⟨rfl, ⟨v5 / 2, by omega, hxe⟩, rfl, rfl, rfl, (by dsimp only; omega)⟩)⟩) ⟨(by repeat' (first | rfl | trivial | apply And.intro)), ⟨rfl, rfl, List.map_set.symm⟩, ⟨rfl, rfl, enE_app out ⟨cl, (sv : Int) + 1, 2, (tm : Int) + v1, idT v3, xn, [], 0, 0, (v6 : Int) - 4⟩⟩, trivial⟩ ⟨rfl, rfl, rfl, trivial⟩
section
attribute [local irreducible] best ints en bd txs dsT
theorem sameEvA (l : List Ev) (hl : l.length ≤ 1000000) : AFn Tryz.prog GS 14 [el l, el l] 0 [] (Is (bv true)) := by
 refine afn_of Tryz.func14 rfl mixed (by kernel_rfl) ?_
 conv => whnf
 apply vif_split <;> intro h
 ·exfalso; simp at h
 conv => whnf
 refine aloop ws14_1 0 [5] (fun i : Nat => [(5, iv i)]) (fun _ => []) (fun i => i ≤ l.length) (fun i => l.length - i) [] [] 0 (by kernel_rfl) (fun _ => rfl) rfl (Nat.zero_le _) trivial ⟨rfl, trivial⟩ ?_
 intro i hi
 conv => whnf
 apply vif_split <;> intro h
 ·have hlt : i < l.length := by simp at h; omega
  conv => whnf
  (refine adraw pln14 [] (by kernel_rfl) ?_; conv => whnf)
  repeat' (first
   | (refine And.intro ?_ ?_ <;> (conv => whnf))
   | (refine AIn.mk' i rfl (by rw [List.length_map]; exact hlt) ?_; conv => whnf)
   | (refine ARd.mapAt (List.getElem?_eq_getElem hlt) ?_; conv => whnf))
  refine AEq.mk (by kernel_rfl) rfl rfl ?_
  conv => whnf
  apply vif_split <;> intro h
  ·exfalso
   simp [sEq_tx] at h
  conv => whnf
  refine AAr.i64 (by omega) ?_
  conv => whnf
  exact aback (i + 1) [] [] rfl (by show l.length - (i + 1) < l.length - i; omega) hlt trivial ⟨rfl, trivial⟩
 ·conv => whnf
  exact aret [] (by repeat' (first | rfl | trivial | apply And.intro))
theorem idT_mem (n : Nat) : idT n ∈ idsT := by
 have h : n % 6 < idsT.length := by have := idsT_len; omega
 unfold idT
 rw [List.getD_eq_getElem?_getD, List.getElem?_eq_getElem h]
 exact List.getElem_mem h
theorem ids_key : ∀ s ∈ idsT, kyB s = true ∧ s.length = 3 := by decide +kernel
theorem txs_len5 (l : Tx) (h : ∀ s ∈ l, s.length ≤ 5) (hl : l.length ≤ 512) : (txs l).length ≤ 14 + 25 * l.length := by
 have h1 : ((dsT l).flatMap putT).length ≤ 15 * (dsT l).length := fm_len putT 15 (dsT l) fun s hs => by
  have := (num_len (s.length : Int)).2
  have h2 := h s ((dsT_mem l s).1 hs)
  unfold putT
  rw [List.length_append]; omega
 have h2 := dsT_len l
 have h3 := (num_len ((dsT l).length : Int)).2
 have h4 := ints_len (ixT (dsT l) l) (by rw [ixT_len]; exact hl)
 rw [ixT_len] at h4
 have e : txs l = num ((dsT l).length : Int) ++ (dsT l).flatMap putT ++ ints (ixT (dsT l) l) := by unfold txs; rfl
 rw [e]
 simp only [List.length_append]
 omega
structure Sht (e : Ev) : Prop where
 s1 : e.client.length ≤ 5
 s2 : e.id.length ≤ 5
 s3 : e.name.length ≤ 5
 s4 : e.other.length ≤ 5
theorem chb_len5 {l : List Ev} (hl : l.length ≤ 16) (h : ∀ e ∈ l, Sht e) : (chb l).length ≤ 2700 := by
 have sh : ∀ f : Ev → By, (∀ e ∈ l, (f e).length ≤ 5) → (txs (l.map f)).length ≤ 414 := fun f hf => by
  have := txs_len5 (l.map f) (fun s hs => by obtain ⟨e, he, rfl⟩ := List.mem_map.1 hs; exact hf e he) (by rw [List.length_map]; omega)
  rw [List.length_map] at this
  omega
 have ih : ∀ f : Ev → Int, (ints (l.map f)).length ≤ 164 := fun f => by
  have := ints_len (l.map f) (by rw [List.length_map]; omega)
  rw [List.length_map] at this
  omega
 have t1 := sh (·.client) fun e he => (h e he).s1
 have t2 := sh (·.id) fun e he => (h e he).s2
 have t3 := sh (·.name) fun e he => (h e he).s3
 have t4 := sh (·.other) fun e he => (h e he).s4
 have i1 := ih (·.seq)
 have i2 := ih (·.kind)
 have i3 := ih (·.time)
 have i4 := ih (·.ver)
 have i5 := ih (·.arm)
 have i6 := ih (·.val)
 have n1 := num_len (lims l).1
 have n2 := num_len (lims l).2
 have n3 := num_len ((bdy l).length : Int)
 unfold chb
 generalize num ((bdy l).length : Int) = q at *
 unfold bdy
 simp only [List.length_append]
 omega
theorem tab_lenC {l : List Ev} (hl : l.length ≤ 512) (h : ∀ e ∈ l, Sht e) : (tab l).length ≤ 10 + 2700 * nC l := by
 have step : ∀ i, i ≤ nC l → (tabA l i).length ≤ 10 + 2700 * i := by
  intro i
  induction i with
  | zero => intro _; have := num_len (l.length : Int); unfold tabA; simp; omega
  | succ i ih =>
   intro hi
   have h1 := ih (by omega)
   have h2 := chb_len5 (l := ch l i) (by unfold ch; rw [List.length_take]; omega) fun e he => h e (List.mem_of_mem_drop (List.mem_of_mem_take he))
   rw [tabA_succ, List.length_append]
   omega
 exact step (nC l) (Nat.le_refl _)
theorem tab_len5 {l : List Ev} (hl : l.length ≤ 512) (h : ∀ e ∈ l, Sht e) : (tab l).length ≤ 86500 := by
 have := tab_lenC hl h
 have hn : nC l ≤ 32 := by unfold nC; omega
 omega
theorem evsC_0 {l : List Ev} (h : ∀ e ∈ l, evC e = 0) : evsC l = 0 := by
 induction l with
 | nil => rfl
 | cons e r ih =>
  unfold evsC
  rw [if_neg (by simp [h e List.mem_cons_self])]
  exact ih fun x hx => h x (List.mem_cons_of_mem _ hx)
end
section
attribute [local irreducible] best ints en bd txs dsT
theorem loT_le : ∀ (l : List Ev) (a : Int), loT a l ≤ a ∧ ∀ e ∈ l, loT a l ≤ e.time := by
 intro l
 induction l with
 | nil => intro a; exact ⟨Int.le_refl _, fun e h => by cases h⟩
 | cons x r ih =>
  intro a
  have h := ih (min a x.time)
  have e1 : loT a (x :: r) = loT (min a x.time) r := rfl
  rw [e1]
  refine ⟨by omega, fun e he => ?_⟩
  rcases List.mem_cons.1 he with rfl | he
  ·omega
  ·exact h.2 e he
theorem hiT_ge : ∀ (l : List Ev) (a : Int), a ≤ hiT a l ∧ ∀ e ∈ l, e.time ≤ hiT a l := by
 intro l
 induction l with
 | nil => intro a; exact ⟨Int.le_refl _, fun e h => by cases h⟩
 | cons x r ih =>
  intro a
  have h := ih (max a x.time)
  have e1 : hiT a (x :: r) = hiT (max a x.time) r := rfl
  rw [e1]
  refine ⟨by omega, fun e he => ?_⟩
  rcases List.mem_cons.1 he with rfl | he
  ·omega
  ·exact h.2 e he
theorem lims_in (l : List Ev) : ∀ e ∈ l, (lims l).1 ≤ e.time ∧ e.time ≤ (lims l).2 := by
 intro e he
 cases l with
 | nil => cases he
 | cons x r => exact ⟨(loT_le (x :: r) x.time).2 e he, (hiT_ge (x :: r) x.time).2 e he⟩
theorem sel_no {f t : Int} {l : List Ev} (h : hit f t l = false) : sel f t l = [] := by
 unfold sel
 rw [List.filter_eq_nil_iff]
 intro e he
 have := lims_in l e he
 unfold hit at h
 unfold inT
 simp only [Bool.and_eq_true, decide_eq_true_eq, Bool.and_eq_false_iff, decide_eq_false_iff_not] at h ⊢
 omega
theorem selC_eq (f t : Int) (l : List Ev) : ∀ i, selC f t l i = sel f t (l.take (16 * i)) := by
 intro i
 induction i with
 | zero => simp [selC, sel]
 | succ i ih =>
  have e1 : l.take (16 * (i + 1)) = l.take (16 * i) ++ ch l i := by
   unfold ch
   rw [show 16 * (i + 1) = 16 * i + 16 by omega, List.take_add]
  rw [selC_succ, ih, e1]
  unfold sel
  rw [List.filter_append]
  congr 1
  by_cases h : hit f t (ch l i) = true
  ·rw [if_pos h]
  ·rw [if_neg h]
   exact (sel_no (by simpa using h)).symm
theorem selC_all (f t : Int) (l : List Ev) : selC f t l (nC l) = sel f t l := by
 rw [selC_eq, List.take_of_length_le (by unfold nC; omega)]
theorem cli_key : ∀ s ∈ cliT, kyB s = true ∧ s.length = 3 := by decide +kernel
theorem exp_key : ∀ k, k < 2 → kyB (expT.getD k []) = true ∧ (expT.getD k []).length ≤ 5 := by decide +kernel
theorem nam_key : ∀ k, k < 2 → kyB (namT.getD k []) = true ∧ (namT.getD k []).length ≤ 5 := by decide +kernel
theorem EvP.all {e : Ev} (h : EvP e) : e.ok ∧ evC e = 0 ∧ Sht e := by
 obtain ⟨hc, ⟨k, hk, hi⟩, hs, ht, hkd⟩ := h
 obtain ⟨c1, c2⟩ := cli_key _ hc
 obtain ⟨i1, i2⟩ := ids_key _ (idT_mem k)
 rw [← hi] at i1 i2
 have z : ∀ k : Int, -1000 ≤ k → k ≤ 1000000 → I64 k := fun k a b => by unfold I64; omega
 rcases hkd with ⟨k1, ⟨n, hn, hnm⟩, ho, ha, hv, hvl⟩ | ⟨k1, ⟨n, hn, hnm⟩, ho, hv, ha, hvl⟩ | ⟨k1, hnm, ⟨n, hn, ho⟩, hne, hv, ha, hvl⟩
 ·obtain ⟨n1, n2⟩ := exp_key n hn
  rw [← hnm] at n1 n2
  refine ⟨⟨z _ (by omega) (by omega), z _ (by omega) (by omega), z _ (by omega) (by omega), z _ (by omega) (by omega), z _ (by omega) (by omega), z _ (by omega) (by omega), by omega, by omega, by omega, by rw [ho]; simp⟩, ?_, ⟨by omega, by omega, by omega, by rw [ho]; simp⟩⟩
  unfold evC
  rw [if_neg (by simp [k1]), if_neg (by simp [k1, c1, i1, n1]), if_neg (by omega), if_neg (by omega), if_neg (by omega), if_neg (by simp [k1, ho, hvl])]
 ·obtain ⟨n1, n2⟩ := nam_key n hn
  rw [← hnm] at n1 n2
  refine ⟨⟨z _ (by omega) (by omega), z _ (by omega) (by omega), z _ (by omega) (by omega), z _ (by omega) (by omega), z _ (by omega) (by omega), z _ (by omega) (by omega), by omega, by omega, by omega, by rw [ho]; simp⟩, ?_, ⟨by omega, by omega, by omega, by rw [ho]; simp⟩⟩
  unfold evC
  rw [if_neg (by simp [k1]), if_neg (by simp [k1, c1, i1, n1]), if_neg (by omega), if_neg (by omega), if_neg (by omega), if_neg (by simp [k1, ho, hv, ha])]
 ·obtain ⟨n1, n2⟩ := ids_key _ (idT_mem n)
  rw [← ho] at n1 n2
  refine ⟨⟨z _ (by omega) (by omega), z _ (by omega) (by omega), z _ (by omega) (by omega), z _ (by omega) (by omega), z _ (by omega) (by omega), z _ (by omega) (by omega), by omega, by omega, by rw [hnm]; simp, by omega⟩, ?_, ⟨by omega, by omega, by rw [hnm]; simp, by omega⟩⟩
  unfold evC
  rw [if_neg (by simp [k1]), if_neg (by simp [k1, c1, i1, n1]), if_neg (by omega), if_neg (by omega), if_neg (by omega), if_neg (by simp [k1, hnm, hv, ha, hvl, hne])]
end
section
attribute [local irreducible] best ints en bd txs dsT bdy chb lims evC
theorem tabCase (b : By) : (∃ l, (∀ e ∈ l, e.ok) ∧ tbE l = 0 ∧ tab l = b) ∨ ∀ l e, RTBs b l e → l = [] ∧ e = 1 := by
 by_cases h : ∃ l, (∀ e ∈ l, e.ok) ∧ tbE l = 0 ∧ tab l = b
 ·exact .inl h
 ·refine .inr fun l e hr => ?_
  rcases hr.2.2.1 with ⟨_, h1, h2⟩ | ⟨h1, h2⟩
  ·exact absurd ⟨l, hr.1, h1, h2⟩ h
  ·exact ⟨h2, h1⟩
theorem scanBad1 (b : By) (f t : Int) (hb : b.length ≤ 100000) (h : ∀ l e, RTBs b l e → l = [] ∧ e = 1) : AFn Tryz.prog GS 16 [bs b, iv f, iv t] 0 [] (Is (.tup [el [], iv 0, iv 1])) := by
 refine afnY_of Tryz.func16 rfl mixed (by kernel_rfl) ?_
 conv => whnf
 (refine acallF [] (by kernel_rfl) (readTableA b hb) ?_ ?_; (focus (repeat' (first | rfl | trivial | apply And.intro))))
 rintro _ _ _ ⟨l2, f2, hq, rfl, rfl, rfl⟩
 obtain ⟨rfl, rfl⟩ := h _ _ hq
 conv => whnf
 exact aret [] (by repeat' (first | rfl | trivial | apply And.intro))
theorem scanBad2 (b : By) (f t : Int) (hb : b.length ≤ 100000) (h : ∀ l e, RTBs b l e → l = [] ∧ e = 1) : AFn Tryz.prog GS 17 [bs b, iv f, iv t] 0 [] (Is (.tup [el [], iv 0, iv 1])) := by
 refine afn_of Tryz.func17 rfl mixed (by kernel_rfl) ?_
 conv => whnf
 (refine acallF [] (by kernel_rfl) (readTable2A b hb) ?_ ?_; (focus (repeat' (first | rfl | trivial | apply And.intro))))
 rintro _ _ _ ⟨l2, f2, hq, rfl, rfl, rfl⟩
 obtain ⟨rfl, rfl⟩ := h _ _ hq
 conv => whnf
 exact aret [] (by repeat' (first | rfl | trivial | apply And.intro))
theorem nCs (i : Nat) : (i + 1 + 15) / 16 = if i % 16 = 0 then i / 16 + 1 else (i + 15) / 16 := by split <;> omega
theorem scan2A (l0 : List Ev) (f t : Int) (hok : ∀ e ∈ l0, e.ok) (hv : tbE l0 = 0) (hb : (tab l0).length ≤ 100000) : AFn Tryz.prog GS 17 [bs (tab l0), iv f, iv t] 0 [] (Is (.tup [el (sel f t l0), iv (cntC f t l0 (nC l0)), iv 0])) := by
 have hl := (tbE_0 hv).1
 have hvs := evsC_all (tbE_0 hv).2
 refine afn_of Tryz.func17 rfl mixed (by kernel_rfl) ?_
 conv => whnf
 (refine acallF [] (by kernel_rfl) (readTable2A (tab l0) hb) ?_ ?_; (focus (repeat' (first | rfl | trivial | apply And.intro))))
 rintro _ _ _ ⟨l, f2, hq, rfl, rfl, rfl⟩
 obtain ⟨rfl, rfl⟩ := hq.2.2.2 l0 hok hv rfl
 clear hq
 conv => whnf
 refine aloop ws17_1 1 [11, 12, 13] (fun i : Nat => [(11, .own 0), (12, iv (cntC f t l ((i + 15) / 16) : Nat)), (13, iv i)]) (fun i => [(0, .rows 38 10 ((sel f t (l.take i)).map enE))]) (fun i => i ≤ l.length) (fun i => l.length - i) [(0, .nil)] [] 0 (by kernel_rfl) (fun _ => rfl) rfl (Nat.zero_le _) ⟨rfl, trivial⟩ ⟨trivial, rfl, rfl, trivial⟩ ?_
 intro i hi
 conv => whnf
 apply vif_split <;> intro h
 ·have hlt : i < l.length := by simp at h; omega
  have hT := sel_take f t hlt
  have hcs : cntC f t l ((i + 1 + 15) / 16) = cntC f t l (if i % 16 = 0 then i / 16 + 1 else (i + 15) / 16) := by rw [nCs]
  have hin : inT f t l[i] = (decide (f ≤ l[i].time) && decide (l[i].time < t)) := rfl
  have hsl := List.length_filter_le (inT f t) (l.take i)
  rw [List.length_take] at hsl
  change (sel f t (l.take i)).length ≤ _ at hsl
  have hg := List.getElem?_eq_getElem hlt
  generalize l[i] = x at *
  conv => whnf
  refine AIn.mk' i rfl (by rw [List.length_map]; exact hlt) ?_
  conv => whnf
  refine ARd.mapAt hg ?_
  conv => whnf
  refine vif_split (fun h1 => ?_) (fun h1 => ?_)
  rotate_left 1
  ·have e : sel f t (l.take (i + 1)) = sel f t (l.take i) := by rw [hT, hin, decide_eq_false (by simpa using h1)]; simp
   clear hT
   conv => whnf
   have ht : ((i : Nat) : Int).tmod 16 = ((i % 16 : Nat) : Int) := rfl
   refine VReq.mk (by decide) ?_
   rw [ht]
   conv => whnf
   refine vif_split (fun h3 => ?_) (fun h3 => ?_)
   rotate_left 1
   ·have h3 : i % 16 ≠ 0 := by simp at h3; omega
    rw [if_neg h3] at hcs
    conv => whnf
    refine AAr.i64 (by omega) ?_
    conv => whnf
    exact aback (i + 1) [(0, .lab 0)] [] rfl (by show l.length - (i + 1) < l.length - i; omega) hlt ⟨⟨rfl, rfl, (by rw [e])⟩, trivial⟩ ⟨rfl, congrArg (fun n : Nat => Value.int .i64 (n : Int)) (by rw [hcs]), rfl, trivial⟩
   have h3 : i % 16 = 0 := by simp at h3; omega
   obtain ⟨c, rfl⟩ : ∃ c, i = 16 * c := ⟨i / 16, by omega⟩
   have hc : c < nC l := by unfold nC; omega
   have hlok := ch_lok hok hvs hc
   rw [if_pos h3, show 16 * c / 16 = c by omega, cntC_succ] at hcs
   have hcs0 : (16 * c + 15) / 16 = c := by omega
   have hcl := cntC_le f t l c
   rw [hcs0]
   conv => whnf
   refine AAr.i64 (by omega) ?_
   conv => whnf
   have hmin : min ((16 * c : Nat) + 16 : Int) (l.length : Int) = ((min (16 * c + 16) l.length : Nat) : Int) := by omega
   rw [List.length_map, hmin]
   refine ABd.mk' (16 * c) (min (16 * c + 16) l.length) rfl rfl (by omega) (by (try rw [List.length_map]); omega) ?_
   conv => whnf
   refine acallF [] (by kernel_rfl) (limits2LA (ch l c) hlok) ⟨⟨rfl, cut_ch l c _ rfl⟩, trivial⟩ ?_
   rintro _ _ _ ⟨rfl, rfl, rfl⟩
   conv => whnf
   have hhit : hit f t (ch l c) = (decide ((lims (ch l c)).1 < t) && decide (f ≤ (lims (ch l c)).2)) := rfl
   generalize lims (ch l c) = lm at *
   obtain ⟨lo, hi⟩ := lm
   dsimp only at hhit
   refine vif_split (fun h4 => ?_) (fun h4 => ?_)
   rotate_left 1
   ·have hno : hit f t (ch l c) = false := by rw [hhit, h4]; rfl
    rw [hno] at hcs
    conv => whnf
    refine AAr.i64 (by omega) ?_
    conv => whnf
    exact aback (16 * c + 1) [(0, .lab 0)] [] rfl (by show l.length - (16 * c + 1) < l.length - 16 * c; omega) hlt ⟨⟨rfl, rfl, (by rw [e])⟩, trivial⟩ ⟨rfl, congrArg (fun n : Nat => Value.int .i64 (n : Int)) (by rw [hcs]; simp), rfl, trivial⟩
   conv => whnf
   refine vif_split (fun h5 => ?_) (fun h5 => ?_)
   rotate_left 1
   ·have hno : hit f t (ch l c) = false := by rw [hhit, Bool.and_eq_false_iff]; right; simpa using h5
    rw [hno] at hcs
    conv => whnf
    refine AAr.i64 (by omega) ?_
    conv => whnf
    exact aback (16 * c + 1) [(0, .lab 0)] [] rfl (by show l.length - (16 * c + 1) < l.length - 16 * c; omega) hlt ⟨⟨rfl, rfl, (by rw [e])⟩, trivial⟩ ⟨rfl, congrArg (fun n : Nat => Value.int .i64 (n : Int)) (by rw [hcs]; simp), rfl, trivial⟩
   have hyes : hit f t (ch l c) = true := by rw [hhit, h4, Bool.true_and]; simpa using h5
   rw [hyes] at hcs
   conv => whnf
   refine AAr.i64 (by omega) ?_
   conv => whnf
   refine AAr.i64 (by omega) ?_
   conv => whnf
   exact aback (16 * c + 1) [(0, .lab 0)] [] rfl (by show l.length - (16 * c + 1) < l.length - 16 * c; omega) hlt ⟨⟨rfl, rfl, (by rw [e])⟩, trivial⟩ ⟨rfl, congrArg (fun n : Int => Value.int .i64 n) (by rw [hcs]; simp), rfl, trivial⟩
  conv => whnf
  refine AIn.mk' i rfl (by rw [List.length_map]; exact hlt) ?_
  conv => whnf
  refine ARd.mapAt hg ?_
  conv => whnf
  refine vif_split (fun h2 => ?_) (fun h2 => ?_)
  rotate_left 1
  ·have e : sel f t (l.take (i + 1)) = sel f t (l.take i) := by rw [hT, hin, decide_eq_false (p := x.time < t) (by simpa using h2)]; simp
   clear hT
   conv => whnf
   have ht : ((i : Nat) : Int).tmod 16 = ((i % 16 : Nat) : Int) := rfl
   refine VReq.mk (by decide) ?_
   rw [ht]
   conv => whnf
   refine vif_split (fun h3 => ?_) (fun h3 => ?_)
   rotate_left 1
   ·have h3 : i % 16 ≠ 0 := by simp at h3; omega
    rw [if_neg h3] at hcs
    conv => whnf
    refine AAr.i64 (by omega) ?_
    conv => whnf
    exact aback (i + 1) [(0, .lab 0)] [] rfl (by show l.length - (i + 1) < l.length - i; omega) hlt ⟨⟨rfl, rfl, (by rw [e])⟩, trivial⟩ ⟨rfl, congrArg (fun n : Nat => Value.int .i64 (n : Int)) (by rw [hcs]), rfl, trivial⟩
   have h3 : i % 16 = 0 := by simp at h3; omega
   obtain ⟨c, rfl⟩ : ∃ c, i = 16 * c := ⟨i / 16, by omega⟩
   have hc : c < nC l := by unfold nC; omega
   have hlok := ch_lok hok hvs hc
   rw [if_pos h3, show 16 * c / 16 = c by omega, cntC_succ] at hcs
   have hcs0 : (16 * c + 15) / 16 = c := by omega
   have hcl := cntC_le f t l c
   rw [hcs0]
   conv => whnf
   refine AAr.i64 (by omega) ?_
   conv => whnf
   have hmin : min ((16 * c : Nat) + 16 : Int) (l.length : Int) = ((min (16 * c + 16) l.length : Nat) : Int) := by omega
   rw [List.length_map, hmin]
   refine ABd.mk' (16 * c) (min (16 * c + 16) l.length) rfl rfl (by omega) (by (try rw [List.length_map]); omega) ?_
   conv => whnf
   refine acallF [] (by kernel_rfl) (limits2LA (ch l c) hlok) ⟨⟨rfl, cut_ch l c _ rfl⟩, trivial⟩ ?_
   rintro _ _ _ ⟨rfl, rfl, rfl⟩
   conv => whnf
   have hhit : hit f t (ch l c) = (decide ((lims (ch l c)).1 < t) && decide (f ≤ (lims (ch l c)).2)) := rfl
   generalize lims (ch l c) = lm at *
   obtain ⟨lo, hi⟩ := lm
   dsimp only at hhit
   refine vif_split (fun h4 => ?_) (fun h4 => ?_)
   rotate_left 1
   ·have hno : hit f t (ch l c) = false := by rw [hhit, h4]; rfl
    rw [hno] at hcs
    conv => whnf
    refine AAr.i64 (by omega) ?_
    conv => whnf
    exact aback (16 * c + 1) [(0, .lab 0)] [] rfl (by show l.length - (16 * c + 1) < l.length - 16 * c; omega) hlt ⟨⟨rfl, rfl, (by rw [e])⟩, trivial⟩ ⟨rfl, congrArg (fun n : Nat => Value.int .i64 (n : Int)) (by rw [hcs]; simp), rfl, trivial⟩
   conv => whnf
   refine vif_split (fun h5 => ?_) (fun h5 => ?_)
   rotate_left 1
   ·have hno : hit f t (ch l c) = false := by rw [hhit, Bool.and_eq_false_iff]; right; simpa using h5
    rw [hno] at hcs
    conv => whnf
    refine AAr.i64 (by omega) ?_
    conv => whnf
    exact aback (16 * c + 1) [(0, .lab 0)] [] rfl (by show l.length - (16 * c + 1) < l.length - 16 * c; omega) hlt ⟨⟨rfl, rfl, (by rw [e])⟩, trivial⟩ ⟨rfl, congrArg (fun n : Nat => Value.int .i64 (n : Int)) (by rw [hcs]; simp), rfl, trivial⟩
   have hyes : hit f t (ch l c) = true := by rw [hhit, h4, Bool.true_and]; simpa using h5
   rw [hyes] at hcs
   conv => whnf
   refine AAr.i64 (by omega) ?_
   conv => whnf
   refine AAr.i64 (by omega) ?_
   conv => whnf
   exact aback (16 * c + 1) [(0, .lab 0)] [] rfl (by show l.length - (16 * c + 1) < l.length - 16 * c; omega) hlt ⟨⟨rfl, rfl, (by rw [e])⟩, trivial⟩ ⟨rfl, congrArg (fun n : Int => Value.int .i64 n) (by rw [hcs]; simp), rfl, trivial⟩
  have e : sel f t (l.take (i + 1)) = sel f t (l.take i) ++ [x] := by rw [hT, hin, decide_eq_true (p := x.time < t) (by simpa using h2), decide_eq_true (by simpa using h1)]; rfl
  clear hT
  conv => whnf
  refine AIn.mk' i rfl (by rw [List.length_map]; exact hlt) ?_
  conv => whnf
  refine ARd.mapAt hg ?_
  conv => whnf
  refine VReq.mk (app_e (by simp only [List.length_map, List.length_cons, List.length_nil]; omega)) ?_
  conv => whnf
  ·skip
   have ht : ((i : Nat) : Int).tmod 16 = ((i % 16 : Nat) : Int) := rfl
   refine VReq.mk (by decide) ?_
   rw [ht]
   conv => whnf
   refine vif_split (fun h3 => ?_) (fun h3 => ?_)
   rotate_left 1
   ·have h3 : i % 16 ≠ 0 := by simp at h3; omega
    rw [if_neg h3] at hcs
    conv => whnf
    refine AAr.i64 (by omega) ?_
    conv => whnf
    exact aback (i + 1) [(0, .lab 2)] [] rfl (by show l.length - (i + 1) < l.length - i; omega) hlt ⟨⟨rfl, rfl, (by rw [e]; exact enE_app2 _ _)⟩, trivial⟩ ⟨rfl, congrArg (fun n : Nat => Value.int .i64 (n : Int)) (by rw [hcs]), rfl, trivial⟩
   have h3 : i % 16 = 0 := by simp at h3; omega
   obtain ⟨c, rfl⟩ : ∃ c, i = 16 * c := ⟨i / 16, by omega⟩
   have hc : c < nC l := by unfold nC; omega
   have hlok := ch_lok hok hvs hc
   rw [if_pos h3, show 16 * c / 16 = c by omega, cntC_succ] at hcs
   have hcs0 : (16 * c + 15) / 16 = c := by omega
   have hcl := cntC_le f t l c
   rw [hcs0]
   conv => whnf
   refine AAr.i64 (by omega) ?_
   conv => whnf
   have hmin : min ((16 * c : Nat) + 16 : Int) (l.length : Int) = ((min (16 * c + 16) l.length : Nat) : Int) := by omega
   rw [List.length_map, hmin]
   refine ABd.mk' (16 * c) (min (16 * c + 16) l.length) rfl rfl (by omega) (by (try rw [List.length_map]); omega) ?_
   conv => whnf
   refine acallF [] (by kernel_rfl) (limits2LA (ch l c) hlok) ⟨⟨rfl, cut_ch l c _ rfl⟩, trivial⟩ ?_
   rintro _ _ _ ⟨rfl, rfl, rfl⟩
   conv => whnf
   have hhit : hit f t (ch l c) = (decide ((lims (ch l c)).1 < t) && decide (f ≤ (lims (ch l c)).2)) := rfl
   generalize lims (ch l c) = lm at *
   obtain ⟨lo, hi⟩ := lm
   dsimp only at hhit
   refine vif_split (fun h4 => ?_) (fun h4 => ?_)
   rotate_left 1
   ·have hno : hit f t (ch l c) = false := by rw [hhit, h4]; rfl
    rw [hno] at hcs
    conv => whnf
    refine AAr.i64 (by omega) ?_
    conv => whnf
    exact aback (16 * c + 1) [(0, .lab 2)] [] rfl (by show l.length - (16 * c + 1) < l.length - 16 * c; omega) hlt ⟨⟨rfl, rfl, (by rw [e]; exact enE_app2 _ _)⟩, trivial⟩ ⟨rfl, congrArg (fun n : Nat => Value.int .i64 (n : Int)) (by rw [hcs]; simp), rfl, trivial⟩
   conv => whnf
   refine vif_split (fun h5 => ?_) (fun h5 => ?_)
   rotate_left 1
   ·have hno : hit f t (ch l c) = false := by rw [hhit, Bool.and_eq_false_iff]; right; simpa using h5
    rw [hno] at hcs
    conv => whnf
    refine AAr.i64 (by omega) ?_
    conv => whnf
    exact aback (16 * c + 1) [(0, .lab 2)] [] rfl (by show l.length - (16 * c + 1) < l.length - 16 * c; omega) hlt ⟨⟨rfl, rfl, (by rw [e]; exact enE_app2 _ _)⟩, trivial⟩ ⟨rfl, congrArg (fun n : Nat => Value.int .i64 (n : Int)) (by rw [hcs]; simp), rfl, trivial⟩
   have hyes : hit f t (ch l c) = true := by rw [hhit, h4, Bool.true_and]; simpa using h5
   rw [hyes] at hcs
   conv => whnf
   refine AAr.i64 (by omega) ?_
   conv => whnf
   refine AAr.i64 (by omega) ?_
   conv => whnf
   exact aback (16 * c + 1) [(0, .lab 2)] [] rfl (by show l.length - (16 * c + 1) < l.length - 16 * c; omega) hlt ⟨⟨rfl, rfl, (by rw [e]; exact enE_app2 _ _)⟩, trivial⟩ ⟨rfl, congrArg (fun n : Int => Value.int .i64 n) (by rw [hcs]; simp), rfl, trivial⟩
 have hie : i = l.length := by simp at h; omega
 subst hie
 have hn : (l.length + 15) / 16 = nC l := rfl
 rw [hn, List.take_length]
 conv => whnf
 exact aret [0] (by repeat' (first | rfl | trivial | apply And.intro))
end
end Go.Proofs.YtmhpfadbmpipkaaGreatDoor.Cl
