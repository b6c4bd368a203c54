/- The walk of the made events. Condition: at most 1000 numbers. -/
import Derived.Test.YtmnjmdajgilhiaaDoorEd1
set_option linter.unusedVariables false
set_option linter.unusedSimpArgs false
namespace Go.Proofs.YtmnjmdajgilhiaaDoor.Cl
open Go Go.RowKit Go.Proofs Go.Proofs.YtmnjmdajgilhiaaDoor.Vc Go.Proofs.YtmnjmdajgilhiaaDoor.Ax Go.Proofs.YtmnjmdajgilhiaaDoor.Ky
attribute [local irreducible] loadVar storeVar Instr.indexAt Instr.index Instr.sliceAt Instr.makeSlice Instr.lookup Instr.mapUpdate Instr.range Instr.next Instr.entry Instr.makeMap Builtin.append_ Builtin.copy_ Builtin.len_ Builtin.min_ Builtin.max_ Builtin.cap_ Builtin.delete_ Builtin.clear_ convert binOp eqGuard Op.unary Calls
def cliT : Tx := [[97, 112, 112], [116, 97, 98], [119, 101, 98]]
/-- what a made event is like -/
structure EvP (e : Ev) : Prop where
  client : e.client ∈ cliT
  id : ∃ k : Nat, k < 6 ∧ e.id = idT k
  seq : 1 ≤ e.seq ∧ e.seq ≤ 60
  time : 0 ≤ e.time ∧ e.time ≤ 180
  kinds : (e.kind = 1 ∧ (∃ k : Nat, k < 2 ∧ e.name = expT.getD k []) ∧ e.other = [] ∧ (1 ≤ e.arm ∧ e.arm ≤ 3) ∧ (1 ≤ e.ver ∧ e.ver ≤ 2) ∧ e.val = 0) ∨
    (e.kind = 2 ∧ (∃ k : Nat, k < 2 ∧ e.name = namT.getD k []) ∧ e.other = [] ∧ e.ver = 0 ∧ e.arm = 0 ∧ (-4 ≤ e.val ∧ e.val ≤ 35)) ∨
    (e.kind = 3 ∧ e.name = [] ∧ (∃ k : Nat, k < 7 ∧ e.other = idT k) ∧ e.other ≠ e.id ∧ e.ver = 0 ∧ e.arm = 0 ∧ e.val = 0)
/-- what made events are like -/
structure EvsP (l : List Ev) : Prop where
  len : l.length ≤ 60
  all : ∀ e ∈ l, EvP e
  asc : l.Pairwise fun a b => a.time ≤ b.time
structure ES where
  out : List Ev
  a : Nat
  tm : Nat
  sq : List Nat
  last : Int
structure EI (L : By) (x : ES) : Prop where
  at_ : x.a ≤ L.length
  P : EvsP x.out
  tm : x.tm ≤ 3 * x.out.length
  le : ∀ e ∈ x.out, e.time ≤ (x.tm : Int)
  sl : x.sq.length = 3
  sb : ∀ k ∈ x.sq, k ≤ x.out.length
  last : -1 ≤ x.last ∧ x.last ≤ 2
def enN (n : Nat) : List FV := [iF n]
def EvO (a : AV) (m : Nat) (H : AHeap) : Prop := ∃ l, EvsP l ∧ a = el l ∧ m = 0 ∧ H = []
theorem AAr.div {K : Int → Prop} (v k : Nat) (hv : v < 1000000) (c : K ((v / k : Nat) : Int)) : AAr .i64 ((v : Int).tdiv (k : Int)) K := by
  have h := Nat.div_le_self v k
  refine AAr.to (y := ((v / k : Nat) : Int)) ?_ c
  rw [show (v : Int).tdiv (k : Int) = ((v / k : Nat) : Int) from rfl]
  generalize v / k = q at *
  exact IntWalk.i64_in _ (by omega)
theorem idT_ne0 {a b : Nat} (h : sEq ⟨(idT a).toArray⟩ ⟨(idT b).toArray⟩ = false) : idT a ≠ idT b := fun e => by
  rw [sEq_tx, decide_eq_false_iff_not] at h; exact h e
theorem idT_ne1 {a b : Nat} (ha : a < 6) (hb : b < 6) (h : sEq ⟨(idT a).toArray⟩ ⟨(idT b).toArray⟩ = true) : idT (a + 1) ≠ idT b := by
  have h1 : idT a = idT b := by rw [sEq_tx, decide_eq_true_eq] at h; exact h
  have h2 : ∀ a, a < 6 → ∀ b, b < 6 → idT a = idT b → idT (a + 1) ≠ idT b := by decide
  exact h2 a ha b hb h1
theorem enE_app (l : List Ev) (e : Ev) : l.map enE ++ [enE e] = (l ++ [e]).map enE := by rw [List.map_append]; rfl
theorem EI.next {L : By} {out : List Ev} {a tm : Nat} {sq : List Nat} {last : Int} (h : EI L ⟨out, a, tm, sq, last⟩) (hl : out.length < 60) {a' st i k : Nat} (ha : a' ≤ L.length) (hst : st < 4) (hi : i < 3) (hk : k ≤ out.length) {e : Ev} (het : e.time = ((tm + st : Nat) : Int)) (he : EvP e) : EI L ⟨out ++ [e], a', tm + st, sq.set i (k + 1), i⟩ := by
  obtain ⟨hp, hP, htm, hle, hsl, hsb, hlast⟩ := h
  dsimp only at *
  have hn : (out ++ [e]).length = out.length + 1 := by rw [List.length_append]; rfl
  refine ⟨ha, ⟨by dsimp only; omega, fun x hx => ?_, List.pairwise_append.2 ⟨hP.asc, List.pairwise_singleton _ _, fun x hx y hy => ?_⟩⟩, by dsimp only; omega, fun x hx => ?_, by dsimp only; rw [List.length_set]; exact hsl, fun x hx => ?_, by dsimp only; omega⟩
  · rcases List.mem_append.1 hx with h | h
    · exact hP.all x h
    · rw [List.mem_singleton] at h; rw [h]; exact he
  · rw [List.mem_singleton] at hy
    have := hle x hx
    rw [hy]; omega
  · dsimp only at hx ⊢
    rcases List.mem_append.1 hx with h | h
    · have := hle x h; omega
    · rw [List.mem_singleton] at h; rw [h]; omega
  · dsimp only at hx ⊢
    rcases List.mem_or_eq_of_mem_set hx with h | h
    · have := hsb x h; omega
    · omega
def NxC (L : By) (p n v q : Nat) : Prop := v < n ∧ q ≤ L.length ∧ AFn Tryd.prog GS 34 [.ptr 0 0, iv n] 1 [(0, srB L p)] (fun a m H => a = iv v ∧ m = 1 ∧ H = [(0, srB L q)])
theorem nxC {L : By} (hL : L.length ≤ 1000) {p : Nat} (hp : p ≤ L.length) (n : Nat) (hn : 0 < n) (hn2 : n ≤ 256) : ∃ v q, NxC L p n v q := ⟨nxV L p n, nxA L p, nxV_lt L p n hn, nxA_le hp, nextA L p n hn hn2 (by omega) hp⟩
set_option maxHeartbeats 16000000 in
set_option maxRecDepth 100000 in
theorem eventsA (L : By) (hL : L.length ≤ 1000) : AFn Tryd.prog GS 11 [bs L] 0 [] EvO := by
  refine afn_of Tryd.func11 rfl mixed (by kernel_rfl) ?_
  conv => whnf
  refine aloop ws11_1 3 [4, 5, 7] (fun x : ES => [(4, .own 2), (5, iv x.tm), (7, iv x.last)]) (fun x => [(0, srB L x.a), (1, .rows 3 1 (x.sq.map enN)), (2, .rows 32 10 (x.out.map enE))]) (EI L) (fun x => 60 - x.out.length) [(2, .nil)] [] ⟨[], 0, 0, [0, 0, 0], -1⟩ (by kernel_rfl) (fun _ => rfl) rfl ⟨Nat.zero_le _, ⟨Nat.zero_le _, (fun _ h => by cases h), List.Pairwise.nil⟩, Nat.zero_le _, (fun _ h => by cases h), rfl, (by simp), by constructor <;> (dsimp only; omega)⟩ ⟨(by repeat' (first | rfl | trivial | apply And.intro)), (by repeat' (first | rfl | trivial | apply And.intro)), rfl, trivial⟩ ⟨trivial, rfl, rfl, trivial⟩ ?_
  rintro ⟨out, p, tm, sq, last⟩ hJ
  obtain ⟨hp, hP, htm, hle, hsl, hsb, hlast⟩ := id hJ
  dsimp only at hp hP htm hle hsl hsb hlast
  have hol := hP.len
  conv => whnf
  refine acallM [0] [] (by kernel_rfl) (moreA L p) rfl (by repeat' (first | rfl | trivial | apply And.intro)) (by repeat' (first | rfl | trivial | apply And.intro)) ?_
  rintro _ _ _ ⟨rfl, rfl, rfl⟩
  refine ⟨rfl, ?_⟩
  conv => whnf
  refine vif_split (fun h => ?_) (fun h => ?_)
  rotate_left 1
  · conv => whnf
    refine aend (el out) 0 [] [] [2] ⟨out, hP, rfl, rfl, rfl⟩ rfl trivial ⟨rfl, rfl, rfl⟩
  conv => whnf
  refine vif_split (fun h => ?_) (fun h => ?_)
  rotate_left 1
  · conv => whnf
    refine aend (el out) 0 [] [] [2] ⟨out, hP, rfl, rfl, rfl⟩ rfl trivial ⟨rfl, rfl, rfl⟩
  have hlt : out.length < 60 := by simp at h; omega
  conv => whnf
  refine acallM [0] [] (by kernel_rfl) (nextA L p 4 (by decide) (by decide) (by omega) hp) rfl (by repeat' (first | rfl | trivial | apply And.intro)) (by repeat' (first | rfl | trivial | apply And.intro)) ?_
  rintro _ _ _ ⟨rfl, rfl, rfl⟩
  refine ⟨rfl, ?_⟩
  conv => whnf
  have hv1 := nxV_lt L p 4 (by decide)
  have hp1 := nxA_le (L := L) hp
  generalize nxV L p 4 = v1 at *
  generalize nxA L p = p1 at *
  refine acallM [0] [] (by kernel_rfl) (nextA L p1 3 (by decide) (by decide) (by omega) hp1) rfl (by repeat' (first | rfl | trivial | apply And.intro)) (by repeat' (first | rfl | trivial | apply And.intro)) ?_
  rintro _ _ _ ⟨rfl, rfl, rfl⟩
  refine ⟨rfl, ?_⟩
  conv => whnf
  have hv2 := nxV_lt L p1 3 (by decide)
  have hp2 := nxA_le (L := L) hp1
  generalize nxV L p1 3 = v2 at *
  generalize nxA L p1 = p2 at *
  obtain ⟨sv, hsv, hsb1⟩ : ∃ sv, sq[v2]? = some sv ∧ sv ≤ out.length := ⟨_, List.getElem?_eq_getElem (by omega), hsb _ (List.getElem_mem _)⟩
  obtain ⟨cl, hcl, hcm⟩ : ∃ cl, cliT[v2]? = some cl ∧ cl ∈ cliT := ⟨_, List.getElem?_eq_getElem hv2, List.getElem_mem _⟩
  have hv3 := nxV_lt L p2 6 (by decide)
  have hid : AFn Tryd.prog GS 35 [iv (nxV L p2 6)] 0 [] (Is (tv (idT (nxV L p2 6)))) := AFn.up (idTA _ (by omega)) GS
  refine vif_split (fun hq => ?_) (fun hq => ?_)
  · conv => whnf
    refine vif_split (fun hc => ?_) (fun hc => ?_)
    · conv => whnf
      refine AAr.i64 (by dsimp only; omega) ?_
      conv => whnf
      refine AIn.mk' v2 rfl (by rw [List.length_map, hsl]; exact hv2) ?_
      conv => whnf
      refine ARd.mapAt hsv ?_
      conv => whnf
      refine AAr.i64 (by omega) ?_
      conv => whnf
      refine AIn.mk' v2 rfl (by rw [List.length_map, hsl]; exact hv2) ?_
      conv => whnf
      refine ARd.mapAt hsv ?_
      conv => whnf
      refine adrawC pln11 [0] [(10, 10), (44, 56)] 4 [(10, .ptr 3 0)] [(0, srB L (nxA L p2)), (1, .rows 3 1 (((sq.map enN).set v2 (enN (sv + 1))))), (2, .rows 32 10 (out.map enE)), (3, .var 32 [tv cl, iv ((sv : Int) + 1), iv 0, iv ((tm : Int) + 1), tv (idT (nxV L p2 6)), tv [], tv [], iv 0, iv 0, iv 0])] (by kernel_rfl) (by kernel_rfl) ?_ ?_
      · conv => whnf
        repeat' (first
          | (refine And.intro ?_ ?_ <;> (conv => whnf))
          | (refine AIn.mk' v2 rfl hv2 ?_; conv => whnf)
          | (refine ARd.mapAt (enc := enT) (xs := cliT) hcl ?_; conv => whnf)
          | (refine AIn.mk' v2 rfl (by rw [List.length_set, List.length_map, hsl]; exact hv2) ?_; conv => whnf)
          | (refine ARd.set (by rw [List.length_map, hsl]; exact hv2) ?_; conv => whnf)
          | (refine acallM [0] [] (by kernel_rfl) (nextA L p2 6 (by decide) (by decide) (by omega) hp2) rfl (by repeat' (first | rfl | trivial | apply And.intro)) (by repeat' (first | rfl | trivial | apply And.intro)) ?_; rintro _ _ _ ⟨rfl, rfl, rfl⟩; refine ⟨rfl, ?_⟩; conv => whnf)
          | ((refine acall [] (by kernel_rfl) (hid) rfl ?_ ?_; (focus ((repeat' (first | rfl | trivial | apply And.intro)); done)); (conv => whnf))))
        all_goals first
          | (refine arbD [(3, .lab 3)] [] ?_ ?_ ?_; (focus rfl); (focus (repeat' (first | rfl | trivial | apply And.intro))); (focus (repeat' (first | rfl | trivial | apply And.intro))); done)
          | (refine arbD [(3, .lab 4)] [] ?_ ?_ ?_; (focus rfl); (focus (repeat' (first | rfl | trivial | apply And.intro))); (focus (repeat' (first | rfl | trivial | apply And.intro))); done)
          | (refine arbD [(3, .lab 5)] [] ?_ ?_ ?_; (focus rfl); (focus (repeat' (first | rfl | trivial | apply And.intro))); (focus (repeat' (first | rfl | trivial | apply And.intro))); done)
      have hp3 := nxA_le (L := L) hp2
      generalize nxV L p2 6 = v3 at *
      generalize nxA L p2 = p3 at *
      conv => whnf
      refine acallM [0] [] (by kernel_rfl) (nextA L p3 8 (by decide) (by decide) (by omega) hp3) rfl (by repeat' (first | rfl | trivial | apply And.intro)) (by repeat' (first | rfl | trivial | apply And.intro)) ?_
      rintro _ _ _ ⟨rfl, rfl, rfl⟩
      refine ⟨rfl, ?_⟩
      conv => whnf
      have hv4 := nxV_lt L p3 8 (by decide)
      have hp4 := nxA_le (L := L) hp3
      generalize nxV L p3 8 = v4 at *
      generalize nxA L p3 = p4 at *
      rcases (by omega : v4 = 0 ∨ v4 = 1 ∨ v4 = 2 ∨ v4 = 3 ∨ 4 ≤ v4) with rfl | rfl | rfl | rfl | h4
      · conv => whnf
        obtain ⟨v5, p5, hv5, hp5, c5⟩ := nxC hL hp4 8 (by decide) (by decide)
        obtain ⟨v6, p6, hv6, hp6, c6⟩ := nxC hL hp5 10 (by decide) (by decide)
        obtain ⟨v7, p7, hv7, hp7, c7⟩ := nxC hL hp6 12 (by decide) (by decide)
        obtain ⟨v8, p8, hv8, hp8, c8⟩ := nxC hL hp7 5 (by decide) (by decide)
        obtain ⟨xn, hxn⟩ : ∃ xn, expT[v5 / 7]? = some xn := ⟨_, List.getElem?_eq_getElem (by have : expT.length = 4 := rfl; omega)⟩
        have hxe : xn = expT.getD (v5 / 7) [] := by rw [List.getD_eq_getElem?_getD, hxn, Option.getD_some]
        (refine adraw pln11 [0, 3] (by kernel_rfl) ?_; conv => whnf)
        (refine acallF [] (by kernel_rfl) (expTA) ?_ ?_; (focus (repeat' (first | rfl | trivial | apply And.intro))))
        rintro _ _ _ ⟨rfl, rfl, rfl⟩
        conv => whnf
        repeat' (first
          | (refine And.intro ?_ ?_ <;> (conv => whnf))
          | (refine acallM [0] [] (by kernel_rfl) c5 rfl ?_ ?_ ?_; (focus ((repeat' (first | rfl | trivial | apply And.intro)); done)); (focus ((repeat' (first | rfl | trivial | apply And.intro)); done)); rintro _ _ _ ⟨rfl, rfl, rfl⟩; refine ⟨rfl, ?_⟩; conv => whnf)
          | (refine acallM [0] [] (by kernel_rfl) c6 rfl ?_ ?_ ?_; (focus ((repeat' (first | rfl | trivial | apply And.intro)); done)); (focus ((repeat' (first | rfl | trivial | apply And.intro)); done)); rintro _ _ _ ⟨rfl, rfl, rfl⟩; refine ⟨rfl, ?_⟩; conv => whnf)
          | (refine acallM [0] [] (by kernel_rfl) c7 rfl ?_ ?_ ?_; (focus ((repeat' (first | rfl | trivial | apply And.intro)); done)); (focus ((repeat' (first | rfl | trivial | apply And.intro)); done)); rintro _ _ _ ⟨rfl, rfl, rfl⟩; refine ⟨rfl, ?_⟩; conv => whnf)
          | (refine acallM [0] [] (by kernel_rfl) c8 rfl ?_ ?_ ?_; (focus ((repeat' (first | rfl | trivial | apply And.intro)); done)); (focus ((repeat' (first | rfl | trivial | apply And.intro)); done)); rintro _ _ _ ⟨rfl, rfl, rfl⟩; refine ⟨rfl, ?_⟩; conv => whnf)
          | (refine VReq.mk (by decide) ?_; conv => whnf)
          | (refine AIn.mk' (v5 / 7) rfl (by rw [List.length_map]; have : expT.length = 4 := rfl; omega) ?_; conv => whnf)
          | (refine ARd.mapAt hxn ?_; conv => whnf)
          | (refine AAr.div v5 7 (by omega) ?_; conv => whnf)
          | (refine AAr.div v7 11 (by omega) ?_; conv => whnf)
          | (refine AAr.div v8 4 (by omega) ?_; conv => whnf)
          | (refine AAr.to (y := ((1 + v6 % 9 % 2 : Nat) : Int)) ?_ ?_; (focus (rw [show (1 : Int) + ((v6 : Int).tmod 9).tmod 2 = ((1 + v6 % 9 % 2 : Nat) : Int) from rfl]; exact IntWalk.i64_in _ (by omega))); conv => whnf)
          | (refine AAr.i64 ?_ ?_; (focus omega); conv => whnf))
        refine VReq.mk (app_ok (by simp only [List.length_map, List.length_cons, List.length_nil]; omega) (by kernel_rfl)) ?_
        conv => whnf
        exact aback ⟨out ++ [⟨cl, (sv : Int) + 1, 1, (tm : Int) + 1, idT v3, xn, [], 1 + ((v8 / 4 : Nat) : Int), ((1 + v6 % 9 % 2 : Nat) : Int) + ((v7 / 11 : Nat) : Int), 0⟩], p8, tm + 1, sq.set v2 (sv + 1), v2⟩ [(2, .lab 6)] [] rfl (by show 60 - (out ++ [_]).length < 60 - out.length; rw [List.length_append]; simp; omega) (hJ.next hlt hp8 (by omega) hv2 hsb1 rfl ⟨hcm, ⟨v3, hv3, rfl⟩, (by dsimp only; omega), (by dsimp only; omega), .inl ⟨rfl, ⟨v5 / 7, by omega, hxe⟩, rfl, (by dsimp only; omega), (by dsimp only; omega), rfl⟩⟩) ⟨(by repeat' (first | rfl | trivial | apply And.intro)), ⟨rfl, rfl, List.map_set.symm⟩, ⟨rfl, rfl, enE_app out ⟨cl, (sv : Int) + 1, 1, (tm : Int) + 1, idT v3, xn, [], 1 + ((v8 / 4 : Nat) : Int), ((1 + v6 % 9 % 2 : Nat) : Int) + ((v7 / 11 : Nat) : Int), 0⟩⟩, trivial⟩ ⟨rfl, rfl, rfl, trivial⟩
      · conv => whnf
        obtain ⟨v5, p5, hv5, hp5, c5⟩ := nxC hL hp4 8 (by decide) (by decide)
        obtain ⟨v6, p6, hv6, hp6, c6⟩ := nxC hL hp5 10 (by decide) (by decide)
        obtain ⟨v7, p7, hv7, hp7, c7⟩ := nxC hL hp6 12 (by decide) (by decide)
        obtain ⟨v8, p8, hv8, hp8, c8⟩ := nxC hL hp7 5 (by decide) (by decide)
        obtain ⟨xn, hxn⟩ : ∃ xn, expT[v5 / 7]? = some xn := ⟨_, List.getElem?_eq_getElem (by have : expT.length = 4 := rfl; omega)⟩
        have hxe : xn = expT.getD (v5 / 7) [] := by rw [List.getD_eq_getElem?_getD, hxn, Option.getD_some]
        (refine adraw pln11 [0, 3] (by kernel_rfl) ?_; conv => whnf)
        (refine acallF [] (by kernel_rfl) (expTA) ?_ ?_; (focus (repeat' (first | rfl | trivial | apply And.intro))))
        rintro _ _ _ ⟨rfl, rfl, rfl⟩
        conv => whnf
        repeat' (first
          | (refine And.intro ?_ ?_ <;> (conv => whnf))
          | (refine acallM [0] [] (by kernel_rfl) c5 rfl ?_ ?_ ?_; (focus ((repeat' (first | rfl | trivial | apply And.intro)); done)); (focus ((repeat' (first | rfl | trivial | apply And.intro)); done)); rintro _ _ _ ⟨rfl, rfl, rfl⟩; refine ⟨rfl, ?_⟩; conv => whnf)
          | (refine acallM [0] [] (by kernel_rfl) c6 rfl ?_ ?_ ?_; (focus ((repeat' (first | rfl | trivial | apply And.intro)); done)); (focus ((repeat' (first | rfl | trivial | apply And.intro)); done)); rintro _ _ _ ⟨rfl, rfl, rfl⟩; refine ⟨rfl, ?_⟩; conv => whnf)
          | (refine acallM [0] [] (by kernel_rfl) c7 rfl ?_ ?_ ?_; (focus ((repeat' (first | rfl | trivial | apply And.intro)); done)); (focus ((repeat' (first | rfl | trivial | apply And.intro)); done)); rintro _ _ _ ⟨rfl, rfl, rfl⟩; refine ⟨rfl, ?_⟩; conv => whnf)
          | (refine acallM [0] [] (by kernel_rfl) c8 rfl ?_ ?_ ?_; (focus ((repeat' (first | rfl | trivial | apply And.intro)); done)); (focus ((repeat' (first | rfl | trivial | apply And.intro)); done)); rintro _ _ _ ⟨rfl, rfl, rfl⟩; refine ⟨rfl, ?_⟩; conv => whnf)
          | (refine VReq.mk (by decide) ?_; conv => whnf)
          | (refine AIn.mk' (v5 / 7) rfl (by rw [List.length_map]; have : expT.length = 4 := rfl; omega) ?_; conv => whnf)
          | (refine ARd.mapAt hxn ?_; conv => whnf)
          | (refine AAr.div v5 7 (by omega) ?_; conv => whnf)
          | (refine AAr.div v7 11 (by omega) ?_; conv => whnf)
          | (refine AAr.div v8 4 (by omega) ?_; conv => whnf)
          | (refine AAr.to (y := ((1 + v6 % 9 % 2 : Nat) : Int)) ?_ ?_; (focus (rw [show (1 : Int) + ((v6 : Int).tmod 9).tmod 2 = ((1 + v6 % 9 % 2 : Nat) : Int) from rfl]; exact IntWalk.i64_in _ (by omega))); conv => whnf)
          | (refine AAr.i64 ?_ ?_; (focus omega); conv => whnf))
        refine VReq.mk (app_ok (by simp only [List.length_map, List.length_cons, List.length_nil]; omega) (by kernel_rfl)) ?_
        conv => whnf
        exact aback ⟨out ++ [⟨cl, (sv : Int) + 1, 1, (tm : Int) + 1, idT v3, xn, [], 1 + ((v8 / 4 : Nat) : Int), ((1 + v6 % 9 % 2 : Nat) : Int) + ((v7 / 11 : Nat) : Int), 0⟩], p8, tm + 1, sq.set v2 (sv + 1), v2⟩ [(2, .lab 6)] [] rfl (by show 60 - (out ++ [_]).length < 60 - out.length; rw [List.length_append]; simp; omega) (hJ.next hlt hp8 (by omega) hv2 hsb1 rfl ⟨hcm, ⟨v3, hv3, rfl⟩, (by dsimp only; omega), (by dsimp only; omega), .inl ⟨rfl, ⟨v5 / 7, by omega, hxe⟩, rfl, (by dsimp only; omega), (by dsimp only; omega), rfl⟩⟩) ⟨(by repeat' (first | rfl | trivial | apply And.intro)), ⟨rfl, rfl, List.map_set.symm⟩, ⟨rfl, rfl, enE_app out ⟨cl, (sv : Int) + 1, 1, (tm : Int) + 1, idT v3, xn, [], 1 + ((v8 / 4 : Nat) : Int), ((1 + v6 % 9 % 2 : Nat) : Int) + ((v7 / 11 : Nat) : Int), 0⟩⟩, trivial⟩ ⟨rfl, rfl, rfl, trivial⟩
      · conv => whnf
        obtain ⟨v5, p5, hv5, hp5, c5⟩ := nxC hL hp4 8 (by decide) (by decide)
        obtain ⟨v6, p6, hv6, hp6, c6⟩ := nxC hL hp5 10 (by decide) (by decide)
        obtain ⟨v7, p7, hv7, hp7, c7⟩ := nxC hL hp6 12 (by decide) (by decide)
        obtain ⟨v8, p8, hv8, hp8, c8⟩ := nxC hL hp7 5 (by decide) (by decide)
        obtain ⟨xn, hxn⟩ : ∃ xn, expT[v5 / 7]? = some xn := ⟨_, List.getElem?_eq_getElem (by have : expT.length = 4 := rfl; omega)⟩
        have hxe : xn = expT.getD (v5 / 7) [] := by rw [List.getD_eq_getElem?_getD, hxn, Option.getD_some]
        (refine adraw pln11 [0, 3] (by kernel_rfl) ?_; conv => whnf)
        (refine acallF [] (by kernel_rfl) (expTA) ?_ ?_; (focus (repeat' (first | rfl | trivial | apply And.intro))))
        rintro _ _ _ ⟨rfl, rfl, rfl⟩
        conv => whnf
        repeat' (first
          | (refine And.intro ?_ ?_ <;> (conv => whnf))
          | (refine acallM [0] [] (by kernel_rfl) c5 rfl ?_ ?_ ?_; (focus ((repeat' (first | rfl | trivial | apply And.intro)); done)); (focus ((repeat' (first | rfl | trivial | apply And.intro)); done)); rintro _ _ _ ⟨rfl, rfl, rfl⟩; refine ⟨rfl, ?_⟩; conv => whnf)
          | (refine acallM [0] [] (by kernel_rfl) c6 rfl ?_ ?_ ?_; (focus ((repeat' (first | rfl | trivial | apply And.intro)); done)); (focus ((repeat' (first | rfl | trivial | apply And.intro)); done)); rintro _ _ _ ⟨rfl, rfl, rfl⟩; refine ⟨rfl, ?_⟩; conv => whnf)
          | (refine acallM [0] [] (by kernel_rfl) c7 rfl ?_ ?_ ?_; (focus ((repeat' (first | rfl | trivial | apply And.intro)); done)); (focus ((repeat' (first | rfl | trivial | apply And.intro)); done)); rintro _ _ _ ⟨rfl, rfl, rfl⟩; refine ⟨rfl, ?_⟩; conv => whnf)
          | (refine acallM [0] [] (by kernel_rfl) c8 rfl ?_ ?_ ?_; (focus ((repeat' (first | rfl | trivial | apply And.intro)); done)); (focus ((repeat' (first | rfl | trivial | apply And.intro)); done)); rintro _ _ _ ⟨rfl, rfl, rfl⟩; refine ⟨rfl, ?_⟩; conv => whnf)
          | (refine VReq.mk (by decide) ?_; conv => whnf)
          | (refine AIn.mk' (v5 / 7) rfl (by rw [List.length_map]; have : expT.length = 4 := rfl; omega) ?_; conv => whnf)
          | (refine ARd.mapAt hxn ?_; conv => whnf)
          | (refine AAr.div v5 7 (by omega) ?_; conv => whnf)
          | (refine AAr.div v7 11 (by omega) ?_; conv => whnf)
          | (refine AAr.div v8 4 (by omega) ?_; conv => whnf)
          | (refine AAr.to (y := ((1 + v6 % 9 % 2 : Nat) : Int)) ?_ ?_; (focus (rw [show (1 : Int) + ((v6 : Int).tmod 9).tmod 2 = ((1 + v6 % 9 % 2 : Nat) : Int) from rfl]; exact IntWalk.i64_in _ (by omega))); conv => whnf)
          | (refine AAr.i64 ?_ ?_; (focus omega); conv => whnf))
        refine VReq.mk (app_ok (by simp only [List.length_map, List.length_cons, List.length_nil]; omega) (by kernel_rfl)) ?_
        conv => whnf
        exact aback ⟨out ++ [⟨cl, (sv : Int) + 1, 1, (tm : Int) + 1, idT v3, xn, [], 1 + ((v8 / 4 : Nat) : Int), ((1 + v6 % 9 % 2 : Nat) : Int) + ((v7 / 11 : Nat) : Int), 0⟩], p8, tm + 1, sq.set v2 (sv + 1), v2⟩ [(2, .lab 6)] [] rfl (by show 60 - (out ++ [_]).length < 60 - out.length; rw [List.length_append]; simp; omega) (hJ.next hlt hp8 (by omega) hv2 hsb1 rfl ⟨hcm, ⟨v3, hv3, rfl⟩, (by dsimp only; omega), (by dsimp only; omega), .inl ⟨rfl, ⟨v5 / 7, by omega, hxe⟩, rfl, (by dsimp only; omega), (by dsimp only; omega), rfl⟩⟩) ⟨(by repeat' (first | rfl | trivial | apply And.intro)), ⟨rfl, rfl, List.map_set.symm⟩, ⟨rfl, rfl, enE_app out ⟨cl, (sv : Int) + 1, 1, (tm : Int) + 1, idT v3, xn, [], 1 + ((v8 / 4 : Nat) : Int), ((1 + v6 % 9 % 2 : Nat) : Int) + ((v7 / 11 : Nat) : Int), 0⟩⟩, trivial⟩ ⟨rfl, rfl, rfl, trivial⟩
      · conv => whnf
        obtain ⟨v5, p5, hv5, hp5, c5⟩ := nxC hL hp4 6 (by decide) (by decide)
        refine acallM [0] [] (by kernel_rfl) c5 rfl ?_ ?_ ?_; (focus ((repeat' (first | rfl | trivial | apply And.intro)); done)); (focus ((repeat' (first | rfl | trivial | apply And.intro)); done)); rintro _ _ _ ⟨rfl, rfl, rfl⟩; refine ⟨rfl, ?_⟩; conv => whnf
        (refine adraw pln11 [] (by kernel_rfl) ?_; conv => whnf)
        have hi5 : AFn Tryd.prog GS 35 [iv v5] 0 [] (Is (tv (idT v5))) := AFn.up (idTA _ (by omega)) GS
        have hi6 : AFn Tryd.prog GS 35 [iv ((v5 : Int) + 1)] 0 [] (Is (tv (idT (v5 + 1)))) := AFn.up (idTA (v5 + 1) (by omega)) GS
        (refine acall [] (by kernel_rfl) (hi5) rfl ?_ ?_; (focus ((repeat' (first | rfl | trivial | apply And.intro)); done)); (conv => whnf))
        refine vif_split (fun h => ?_) (fun h => ?_)
        · conv => whnf
          refine AAr.i64 (by omega) ?_
          conv => whnf
          (refine acall [] (by kernel_rfl) (hi6) rfl ?_ ?_; (focus ((repeat' (first | rfl | trivial | apply And.intro)); done)); (conv => whnf))
          refine VReq.mk (app_ok (by simp only [List.length_map, List.length_cons, List.length_nil]; omega) (by kernel_rfl)) ?_
          conv => whnf
          exact aback ⟨out ++ [⟨cl, (sv : Int) + 1, 3, (tm : Int) + 1, idT v3, [], idT (v5 + 1), 0, 0, 0⟩], p5, tm + 1, sq.set v2 (sv + 1), v2⟩ [(2, .lab 5)] [] rfl (by show 60 - (out ++ [_]).length < 60 - out.length; rw [List.length_append]; simp; omega) (hJ.next hlt hp5 (by omega) hv2 hsb1 rfl ⟨hcm, ⟨v3, hv3, rfl⟩, (by dsimp only; omega), (by dsimp only; omega), .inr (.inr ⟨rfl, rfl, ⟨v5 + 1, by omega, rfl⟩, idT_ne1 hv5 hv3 h, rfl, rfl, rfl⟩)⟩) ⟨(by repeat' (first | rfl | trivial | apply And.intro)), ⟨rfl, rfl, List.map_set.symm⟩, ⟨rfl, rfl, enE_app out ⟨cl, (sv : Int) + 1, 3, (tm : Int) + 1, idT v3, [], idT (v5 + 1), 0, 0, 0⟩⟩, trivial⟩ ⟨rfl, rfl, rfl, trivial⟩
        · conv => whnf
          (refine acall [] (by kernel_rfl) (hi5) rfl ?_ ?_; (focus ((repeat' (first | rfl | trivial | apply And.intro)); done)); (conv => whnf))
          refine VReq.mk (app_ok (by simp only [List.length_map, List.length_cons, List.length_nil]; omega) (by kernel_rfl)) ?_
          conv => whnf
          exact aback ⟨out ++ [⟨cl, (sv : Int) + 1, 3, (tm : Int) + 1, idT v3, [], idT v5, 0, 0, 0⟩], p5, tm + 1, sq.set v2 (sv + 1), v2⟩ [(2, .lab 5)] [] rfl (by show 60 - (out ++ [_]).length < 60 - out.length; rw [List.length_append]; simp; omega) (hJ.next hlt hp5 (by omega) hv2 hsb1 rfl ⟨hcm, ⟨v3, hv3, rfl⟩, (by dsimp only; omega), (by dsimp only; omega), .inr (.inr ⟨rfl, rfl, ⟨v5, by omega, rfl⟩, idT_ne0 h, rfl, rfl, rfl⟩)⟩) ⟨(by repeat' (first | rfl | trivial | apply And.intro)), ⟨rfl, rfl, List.map_set.symm⟩, ⟨rfl, rfl, enE_app out ⟨cl, (sv : Int) + 1, 3, (tm : Int) + 1, idT v3, [], idT v5, 0, 0, 0⟩⟩, trivial⟩ ⟨rfl, rfl, rfl, trivial⟩
      · repeat' (refine vif_false (beq_eq_false_iff_ne.2 (by omega)) ?_; conv => whnf)
        obtain ⟨v5, p5, hv5, hp5, c5⟩ := nxC hL hp4 3 (by decide) (by decide)
        obtain ⟨v6, p6, hv6, hp6, c6⟩ := nxC hL hp5 40 (by decide) (by decide)
        obtain ⟨xn, hxn⟩ : ∃ xn, namT[v5 / 2]? = some xn := ⟨_, List.getElem?_eq_getElem (by have : namT.length = 2 := rfl; omega)⟩
        have hxe : xn = namT.getD (v5 / 2) [] := by rw [List.getD_eq_getElem?_getD, hxn, Option.getD_some]
        (refine adraw pln11 [0, 3] (by kernel_rfl) ?_; conv => whnf)
        (refine acallF [] (by kernel_rfl) (namTA) ?_ ?_; (focus (repeat' (first | rfl | trivial | apply And.intro))))
        rintro _ _ _ ⟨rfl, rfl, rfl⟩
        conv => whnf
        repeat' (first
          | (refine And.intro ?_ ?_ <;> (conv => whnf))
          | (refine acallM [0] [] (by kernel_rfl) c5 rfl ?_ ?_ ?_; (focus ((repeat' (first | rfl | trivial | apply And.intro)); done)); (focus ((repeat' (first | rfl | trivial | apply And.intro)); done)); rintro _ _ _ ⟨rfl, rfl, rfl⟩; refine ⟨rfl, ?_⟩; conv => whnf)
          | (refine acallM [0] [] (by kernel_rfl) c6 rfl ?_ ?_ ?_; (focus ((repeat' (first | rfl | trivial | apply And.intro)); done)); (focus ((repeat' (first | rfl | trivial | apply And.intro)); done)); rintro _ _ _ ⟨rfl, rfl, rfl⟩; refine ⟨rfl, ?_⟩; conv => whnf)
          | (refine VReq.mk (by decide) ?_; conv => whnf)
          | (refine AIn.mk' (v5 / 2) rfl (by rw [List.length_map]; have : namT.length = 2 := rfl; omega) ?_; conv => whnf)
          | (refine ARd.mapAt hxn ?_; conv => whnf)
          | (refine AAr.div v5 2 (by omega) ?_; conv => whnf)
          | (refine AAr.i64 ?_ ?_; (focus omega); conv => whnf))
        refine VReq.mk (app_ok (by simp only [List.length_map, List.length_cons, List.length_nil]; omega) (by kernel_rfl)) ?_
        conv => whnf
        exact aback ⟨out ++ [⟨cl, (sv : Int) + 1, 2, (tm : Int) + 1, idT v3, xn, [], 0, 0, (v6 : Int) - 4⟩], p6, tm + 1, sq.set v2 (sv + 1), v2⟩ [(2, .lab 6)] [] rfl (by show 60 - (out ++ [_]).length < 60 - out.length; rw [List.length_append]; simp; omega) (hJ.next hlt hp6 (by omega) hv2 hsb1 rfl ⟨hcm, ⟨v3, hv3, rfl⟩, (by dsimp only; omega), (by dsimp only; omega), .inr (.inl ⟨rfl, ⟨v5 / 2, by omega, hxe⟩, rfl, rfl, rfl, (by dsimp only; omega)⟩)⟩) ⟨(by repeat' (first | rfl | trivial | apply And.intro)), ⟨rfl, rfl, List.map_set.symm⟩, ⟨rfl, rfl, enE_app out ⟨cl, (sv : Int) + 1, 2, (tm : Int) + 1, idT v3, xn, [], 0, 0, (v6 : Int) - 4⟩⟩, trivial⟩ ⟨rfl, rfl, rfl, trivial⟩
    · conv => whnf
      refine AAr.i64 (by dsimp only; omega) ?_
      conv => whnf
      refine AIn.mk' v2 rfl (by rw [List.length_map, hsl]; exact hv2) ?_
      conv => whnf
      refine ARd.mapAt hsv ?_
      conv => whnf
      refine AAr.i64 (by omega) ?_
      conv => whnf
      refine AIn.mk' v2 rfl (by rw [List.length_map, hsl]; exact hv2) ?_
      conv => whnf
      refine ARd.mapAt hsv ?_
      conv => whnf
      refine adrawC pln11 [0] [(10, 10), (44, 56)] 4 [(10, .ptr 3 0)] [(0, srB L (nxA L p2)), (1, .rows 3 1 (((sq.map enN).set v2 (enN (sv + 1))))), (2, .rows 32 10 (out.map enE)), (3, .var 32 [tv cl, iv ((sv : Int) + 1), iv 0, iv ((tm : Int) + v1), tv (idT (nxV L p2 6)), tv [], tv [], iv 0, iv 0, iv 0])] (by kernel_rfl) (by kernel_rfl) ?_ ?_
      · conv => whnf
        repeat' (first
          | (refine And.intro ?_ ?_ <;> (conv => whnf))
          | (refine AIn.mk' v2 rfl hv2 ?_; conv => whnf)
          | (refine ARd.mapAt (enc := enT) (xs := cliT) hcl ?_; conv => whnf)
          | (refine AIn.mk' v2 rfl (by rw [List.length_set, List.length_map, hsl]; exact hv2) ?_; conv => whnf)
          | (refine ARd.set (by rw [List.length_map, hsl]; exact hv2) ?_; conv => whnf)
          | (refine acallM [0] [] (by kernel_rfl) (nextA L p2 6 (by decide) (by decide) (by omega) hp2) rfl (by repeat' (first | rfl | trivial | apply And.intro)) (by repeat' (first | rfl | trivial | apply And.intro)) ?_; rintro _ _ _ ⟨rfl, rfl, rfl⟩; refine ⟨rfl, ?_⟩; conv => whnf)
          | ((refine acall [] (by kernel_rfl) (hid) rfl ?_ ?_; (focus ((repeat' (first | rfl | trivial | apply And.intro)); done)); (conv => whnf))))
        all_goals first
          | (refine arbD [(3, .lab 3)] [] ?_ ?_ ?_; (focus rfl); (focus (repeat' (first | rfl | trivial | apply And.intro))); (focus (repeat' (first | rfl | trivial | apply And.intro))); done)
          | (refine arbD [(3, .lab 4)] [] ?_ ?_ ?_; (focus rfl); (focus (repeat' (first | rfl | trivial | apply And.intro))); (focus (repeat' (first | rfl | trivial | apply And.intro))); done)
          | (refine arbD [(3, .lab 5)] [] ?_ ?_ ?_; (focus rfl); (focus (repeat' (first | rfl | trivial | apply And.intro))); (focus (repeat' (first | rfl | trivial | apply And.intro))); done)
      have hp3 := nxA_le (L := L) hp2
      generalize nxV L p2 6 = v3 at *
      generalize nxA L p2 = p3 at *
      conv => whnf
      refine acallM [0] [] (by kernel_rfl) (nextA L p3 8 (by decide) (by decide) (by omega) hp3) rfl (by repeat' (first | rfl | trivial | apply And.intro)) (by repeat' (first | rfl | trivial | apply And.intro)) ?_
      rintro _ _ _ ⟨rfl, rfl, rfl⟩
      refine ⟨rfl, ?_⟩
      conv => whnf
      have hv4 := nxV_lt L p3 8 (by decide)
      have hp4 := nxA_le (L := L) hp3
      generalize nxV L p3 8 = v4 at *
      generalize nxA L p3 = p4 at *
      rcases (by omega : v4 = 0 ∨ v4 = 1 ∨ v4 = 2 ∨ v4 = 3 ∨ 4 ≤ v4) with rfl | rfl | rfl | rfl | h4
      · conv => whnf
        obtain ⟨v5, p5, hv5, hp5, c5⟩ := nxC hL hp4 8 (by decide) (by decide)
        obtain ⟨v6, p6, hv6, hp6, c6⟩ := nxC hL hp5 10 (by decide) (by decide)
        obtain ⟨v7, p7, hv7, hp7, c7⟩ := nxC hL hp6 12 (by decide) (by decide)
        obtain ⟨v8, p8, hv8, hp8, c8⟩ := nxC hL hp7 5 (by decide) (by decide)
        obtain ⟨xn, hxn⟩ : ∃ xn, expT[v5 / 7]? = some xn := ⟨_, List.getElem?_eq_getElem (by have : expT.length = 4 := rfl; omega)⟩
        have hxe : xn = expT.getD (v5 / 7) [] := by rw [List.getD_eq_getElem?_getD, hxn, Option.getD_some]
        (refine adraw pln11 [0, 3] (by kernel_rfl) ?_; conv => whnf)
        (refine acallF [] (by kernel_rfl) (expTA) ?_ ?_; (focus (repeat' (first | rfl | trivial | apply And.intro))))
        rintro _ _ _ ⟨rfl, rfl, rfl⟩
        conv => whnf
        repeat' (first
          | (refine And.intro ?_ ?_ <;> (conv => whnf))
          | (refine acallM [0] [] (by kernel_rfl) c5 rfl ?_ ?_ ?_; (focus ((repeat' (first | rfl | trivial | apply And.intro)); done)); (focus ((repeat' (first | rfl | trivial | apply And.intro)); done)); rintro _ _ _ ⟨rfl, rfl, rfl⟩; refine ⟨rfl, ?_⟩; conv => whnf)
          | (refine acallM [0] [] (by kernel_rfl) c6 rfl ?_ ?_ ?_; (focus ((repeat' (first | rfl | trivial | apply And.intro)); done)); (focus ((repeat' (first | rfl | trivial | apply And.intro)); done)); rintro _ _ _ ⟨rfl, rfl, rfl⟩; refine ⟨rfl, ?_⟩; conv => whnf)
          | (refine acallM [0] [] (by kernel_rfl) c7 rfl ?_ ?_ ?_; (focus ((repeat' (first | rfl | trivial | apply And.intro)); done)); (focus ((repeat' (first | rfl | trivial | apply And.intro)); done)); rintro _ _ _ ⟨rfl, rfl, rfl⟩; refine ⟨rfl, ?_⟩; conv => whnf)
          | (refine acallM [0] [] (by kernel_rfl) c8 rfl ?_ ?_ ?_; (focus ((repeat' (first | rfl | trivial | apply And.intro)); done)); (focus ((repeat' (first | rfl | trivial | apply And.intro)); done)); rintro _ _ _ ⟨rfl, rfl, rfl⟩; refine ⟨rfl, ?_⟩; conv => whnf)
          | (refine VReq.mk (by decide) ?_; conv => whnf)
          | (refine AIn.mk' (v5 / 7) rfl (by rw [List.length_map]; have : expT.length = 4 := rfl; omega) ?_; conv => whnf)
          | (refine ARd.mapAt hxn ?_; conv => whnf)
          | (refine AAr.div v5 7 (by omega) ?_; conv => whnf)
          | (refine AAr.div v7 11 (by omega) ?_; conv => whnf)
          | (refine AAr.div v8 4 (by omega) ?_; conv => whnf)
          | (refine AAr.to (y := ((1 + v6 % 9 % 2 : Nat) : Int)) ?_ ?_; (focus (rw [show (1 : Int) + ((v6 : Int).tmod 9).tmod 2 = ((1 + v6 % 9 % 2 : Nat) : Int) from rfl]; exact IntWalk.i64_in _ (by omega))); conv => whnf)
          | (refine AAr.i64 ?_ ?_; (focus omega); conv => whnf))
        refine VReq.mk (app_ok (by simp only [List.length_map, List.length_cons, List.length_nil]; omega) (by kernel_rfl)) ?_
        conv => whnf
        exact aback ⟨out ++ [⟨cl, (sv : Int) + 1, 1, (tm : Int) + v1, idT v3, xn, [], 1 + ((v8 / 4 : Nat) : Int), ((1 + v6 % 9 % 2 : Nat) : Int) + ((v7 / 11 : Nat) : Int), 0⟩], p8, tm + v1, sq.set v2 (sv + 1), v2⟩ [(2, .lab 6)] [] rfl (by show 60 - (out ++ [_]).length < 60 - out.length; rw [List.length_append]; simp; omega) (hJ.next hlt hp8 (by omega) hv2 hsb1 rfl ⟨hcm, ⟨v3, hv3, rfl⟩, (by dsimp only; omega), (by dsimp only; omega), .inl ⟨rfl, ⟨v5 / 7, by omega, hxe⟩, rfl, (by dsimp only; omega), (by dsimp only; omega), rfl⟩⟩) ⟨(by repeat' (first | rfl | trivial | apply And.intro)), ⟨rfl, rfl, List.map_set.symm⟩, ⟨rfl, rfl, enE_app out ⟨cl, (sv : Int) + 1, 1, (tm : Int) + v1, idT v3, xn, [], 1 + ((v8 / 4 : Nat) : Int), ((1 + v6 % 9 % 2 : Nat) : Int) + ((v7 / 11 : Nat) : Int), 0⟩⟩, trivial⟩ ⟨rfl, rfl, rfl, trivial⟩
      · conv => whnf
        obtain ⟨v5, p5, hv5, hp5, c5⟩ := nxC hL hp4 8 (by decide) (by decide)
        obtain ⟨v6, p6, hv6, hp6, c6⟩ := nxC hL hp5 10 (by decide) (by decide)
        obtain ⟨v7, p7, hv7, hp7, c7⟩ := nxC hL hp6 12 (by decide) (by decide)
        obtain ⟨v8, p8, hv8, hp8, c8⟩ := nxC hL hp7 5 (by decide) (by decide)
        obtain ⟨xn, hxn⟩ : ∃ xn, expT[v5 / 7]? = some xn := ⟨_, List.getElem?_eq_getElem (by have : expT.length = 4 := rfl; omega)⟩
        have hxe : xn = expT.getD (v5 / 7) [] := by rw [List.getD_eq_getElem?_getD, hxn, Option.getD_some]
        (refine adraw pln11 [0, 3] (by kernel_rfl) ?_; conv => whnf)
        (refine acallF [] (by kernel_rfl) (expTA) ?_ ?_; (focus (repeat' (first | rfl | trivial | apply And.intro))))
        rintro _ _ _ ⟨rfl, rfl, rfl⟩
        conv => whnf
        repeat' (first
          | (refine And.intro ?_ ?_ <;> (conv => whnf))
          | (refine acallM [0] [] (by kernel_rfl) c5 rfl ?_ ?_ ?_; (focus ((repeat' (first | rfl | trivial | apply And.intro)); done)); (focus ((repeat' (first | rfl | trivial | apply And.intro)); done)); rintro _ _ _ ⟨rfl, rfl, rfl⟩; refine ⟨rfl, ?_⟩; conv => whnf)
          | (refine acallM [0] [] (by kernel_rfl) c6 rfl ?_ ?_ ?_; (focus ((repeat' (first | rfl | trivial | apply And.intro)); done)); (focus ((repeat' (first | rfl | trivial | apply And.intro)); done)); rintro _ _ _ ⟨rfl, rfl, rfl⟩; refine ⟨rfl, ?_⟩; conv => whnf)
          | (refine acallM [0] [] (by kernel_rfl) c7 rfl ?_ ?_ ?_; (focus ((repeat' (first | rfl | trivial | apply And.intro)); done)); (focus ((repeat' (first | rfl | trivial | apply And.intro)); done)); rintro _ _ _ ⟨rfl, rfl, rfl⟩; refine ⟨rfl, ?_⟩; conv => whnf)
          | (refine acallM [0] [] (by kernel_rfl) c8 rfl ?_ ?_ ?_; (focus ((repeat' (first | rfl | trivial | apply And.intro)); done)); (focus ((repeat' (first | rfl | trivial | apply And.intro)); done)); rintro _ _ _ ⟨rfl, rfl, rfl⟩; refine ⟨rfl, ?_⟩; conv => whnf)
          | (refine VReq.mk (by decide) ?_; conv => whnf)
          | (refine AIn.mk' (v5 / 7) rfl (by rw [List.length_map]; have : expT.length = 4 := rfl; omega) ?_; conv => whnf)
          | (refine ARd.mapAt hxn ?_; conv => whnf)
          | (refine AAr.div v5 7 (by omega) ?_; conv => whnf)
          | (refine AAr.div v7 11 (by omega) ?_; conv => whnf)
          | (refine AAr.div v8 4 (by omega) ?_; conv => whnf)
          | (refine AAr.to (y := ((1 + v6 % 9 % 2 : Nat) : Int)) ?_ ?_; (focus (rw [show (1 : Int) + ((v6 : Int).tmod 9).tmod 2 = ((1 + v6 % 9 % 2 : Nat) : Int) from rfl]; exact IntWalk.i64_in _ (by omega))); conv => whnf)
          | (refine AAr.i64 ?_ ?_; (focus omega); conv => whnf))
        refine VReq.mk (app_ok (by simp only [List.length_map, List.length_cons, List.length_nil]; omega) (by kernel_rfl)) ?_
        conv => whnf
        exact aback ⟨out ++ [⟨cl, (sv : Int) + 1, 1, (tm : Int) + v1, idT v3, xn, [], 1 + ((v8 / 4 : Nat) : Int), ((1 + v6 % 9 % 2 : Nat) : Int) + ((v7 / 11 : Nat) : Int), 0⟩], p8, tm + v1, sq.set v2 (sv + 1), v2⟩ [(2, .lab 6)] [] rfl (by show 60 - (out ++ [_]).length < 60 - out.length; rw [List.length_append]; simp; omega) (hJ.next hlt hp8 (by omega) hv2 hsb1 rfl ⟨hcm, ⟨v3, hv3, rfl⟩, (by dsimp only; omega), (by dsimp only; omega), .inl ⟨rfl, ⟨v5 / 7, by omega, hxe⟩, rfl, (by dsimp only; omega), (by dsimp only; omega), rfl⟩⟩) ⟨(by repeat' (first | rfl | trivial | apply And.intro)), ⟨rfl, rfl, List.map_set.symm⟩, ⟨rfl, rfl, enE_app out ⟨cl, (sv : Int) + 1, 1, (tm : Int) + v1, idT v3, xn, [], 1 + ((v8 / 4 : Nat) : Int), ((1 + v6 % 9 % 2 : Nat) : Int) + ((v7 / 11 : Nat) : Int), 0⟩⟩, trivial⟩ ⟨rfl, rfl, rfl, trivial⟩
      · conv => whnf
        obtain ⟨v5, p5, hv5, hp5, c5⟩ := nxC hL hp4 8 (by decide) (by decide)
        obtain ⟨v6, p6, hv6, hp6, c6⟩ := nxC hL hp5 10 (by decide) (by decide)
        obtain ⟨v7, p7, hv7, hp7, c7⟩ := nxC hL hp6 12 (by decide) (by decide)
        obtain ⟨v8, p8, hv8, hp8, c8⟩ := nxC hL hp7 5 (by decide) (by decide)
        obtain ⟨xn, hxn⟩ : ∃ xn, expT[v5 / 7]? = some xn := ⟨_, List.getElem?_eq_getElem (by have : expT.length = 4 := rfl; omega)⟩
        have hxe : xn = expT.getD (v5 / 7) [] := by rw [List.getD_eq_getElem?_getD, hxn, Option.getD_some]
        (refine adraw pln11 [0, 3] (by kernel_rfl) ?_; conv => whnf)
        (refine acallF [] (by kernel_rfl) (expTA) ?_ ?_; (focus (repeat' (first | rfl | trivial | apply And.intro))))
        rintro _ _ _ ⟨rfl, rfl, rfl⟩
        conv => whnf
        repeat' (first
          | (refine And.intro ?_ ?_ <;> (conv => whnf))
          | (refine acallM [0] [] (by kernel_rfl) c5 rfl ?_ ?_ ?_; (focus ((repeat' (first | rfl | trivial | apply And.intro)); done)); (focus ((repeat' (first | rfl | trivial | apply And.intro)); done)); rintro _ _ _ ⟨rfl, rfl, rfl⟩; refine ⟨rfl, ?_⟩; conv => whnf)
          | (refine acallM [0] [] (by kernel_rfl) c6 rfl ?_ ?_ ?_; (focus ((repeat' (first | rfl | trivial | apply And.intro)); done)); (focus ((repeat' (first | rfl | trivial | apply And.intro)); done)); rintro _ _ _ ⟨rfl, rfl, rfl⟩; refine ⟨rfl, ?_⟩; conv => whnf)
          | (refine acallM [0] [] (by kernel_rfl) c7 rfl ?_ ?_ ?_; (focus ((repeat' (first | rfl | trivial | apply And.intro)); done)); (focus ((repeat' (first | rfl | trivial | apply And.intro)); done)); rintro _ _ _ ⟨rfl, rfl, rfl⟩; refine ⟨rfl, ?_⟩; conv => whnf)
          | (refine acallM [0] [] (by kernel_rfl) c8 rfl ?_ ?_ ?_; (focus ((repeat' (first | rfl | trivial | apply And.intro)); done)); (focus ((repeat' (first | rfl | trivial | apply And.intro)); done)); rintro _ _ _ ⟨rfl, rfl, rfl⟩; refine ⟨rfl, ?_⟩; conv => whnf)
          | (refine VReq.mk (by decide) ?_; conv => whnf)
          | (refine AIn.mk' (v5 / 7) rfl (by rw [List.length_map]; have : expT.length = 4 := rfl; omega) ?_; conv => whnf)
          | (refine ARd.mapAt hxn ?_; conv => whnf)
          | (refine AAr.div v5 7 (by omega) ?_; conv => whnf)
          | (refine AAr.div v7 11 (by omega) ?_; conv => whnf)
          | (refine AAr.div v8 4 (by omega) ?_; conv => whnf)
          | (refine AAr.to (y := ((1 + v6 % 9 % 2 : Nat) : Int)) ?_ ?_; (focus (rw [show (1 : Int) + ((v6 : Int).tmod 9).tmod 2 = ((1 + v6 % 9 % 2 : Nat) : Int) from rfl]; exact IntWalk.i64_in _ (by omega))); conv => whnf)
          | (refine AAr.i64 ?_ ?_; (focus omega); conv => whnf))
        refine VReq.mk (app_ok (by simp only [List.length_map, List.length_cons, List.length_nil]; omega) (by kernel_rfl)) ?_
        conv => whnf
        exact aback ⟨out ++ [⟨cl, (sv : Int) + 1, 1, (tm : Int) + v1, idT v3, xn, [], 1 + ((v8 / 4 : Nat) : Int), ((1 + v6 % 9 % 2 : Nat) : Int) + ((v7 / 11 : Nat) : Int), 0⟩], p8, tm + v1, sq.set v2 (sv + 1), v2⟩ [(2, .lab 6)] [] rfl (by show 60 - (out ++ [_]).length < 60 - out.length; rw [List.length_append]; simp; omega) (hJ.next hlt hp8 (by omega) hv2 hsb1 rfl ⟨hcm, ⟨v3, hv3, rfl⟩, (by dsimp only; omega), (by dsimp only; omega), .inl ⟨rfl, ⟨v5 / 7, by omega, hxe⟩, rfl, (by dsimp only; omega), (by dsimp only; omega), rfl⟩⟩) ⟨(by repeat' (first | rfl | trivial | apply And.intro)), ⟨rfl, rfl, List.map_set.symm⟩, ⟨rfl, rfl, enE_app out ⟨cl, (sv : Int) + 1, 1, (tm : Int) + v1, idT v3, xn, [], 1 + ((v8 / 4 : Nat) : Int), ((1 + v6 % 9 % 2 : Nat) : Int) + ((v7 / 11 : Nat) : Int), 0⟩⟩, trivial⟩ ⟨rfl, rfl, rfl, trivial⟩
      · conv => whnf
        obtain ⟨v5, p5, hv5, hp5, c5⟩ := nxC hL hp4 6 (by decide) (by decide)
        refine acallM [0] [] (by kernel_rfl) c5 rfl ?_ ?_ ?_; (focus ((repeat' (first | rfl | trivial | apply And.intro)); done)); (focus ((repeat' (first | rfl | trivial | apply And.intro)); done)); rintro _ _ _ ⟨rfl, rfl, rfl⟩; refine ⟨rfl, ?_⟩; conv => whnf
        (refine adraw pln11 [] (by kernel_rfl) ?_; conv => whnf)
        have hi5 : AFn Tryd.prog GS 35 [iv v5] 0 [] (Is (tv (idT v5))) := AFn.up (idTA _ (by omega)) GS
        have hi6 : AFn Tryd.prog GS 35 [iv ((v5 : Int) + 1)] 0 [] (Is (tv (idT (v5 + 1)))) := AFn.up (idTA (v5 + 1) (by omega)) GS
        (refine acall [] (by kernel_rfl) (hi5) rfl ?_ ?_; (focus ((repeat' (first | rfl | trivial | apply And.intro)); done)); (conv => whnf))
        refine vif_split (fun h => ?_) (fun h => ?_)
        · conv => whnf
          refine AAr.i64 (by omega) ?_
          conv => whnf
          (refine acall [] (by kernel_rfl) (hi6) rfl ?_ ?_; (focus ((repeat' (first | rfl | trivial | apply And.intro)); done)); (conv => whnf))
          refine VReq.mk (app_ok (by simp only [List.length_map, List.length_cons, List.length_nil]; omega) (by kernel_rfl)) ?_
          conv => whnf
          exact aback ⟨out ++ [⟨cl, (sv : Int) + 1, 3, (tm : Int) + v1, idT v3, [], idT (v5 + 1), 0, 0, 0⟩], p5, tm + v1, sq.set v2 (sv + 1), v2⟩ [(2, .lab 5)] [] rfl (by show 60 - (out ++ [_]).length < 60 - out.length; rw [List.length_append]; simp; omega) (hJ.next hlt hp5 (by omega) hv2 hsb1 rfl ⟨hcm, ⟨v3, hv3, rfl⟩, (by dsimp only; omega), (by dsimp only; omega), .inr (.inr ⟨rfl, rfl, ⟨v5 + 1, by omega, rfl⟩, idT_ne1 hv5 hv3 h, rfl, rfl, rfl⟩)⟩) ⟨(by repeat' (first | rfl | trivial | apply And.intro)), ⟨rfl, rfl, List.map_set.symm⟩, ⟨rfl, rfl, enE_app out ⟨cl, (sv : Int) + 1, 3, (tm : Int) + v1, idT v3, [], idT (v5 + 1), 0, 0, 0⟩⟩, trivial⟩ ⟨rfl, rfl, rfl, trivial⟩
        · conv => whnf
          (refine acall [] (by kernel_rfl) (hi5) rfl ?_ ?_; (focus ((repeat' (first | rfl | trivial | apply And.intro)); done)); (conv => whnf))
          refine VReq.mk (app_ok (by simp only [List.length_map, List.length_cons, List.length_nil]; omega) (by kernel_rfl)) ?_
          conv => whnf
          exact aback ⟨out ++ [⟨cl, (sv : Int) + 1, 3, (tm : Int) + v1, idT v3, [], idT v5, 0, 0, 0⟩], p5, tm + v1, sq.set v2 (sv + 1), v2⟩ [(2, .lab 5)] [] rfl (by show 60 - (out ++ [_]).length < 60 - out.length; rw [List.length_append]; simp; omega) (hJ.next hlt hp5 (by omega) hv2 hsb1 rfl ⟨hcm, ⟨v3, hv3, rfl⟩, (by dsimp only; omega), (by dsimp only; omega), .inr (.inr ⟨rfl, rfl, ⟨v5, by omega, rfl⟩, idT_ne0 h, rfl, rfl, rfl⟩)⟩) ⟨(by repeat' (first | rfl | trivial | apply And.intro)), ⟨rfl, rfl, List.map_set.symm⟩, ⟨rfl, rfl, enE_app out ⟨cl, (sv : Int) + 1, 3, (tm : Int) + v1, idT v3, [], idT v5, 0, 0, 0⟩⟩, trivial⟩ ⟨rfl, rfl, rfl, trivial⟩
      · repeat' (refine vif_false (beq_eq_false_iff_ne.2 (by omega)) ?_; conv => whnf)
        obtain ⟨v5, p5, hv5, hp5, c5⟩ := nxC hL hp4 3 (by decide) (by decide)
        obtain ⟨v6, p6, hv6, hp6, c6⟩ := nxC hL hp5 40 (by decide) (by decide)
        obtain ⟨xn, hxn⟩ : ∃ xn, namT[v5 / 2]? = some xn := ⟨_, List.getElem?_eq_getElem (by have : namT.length = 2 := rfl; omega)⟩
        have hxe : xn = namT.getD (v5 / 2) [] := by rw [List.getD_eq_getElem?_getD, hxn, Option.getD_some]
        (refine adraw pln11 [0, 3] (by kernel_rfl) ?_; conv => whnf)
        (refine acallF [] (by kernel_rfl) (namTA) ?_ ?_; (focus (repeat' (first | rfl | trivial | apply And.intro))))
        rintro _ _ _ ⟨rfl, rfl, rfl⟩
        conv => whnf
        repeat' (first
          | (refine And.intro ?_ ?_ <;> (conv => whnf))
          | (refine acallM [0] [] (by kernel_rfl) c5 rfl ?_ ?_ ?_; (focus ((repeat' (first | rfl | trivial | apply And.intro)); done)); (focus ((repeat' (first | rfl | trivial | apply And.intro)); done)); rintro _ _ _ ⟨rfl, rfl, rfl⟩; refine ⟨rfl, ?_⟩; conv => whnf)
          | (refine acallM [0] [] (by kernel_rfl) c6 rfl ?_ ?_ ?_; (focus ((repeat' (first | rfl | trivial | apply And.intro)); done)); (focus ((repeat' (first | rfl | trivial | apply And.intro)); done)); rintro _ _ _ ⟨rfl, rfl, rfl⟩; refine ⟨rfl, ?_⟩; conv => whnf)
          | (refine VReq.mk (by decide) ?_; conv => whnf)
          | (refine AIn.mk' (v5 / 2) rfl (by rw [List.length_map]; have : namT.length = 2 := rfl; omega) ?_; conv => whnf)
          | (refine ARd.mapAt hxn ?_; conv => whnf)
          | (refine AAr.div v5 2 (by omega) ?_; conv => whnf)
          | (refine AAr.i64 ?_ ?_; (focus omega); conv => whnf))
        refine VReq.mk (app_ok (by simp only [List.length_map, List.length_cons, List.length_nil]; omega) (by kernel_rfl)) ?_
        conv => whnf
        exact aback ⟨out ++ [⟨cl, (sv : Int) + 1, 2, (tm : Int) + v1, idT v3, xn, [], 0, 0, (v6 : Int) - 4⟩], p6, tm + v1, sq.set v2 (sv + 1), v2⟩ [(2, .lab 6)] [] rfl (by show 60 - (out ++ [_]).length < 60 - out.length; rw [List.length_append]; simp; omega) (hJ.next hlt hp6 (by omega) hv2 hsb1 rfl ⟨hcm, ⟨v3, hv3, rfl⟩, (by dsimp only; omega), (by dsimp only; omega), .inr (.inl ⟨rfl, ⟨v5 / 2, by omega, hxe⟩, rfl, rfl, rfl, (by dsimp only; omega)⟩)⟩) ⟨(by repeat' (first | rfl | trivial | apply And.intro)), ⟨rfl, rfl, List.map_set.symm⟩, ⟨rfl, rfl, enE_app out ⟨cl, (sv : Int) + 1, 2, (tm : Int) + v1, idT v3, xn, [], 0, 0, (v6 : Int) - 4⟩⟩, trivial⟩ ⟨rfl, rfl, rfl, trivial⟩
  · conv => whnf
    refine AAr.i64 (by dsimp only; omega) ?_
    conv => whnf
    refine AIn.mk' v2 rfl (by rw [List.length_map, hsl]; exact hv2) ?_
    conv => whnf
    refine ARd.mapAt hsv ?_
    conv => whnf
    refine AAr.i64 (by omega) ?_
    conv => whnf
    refine AIn.mk' v2 rfl (by rw [List.length_map, hsl]; exact hv2) ?_
    conv => whnf
    refine ARd.mapAt hsv ?_
    conv => whnf
    refine adrawC pln11 [0] [(10, 10), (44, 56)] 4 [(10, .ptr 3 0)] [(0, srB L (nxA L p2)), (1, .rows 3 1 (((sq.map enN).set v2 (enN (sv + 1))))), (2, .rows 32 10 (out.map enE)), (3, .var 32 [tv cl, iv ((sv : Int) + 1), iv 0, iv ((tm : Int) + v1), tv (idT (nxV L p2 6)), tv [], tv [], iv 0, iv 0, iv 0])] (by kernel_rfl) (by kernel_rfl) ?_ ?_
    · conv => whnf
      repeat' (first
        | (refine And.intro ?_ ?_ <;> (conv => whnf))
        | (refine AIn.mk' v2 rfl hv2 ?_; conv => whnf)
        | (refine ARd.mapAt (enc := enT) (xs := cliT) hcl ?_; conv => whnf)
        | (refine AIn.mk' v2 rfl (by rw [List.length_set, List.length_map, hsl]; exact hv2) ?_; conv => whnf)
        | (refine ARd.set (by rw [List.length_map, hsl]; exact hv2) ?_; conv => whnf)
        | (refine acallM [0] [] (by kernel_rfl) (nextA L p2 6 (by decide) (by decide) (by omega) hp2) rfl (by repeat' (first | rfl | trivial | apply And.intro)) (by repeat' (first | rfl | trivial | apply And.intro)) ?_; rintro _ _ _ ⟨rfl, rfl, rfl⟩; refine ⟨rfl, ?_⟩; conv => whnf)
        | ((refine acall [] (by kernel_rfl) (hid) rfl ?_ ?_; (focus ((repeat' (first | rfl | trivial | apply And.intro)); done)); (conv => whnf))))
      all_goals first
        | (refine arbD [(3, .lab 3)] [] ?_ ?_ ?_; (focus rfl); (focus (repeat' (first | rfl | trivial | apply And.intro))); (focus (repeat' (first | rfl | trivial | apply And.intro))); done)
        | (refine arbD [(3, .lab 4)] [] ?_ ?_ ?_; (focus rfl); (focus (repeat' (first | rfl | trivial | apply And.intro))); (focus (repeat' (first | rfl | trivial | apply And.intro))); done)
        | (refine arbD [(3, .lab 5)] [] ?_ ?_ ?_; (focus rfl); (focus (repeat' (first | rfl | trivial | apply And.intro))); (focus (repeat' (first | rfl | trivial | apply And.intro))); done)
    have hp3 := nxA_le (L := L) hp2
    generalize nxV L p2 6 = v3 at *
    generalize nxA L p2 = p3 at *
    conv => whnf
    refine acallM [0] [] (by kernel_rfl) (nextA L p3 8 (by decide) (by decide) (by omega) hp3) rfl (by repeat' (first | rfl | trivial | apply And.intro)) (by repeat' (first | rfl | trivial | apply And.intro)) ?_
    rintro _ _ _ ⟨rfl, rfl, rfl⟩
    refine ⟨rfl, ?_⟩
    conv => whnf
    have hv4 := nxV_lt L p3 8 (by decide)
    have hp4 := nxA_le (L := L) hp3
    generalize nxV L p3 8 = v4 at *
    generalize nxA L p3 = p4 at *
    rcases (by omega : v4 = 0 ∨ v4 = 1 ∨ v4 = 2 ∨ v4 = 3 ∨ 4 ≤ v4) with rfl | rfl | rfl | rfl | h4
    · conv => whnf
      obtain ⟨v5, p5, hv5, hp5, c5⟩ := nxC hL hp4 8 (by decide) (by decide)
      obtain ⟨v6, p6, hv6, hp6, c6⟩ := nxC hL hp5 10 (by decide) (by decide)
      obtain ⟨v7, p7, hv7, hp7, c7⟩ := nxC hL hp6 12 (by decide) (by decide)
      obtain ⟨v8, p8, hv8, hp8, c8⟩ := nxC hL hp7 5 (by decide) (by decide)
      obtain ⟨xn, hxn⟩ : ∃ xn, expT[v5 / 7]? = some xn := ⟨_, List.getElem?_eq_getElem (by have : expT.length = 4 := rfl; omega)⟩
      have hxe : xn = expT.getD (v5 / 7) [] := by rw [List.getD_eq_getElem?_getD, hxn, Option.getD_some]
      (refine adraw pln11 [0, 3] (by kernel_rfl) ?_; conv => whnf)
      (refine acallF [] (by kernel_rfl) (expTA) ?_ ?_; (focus (repeat' (first | rfl | trivial | apply And.intro))))
      rintro _ _ _ ⟨rfl, rfl, rfl⟩
      conv => whnf
      repeat' (first
        | (refine And.intro ?_ ?_ <;> (conv => whnf))
        | (refine acallM [0] [] (by kernel_rfl) c5 rfl ?_ ?_ ?_; (focus ((repeat' (first | rfl | trivial | apply And.intro)); done)); (focus ((repeat' (first | rfl | trivial | apply And.intro)); done)); rintro _ _ _ ⟨rfl, rfl, rfl⟩; refine ⟨rfl, ?_⟩; conv => whnf)
        | (refine acallM [0] [] (by kernel_rfl) c6 rfl ?_ ?_ ?_; (focus ((repeat' (first | rfl | trivial | apply And.intro)); done)); (focus ((repeat' (first | rfl | trivial | apply And.intro)); done)); rintro _ _ _ ⟨rfl, rfl, rfl⟩; refine ⟨rfl, ?_⟩; conv => whnf)
        | (refine acallM [0] [] (by kernel_rfl) c7 rfl ?_ ?_ ?_; (focus ((repeat' (first | rfl | trivial | apply And.intro)); done)); (focus ((repeat' (first | rfl | trivial | apply And.intro)); done)); rintro _ _ _ ⟨rfl, rfl, rfl⟩; refine ⟨rfl, ?_⟩; conv => whnf)
        | (refine acallM [0] [] (by kernel_rfl) c8 rfl ?_ ?_ ?_; (focus ((repeat' (first | rfl | trivial | apply And.intro)); done)); (focus ((repeat' (first | rfl | trivial | apply And.intro)); done)); rintro _ _ _ ⟨rfl, rfl, rfl⟩; refine ⟨rfl, ?_⟩; conv => whnf)
        | (refine VReq.mk (by decide) ?_; conv => whnf)
        | (refine AIn.mk' (v5 / 7) rfl (by rw [List.length_map]; have : expT.length = 4 := rfl; omega) ?_; conv => whnf)
        | (refine ARd.mapAt hxn ?_; conv => whnf)
        | (refine AAr.div v5 7 (by omega) ?_; conv => whnf)
        | (refine AAr.div v7 11 (by omega) ?_; conv => whnf)
        | (refine AAr.div v8 4 (by omega) ?_; conv => whnf)
        | (refine AAr.to (y := ((1 + v6 % 9 % 2 : Nat) : Int)) ?_ ?_; (focus (rw [show (1 : Int) + ((v6 : Int).tmod 9).tmod 2 = ((1 + v6 % 9 % 2 : Nat) : Int) from rfl]; exact IntWalk.i64_in _ (by omega))); conv => whnf)
        | (refine AAr.i64 ?_ ?_; (focus omega); conv => whnf))
      refine VReq.mk (app_ok (by simp only [List.length_map, List.length_cons, List.length_nil]; omega) (by kernel_rfl)) ?_
      conv => whnf
      exact aback ⟨out ++ [⟨cl, (sv : Int) + 1, 1, (tm : Int) + v1, idT v3, xn, [], 1 + ((v8 / 4 : Nat) : Int), ((1 + v6 % 9 % 2 : Nat) : Int) + ((v7 / 11 : Nat) : Int), 0⟩], p8, tm + v1, sq.set v2 (sv + 1), v2⟩ [(2, .lab 6)] [] rfl (by show 60 - (out ++ [_]).length < 60 - out.length; rw [List.length_append]; simp; omega) (hJ.next hlt hp8 (by omega) hv2 hsb1 rfl ⟨hcm, ⟨v3, hv3, rfl⟩, (by dsimp only; omega), (by dsimp only; omega), .inl ⟨rfl, ⟨v5 / 7, by omega, hxe⟩, rfl, (by dsimp only; omega), (by dsimp only; omega), rfl⟩⟩) ⟨(by repeat' (first | rfl | trivial | apply And.intro)), ⟨rfl, rfl, List.map_set.symm⟩, ⟨rfl, rfl, enE_app out ⟨cl, (sv : Int) + 1, 1, (tm : Int) + v1, idT v3, xn, [], 1 + ((v8 / 4 : Nat) : Int), ((1 + v6 % 9 % 2 : Nat) : Int) + ((v7 / 11 : Nat) : Int), 0⟩⟩, trivial⟩ ⟨rfl, rfl, rfl, trivial⟩
    · conv => whnf
      obtain ⟨v5, p5, hv5, hp5, c5⟩ := nxC hL hp4 8 (by decide) (by decide)
      obtain ⟨v6, p6, hv6, hp6, c6⟩ := nxC hL hp5 10 (by decide) (by decide)
      obtain ⟨v7, p7, hv7, hp7, c7⟩ := nxC hL hp6 12 (by decide) (by decide)
      obtain ⟨v8, p8, hv8, hp8, c8⟩ := nxC hL hp7 5 (by decide) (by decide)
      obtain ⟨xn, hxn⟩ : ∃ xn, expT[v5 / 7]? = some xn := ⟨_, List.getElem?_eq_getElem (by have : expT.length = 4 := rfl; omega)⟩
      have hxe : xn = expT.getD (v5 / 7) [] := by rw [List.getD_eq_getElem?_getD, hxn, Option.getD_some]
      (refine adraw pln11 [0, 3] (by kernel_rfl) ?_; conv => whnf)
      (refine acallF [] (by kernel_rfl) (expTA) ?_ ?_; (focus (repeat' (first | rfl | trivial | apply And.intro))))
      rintro _ _ _ ⟨rfl, rfl, rfl⟩
      conv => whnf
      repeat' (first
        | (refine And.intro ?_ ?_ <;> (conv => whnf))
        | (refine acallM [0] [] (by kernel_rfl) c5 rfl ?_ ?_ ?_; (focus ((repeat' (first | rfl | trivial | apply And.intro)); done)); (focus ((repeat' (first | rfl | trivial | apply And.intro)); done)); rintro _ _ _ ⟨rfl, rfl, rfl⟩; refine ⟨rfl, ?_⟩; conv => whnf)
        | (refine acallM [0] [] (by kernel_rfl) c6 rfl ?_ ?_ ?_; (focus ((repeat' (first | rfl | trivial | apply And.intro)); done)); (focus ((repeat' (first | rfl | trivial | apply And.intro)); done)); rintro _ _ _ ⟨rfl, rfl, rfl⟩; refine ⟨rfl, ?_⟩; conv => whnf)
        | (refine acallM [0] [] (by kernel_rfl) c7 rfl ?_ ?_ ?_; (focus ((repeat' (first | rfl | trivial | apply And.intro)); done)); (focus ((repeat' (first | rfl | trivial | apply And.intro)); done)); rintro _ _ _ ⟨rfl, rfl, rfl⟩; refine ⟨rfl, ?_⟩; conv => whnf)
        | (refine acallM [0] [] (by kernel_rfl) c8 rfl ?_ ?_ ?_; (focus ((repeat' (first | rfl | trivial | apply And.intro)); done)); (focus ((repeat' (first | rfl | trivial | apply And.intro)); done)); rintro _ _ _ ⟨rfl, rfl, rfl⟩; refine ⟨rfl, ?_⟩; conv => whnf)
        | (refine VReq.mk (by decide) ?_; conv => whnf)
        | (refine AIn.mk' (v5 / 7) rfl (by rw [List.length_map]; have : expT.length = 4 := rfl; omega) ?_; conv => whnf)
        | (refine ARd.mapAt hxn ?_; conv => whnf)
        | (refine AAr.div v5 7 (by omega) ?_; conv => whnf)
        | (refine AAr.div v7 11 (by omega) ?_; conv => whnf)
        | (refine AAr.div v8 4 (by omega) ?_; conv => whnf)
        | (refine AAr.to (y := ((1 + v6 % 9 % 2 : Nat) : Int)) ?_ ?_; (focus (rw [show (1 : Int) + ((v6 : Int).tmod 9).tmod 2 = ((1 + v6 % 9 % 2 : Nat) : Int) from rfl]; exact IntWalk.i64_in _ (by omega))); conv => whnf)
        | (refine AAr.i64 ?_ ?_; (focus omega); conv => whnf))
      refine VReq.mk (app_ok (by simp only [List.length_map, List.length_cons, List.length_nil]; omega) (by kernel_rfl)) ?_
      conv => whnf
      exact aback ⟨out ++ [⟨cl, (sv : Int) + 1, 1, (tm : Int) + v1, idT v3, xn, [], 1 + ((v8 / 4 : Nat) : Int), ((1 + v6 % 9 % 2 : Nat) : Int) + ((v7 / 11 : Nat) : Int), 0⟩], p8, tm + v1, sq.set v2 (sv + 1), v2⟩ [(2, .lab 6)] [] rfl (by show 60 - (out ++ [_]).length < 60 - out.length; rw [List.length_append]; simp; omega) (hJ.next hlt hp8 (by omega) hv2 hsb1 rfl ⟨hcm, ⟨v3, hv3, rfl⟩, (by dsimp only; omega), (by dsimp only; omega), .inl ⟨rfl, ⟨v5 / 7, by omega, hxe⟩, rfl, (by dsimp only; omega), (by dsimp only; omega), rfl⟩⟩) ⟨(by repeat' (first | rfl | trivial | apply And.intro)), ⟨rfl, rfl, List.map_set.symm⟩, ⟨rfl, rfl, enE_app out ⟨cl, (sv : Int) + 1, 1, (tm : Int) + v1, idT v3, xn, [], 1 + ((v8 / 4 : Nat) : Int), ((1 + v6 % 9 % 2 : Nat) : Int) + ((v7 / 11 : Nat) : Int), 0⟩⟩, trivial⟩ ⟨rfl, rfl, rfl, trivial⟩
    · conv => whnf
      obtain ⟨v5, p5, hv5, hp5, c5⟩ := nxC hL hp4 8 (by decide) (by decide)
      obtain ⟨v6, p6, hv6, hp6, c6⟩ := nxC hL hp5 10 (by decide) (by decide)
      obtain ⟨v7, p7, hv7, hp7, c7⟩ := nxC hL hp6 12 (by decide) (by decide)
      obtain ⟨v8, p8, hv8, hp8, c8⟩ := nxC hL hp7 5 (by decide) (by decide)
      obtain ⟨xn, hxn⟩ : ∃ xn, expT[v5 / 7]? = some xn := ⟨_, List.getElem?_eq_getElem (by have : expT.length = 4 := rfl; omega)⟩
      have hxe : xn = expT.getD (v5 / 7) [] := by rw [List.getD_eq_getElem?_getD, hxn, Option.getD_some]
      (refine adraw pln11 [0, 3] (by kernel_rfl) ?_; conv => whnf)
      (refine acallF [] (by kernel_rfl) (expTA) ?_ ?_; (focus (repeat' (first | rfl | trivial | apply And.intro))))
      rintro _ _ _ ⟨rfl, rfl, rfl⟩
      conv => whnf
      repeat' (first
        | (refine And.intro ?_ ?_ <;> (conv => whnf))
        | (refine acallM [0] [] (by kernel_rfl) c5 rfl ?_ ?_ ?_; (focus ((repeat' (first | rfl | trivial | apply And.intro)); done)); (focus ((repeat' (first | rfl | trivial | apply And.intro)); done)); rintro _ _ _ ⟨rfl, rfl, rfl⟩; refine ⟨rfl, ?_⟩; conv => whnf)
        | (refine acallM [0] [] (by kernel_rfl) c6 rfl ?_ ?_ ?_; (focus ((repeat' (first | rfl | trivial | apply And.intro)); done)); (focus ((repeat' (first | rfl | trivial | apply And.intro)); done)); rintro _ _ _ ⟨rfl, rfl, rfl⟩; refine ⟨rfl, ?_⟩; conv => whnf)
        | (refine acallM [0] [] (by kernel_rfl) c7 rfl ?_ ?_ ?_; (focus ((repeat' (first | rfl | trivial | apply And.intro)); done)); (focus ((repeat' (first | rfl | trivial | apply And.intro)); done)); rintro _ _ _ ⟨rfl, rfl, rfl⟩; refine ⟨rfl, ?_⟩; conv => whnf)
        | (refine acallM [0] [] (by kernel_rfl) c8 rfl ?_ ?_ ?_; (focus ((repeat' (first | rfl | trivial | apply And.intro)); done)); (focus ((repeat' (first | rfl | trivial | apply And.intro)); done)); rintro _ _ _ ⟨rfl, rfl, rfl⟩; refine ⟨rfl, ?_⟩; conv => whnf)
        | (refine VReq.mk (by decide) ?_; conv => whnf)
        | (refine AIn.mk' (v5 / 7) rfl (by rw [List.length_map]; have : expT.length = 4 := rfl; omega) ?_; conv => whnf)
        | (refine ARd.mapAt hxn ?_; conv => whnf)
        | (refine AAr.div v5 7 (by omega) ?_; conv => whnf)
        | (refine AAr.div v7 11 (by omega) ?_; conv => whnf)
        | (refine AAr.div v8 4 (by omega) ?_; conv => whnf)
        | (refine AAr.to (y := ((1 + v6 % 9 % 2 : Nat) : Int)) ?_ ?_; (focus (rw [show (1 : Int) + ((v6 : Int).tmod 9).tmod 2 = ((1 + v6 % 9 % 2 : Nat) : Int) from rfl]; exact IntWalk.i64_in _ (by omega))); conv => whnf)
        | (refine AAr.i64 ?_ ?_; (focus omega); conv => whnf))
      refine VReq.mk (app_ok (by simp only [List.length_map, List.length_cons, List.length_nil]; omega) (by kernel_rfl)) ?_
      conv => whnf
      exact aback ⟨out ++ [⟨cl, (sv : Int) + 1, 1, (tm : Int) + v1, idT v3, xn, [], 1 + ((v8 / 4 : Nat) : Int), ((1 + v6 % 9 % 2 : Nat) : Int) + ((v7 / 11 : Nat) : Int), 0⟩], p8, tm + v1, sq.set v2 (sv + 1), v2⟩ [(2, .lab 6)] [] rfl (by show 60 - (out ++ [_]).length < 60 - out.length; rw [List.length_append]; simp; omega) (hJ.next hlt hp8 (by omega) hv2 hsb1 rfl ⟨hcm, ⟨v3, hv3, rfl⟩, (by dsimp only; omega), (by dsimp only; omega), .inl ⟨rfl, ⟨v5 / 7, by omega, hxe⟩, rfl, (by dsimp only; omega), (by dsimp only; omega), rfl⟩⟩) ⟨(by repeat' (first | rfl | trivial | apply And.intro)), ⟨rfl, rfl, List.map_set.symm⟩, ⟨rfl, rfl, enE_app out ⟨cl, (sv : Int) + 1, 1, (tm : Int) + v1, idT v3, xn, [], 1 + ((v8 / 4 : Nat) : Int), ((1 + v6 % 9 % 2 : Nat) : Int) + ((v7 / 11 : Nat) : Int), 0⟩⟩, trivial⟩ ⟨rfl, rfl, rfl, trivial⟩
    · conv => whnf
      obtain ⟨v5, p5, hv5, hp5, c5⟩ := nxC hL hp4 6 (by decide) (by decide)
      refine acallM [0] [] (by kernel_rfl) c5 rfl ?_ ?_ ?_; (focus ((repeat' (first | rfl | trivial | apply And.intro)); done)); (focus ((repeat' (first | rfl | trivial | apply And.intro)); done)); rintro _ _ _ ⟨rfl, rfl, rfl⟩; refine ⟨rfl, ?_⟩; conv => whnf
      (refine adraw pln11 [] (by kernel_rfl) ?_; conv => whnf)
      have hi5 : AFn Tryd.prog GS 35 [iv v5] 0 [] (Is (tv (idT v5))) := AFn.up (idTA _ (by omega)) GS
      have hi6 : AFn Tryd.prog GS 35 [iv ((v5 : Int) + 1)] 0 [] (Is (tv (idT (v5 + 1)))) := AFn.up (idTA (v5 + 1) (by omega)) GS
      (refine acall [] (by kernel_rfl) (hi5) rfl ?_ ?_; (focus ((repeat' (first | rfl | trivial | apply And.intro)); done)); (conv => whnf))
      refine vif_split (fun h => ?_) (fun h => ?_)
      · conv => whnf
        refine AAr.i64 (by omega) ?_
        conv => whnf
        (refine acall [] (by kernel_rfl) (hi6) rfl ?_ ?_; (focus ((repeat' (first | rfl | trivial | apply And.intro)); done)); (conv => whnf))
        refine VReq.mk (app_ok (by simp only [List.length_map, List.length_cons, List.length_nil]; omega) (by kernel_rfl)) ?_
        conv => whnf
        exact aback ⟨out ++ [⟨cl, (sv : Int) + 1, 3, (tm : Int) + v1, idT v3, [], idT (v5 + 1), 0, 0, 0⟩], p5, tm + v1, sq.set v2 (sv + 1), v2⟩ [(2, .lab 5)] [] rfl (by show 60 - (out ++ [_]).length < 60 - out.length; rw [List.length_append]; simp; omega) (hJ.next hlt hp5 (by omega) hv2 hsb1 rfl ⟨hcm, ⟨v3, hv3, rfl⟩, (by dsimp only; omega), (by dsimp only; omega), .inr (.inr ⟨rfl, rfl, ⟨v5 + 1, by omega, rfl⟩, idT_ne1 hv5 hv3 h, rfl, rfl, rfl⟩)⟩) ⟨(by repeat' (first | rfl | trivial | apply And.intro)), ⟨rfl, rfl, List.map_set.symm⟩, ⟨rfl, rfl, enE_app out ⟨cl, (sv : Int) + 1, 3, (tm : Int) + v1, idT v3, [], idT (v5 + 1), 0, 0, 0⟩⟩, trivial⟩ ⟨rfl, rfl, rfl, trivial⟩
      · conv => whnf
        (refine acall [] (by kernel_rfl) (hi5) rfl ?_ ?_; (focus ((repeat' (first | rfl | trivial | apply And.intro)); done)); (conv => whnf))
        refine VReq.mk (app_ok (by simp only [List.length_map, List.length_cons, List.length_nil]; omega) (by kernel_rfl)) ?_
        conv => whnf
        exact aback ⟨out ++ [⟨cl, (sv : Int) + 1, 3, (tm : Int) + v1, idT v3, [], idT v5, 0, 0, 0⟩], p5, tm + v1, sq.set v2 (sv + 1), v2⟩ [(2, .lab 5)] [] rfl (by show 60 - (out ++ [_]).length < 60 - out.length; rw [List.length_append]; simp; omega) (hJ.next hlt hp5 (by omega) hv2 hsb1 rfl ⟨hcm, ⟨v3, hv3, rfl⟩, (by dsimp only; omega), (by dsimp only; omega), .inr (.inr ⟨rfl, rfl, ⟨v5, by omega, rfl⟩, idT_ne0 h, rfl, rfl, rfl⟩)⟩) ⟨(by repeat' (first | rfl | trivial | apply And.intro)), ⟨rfl, rfl, List.map_set.symm⟩, ⟨rfl, rfl, enE_app out ⟨cl, (sv : Int) + 1, 3, (tm : Int) + v1, idT v3, [], idT v5, 0, 0, 0⟩⟩, trivial⟩ ⟨rfl, rfl, rfl, trivial⟩
    · repeat' (refine vif_false (beq_eq_false_iff_ne.2 (by omega)) ?_; conv => whnf)
      obtain ⟨v5, p5, hv5, hp5, c5⟩ := nxC hL hp4 3 (by decide) (by decide)
      obtain ⟨v6, p6, hv6, hp6, c6⟩ := nxC hL hp5 40 (by decide) (by decide)
      obtain ⟨xn, hxn⟩ : ∃ xn, namT[v5 / 2]? = some xn := ⟨_, List.getElem?_eq_getElem (by have : namT.length = 2 := rfl; omega)⟩
      have hxe : xn = namT.getD (v5 / 2) [] := by rw [List.getD_eq_getElem?_getD, hxn, Option.getD_some]
      (refine adraw pln11 [0, 3] (by kernel_rfl) ?_; conv => whnf)
      (refine acallF [] (by kernel_rfl) (namTA) ?_ ?_; (focus (repeat' (first | rfl | trivial | apply And.intro))))
      rintro _ _ _ ⟨rfl, rfl, rfl⟩
      conv => whnf
      repeat' (first
        | (refine And.intro ?_ ?_ <;> (conv => whnf))
        | (refine acallM [0] [] (by kernel_rfl) c5 rfl ?_ ?_ ?_; (focus ((repeat' (first | rfl | trivial | apply And.intro)); done)); (focus ((repeat' (first | rfl | trivial | apply And.intro)); done)); rintro _ _ _ ⟨rfl, rfl, rfl⟩; refine ⟨rfl, ?_⟩; conv => whnf)
        | (refine acallM [0] [] (by kernel_rfl) c6 rfl ?_ ?_ ?_; (focus ((repeat' (first | rfl | trivial | apply And.intro)); done)); (focus ((repeat' (first | rfl | trivial | apply And.intro)); done)); rintro _ _ _ ⟨rfl, rfl, rfl⟩; refine ⟨rfl, ?_⟩; conv => whnf)
        | (refine VReq.mk (by decide) ?_; conv => whnf)
        | (refine AIn.mk' (v5 / 2) rfl (by rw [List.length_map]; have : namT.length = 2 := rfl; omega) ?_; conv => whnf)
        | (refine ARd.mapAt hxn ?_; conv => whnf)
        | (refine AAr.div v5 2 (by omega) ?_; conv => whnf)
        | (refine AAr.i64 ?_ ?_; (focus omega); conv => whnf))
      refine VReq.mk (app_ok (by simp only [List.length_map, List.length_cons, List.length_nil]; omega) (by kernel_rfl)) ?_
      conv => whnf
      exact aback ⟨out ++ [⟨cl, (sv : Int) + 1, 2, (tm : Int) + v1, idT v3, xn, [], 0, 0, (v6 : Int) - 4⟩], p6, tm + v1, sq.set v2 (sv + 1), v2⟩ [(2, .lab 6)] [] rfl (by show 60 - (out ++ [_]).length < 60 - out.length; rw [List.length_append]; simp; omega) (hJ.next hlt hp6 (by omega) hv2 hsb1 rfl ⟨hcm, ⟨v3, hv3, rfl⟩, (by dsimp only; omega), (by dsimp only; omega), .inr (.inl ⟨rfl, ⟨v5 / 2, by omega, hxe⟩, rfl, rfl, rfl, (by dsimp only; omega)⟩)⟩) ⟨(by repeat' (first | rfl | trivial | apply And.intro)), ⟨rfl, rfl, List.map_set.symm⟩, ⟨rfl, rfl, enE_app out ⟨cl, (sv : Int) + 1, 2, (tm : Int) + v1, idT v3, xn, [], 0, 0, (v6 : Int) - 4⟩⟩, trivial⟩ ⟨rfl, rfl, rfl, trivial⟩
end Go.Proofs.YtmnjmdajgilhiaaDoor.Cl
