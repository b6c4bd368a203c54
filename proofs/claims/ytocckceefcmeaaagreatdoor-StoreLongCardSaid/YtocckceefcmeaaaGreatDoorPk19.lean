/- Joined parts of the proof. The walks of the reference's big and sector, over the first engine, lifted -/
import Derived.Test.YtocckceefcmeaaaGreatDoorPk18
import Derived.Test.YtocckceefcmeaaaGreatDoorPk15
set_option linter.unusedVariables false
set_option linter.unusedSimpArgs false
set_option maxRecDepth 100000
set_option maxHeartbeats 16000000
namespace Go.Proofs.YtocckceefcmeaaaGreatDoor.Vc
open Go Go.RowKit Go.Proofs.YtocckceefcmeaaaGreatDoor.Vc Go.Proofs.YtocckceefcmeaaaGreatDoor.Dg Go.Proofs.YtocckceefcmeaaaGreatDoor.Cl
attribute [local irreducible] loadVar storeVar Instr.indexAt Instr.index Instr.sliceAt Instr.makeSlice Instr.lookup Instr.mapUpdate Instr.range Instr.next Instr.entry Instr.makeMap Builtin.append_ Builtin.copy_ Builtin.len_ Builtin.min_ Builtin.max_ Builtin.cap_ Builtin.delete_ Builtin.clear_ convert binOp eqGuard Op.unary Calls
def beT (k n j : Nat) : List UInt8 := (List.range j).map fun t => bt (n / 2 ^ (8 * (k - 1 - t)))
theorem beT_succ (k n j : Nat) : beT k n (j + 1) = beT k n j ++ [bt (n / 2 ^ (8 * (k - 1 - j)))] := by
 simp only [beT, List.range_succ, List.map_append, List.map_cons, List.map_nil]
theorem own_nilC {w : World} {B : Nat} {E : TypeId} {sz : Nat} {oa : Option Addr} {n c : Nat} {xs : List Value} (hO : Own w B E sz oa n c xs) : oa = none → c = 0 := by
 intro e
 rcases hO.2 with ⟨hv, hn⟩ | ⟨g, cap, cur, hv, _⟩
 ·injection hv with _ _ e3
 ·injection hv with e1 _ _
  rw [e] at e1; cases e1
theorem big_ok (n k : Nat) (w : World) (hk : k ≤ 8) (hn : n < 18446744073709551616) :
  Ret Tryz.prog 70 #[.int .u64 n, .int .i64 k] w fun v w' => ∃ oa c, v = .slice oa k c ∧ Own w' w.heap.size 5 1 oa k c (bvals (be k n)) ∧ Below w.heap.size w w' := by
 refine ret_of_vc Tryz.func70 rfl Dg.mixed (by kernel_rfl) ?_
 conv=>whnf
 refine vloop (X := Nat × Option Addr × Nat) ws70_1 (fun x => [(5, .slice x.2.1 x.1 x.2.2), (6, .int .i64 ((k : Int) - 1 - x.1))]) (fun x w' => x.1 ≤ k ∧ Below w.heap.size w w' ∧ Own w' w.heap.size 5 1 x.2.1 x.1 x.2.2 (bvals (beT k n x.1))) (fun x => k - x.1) (0, none, 0) (by kernel_rfl)
  ?_ ⟨Nat.zero_le _, Below.refl _ _, Own.nil _ _ _ _⟩ ?_
 ·refine ⟨rfl, intEq ?_, trivial⟩
  rw [IntWalk.i64_in _ (by omega)]; simp
 rintro ⟨j, oo, cc⟩ w1 r1 ⟨hj, hB, ho⟩
 dsimp only at hj ho
 conv=>whnf
 apply vif_split <;> intro h
 ·have hlt : j < k := by have := of_decide_eq_true h; dsimp only at this; omega
  have e1 : IntKind.i64.wrap (8 * ((k : Int) - 1 - (j : Int))) = ((8 * (k - 1 - j) : Nat) : Int) := by rw [IntWalk.i64_in _ (by omega)]; omega
  have e2 : IntKind.u64.wrap (IntKind.i64.wrap (8 * ((k : Int) - 1 - (j : Int)))) = ((8 * (k - 1 - j) : Nat) : Int) := by rw [e1, IntWalk.u64_in _ (by omega)]
  conv=>whnf
  refine VReq.mk (by rw [e2]; omega) ?_
  conv=>whnf
  refine vs_append (B := w.heap.size) (sz := 1) (by_ := 1) (m := 1) (n := j) rfl rfl rfl rfl rfl rfl (ho.alloc _) (Row.alloc1 _ _ _) rfl (fun u hu => by simp at hu; subst hu; rfl) (fun e => by cases e) (by omega) (Nat.le_trans hB.size (by simp)) (by unfold maxLen; omega) ?_
  intro o3 c3 w3 ho3 hB3 _
  conv=>whnf
  refine VBack.mk ⟨_, ?_, (j + 1, o3, c3), rfl, ?_, ?_⟩
  ·show k - (j + 1) < k - j; omega
  ·exact ⟨rfl, intEq (by rw [IntWalk.i64_in _ (by dsimp only; omega)]; dsimp only; omega), trivial⟩
  ·refine ⟨hlt, (balloc hB (Nat.le_refl _) _).trans hB3, ?_⟩
   dsimp only
   rw [beT_succ, bvals_append, bvals_byte]
   rw [e2, u8_shr n (8 * (k - 1 - j)) _ (by have : IntKind.u64.bits = 64 := rfl; rw [this]; omega)] at ho3
   exact ho3
 ·have hge : ¬ j < k := by have := of_decide_eq_false h; dsimp only at this; omega
  obtain rfl : j = k := by omega
  conv=>whnf
  exact VEnd.mk ⟨oo, cc, rfl, ho, hB⟩
theorem sector2_ok (g f i n : Nat) (oa : Option Addr) (m c : Nat) (d : List UInt8) (w : World) (h1 : g < 4294967296) (h2 : f < 65536) (h3 : i < 256) (h4 : n < 256) (hm : m = d.length) (hd_ : d.length ≤ 1000) (hc : m ≤ c) (hnil : oa = none → c = 0) (hr : Row w oa (bvals d)) :
  Ret Tryz.prog 31 #[.int .i64 g, .int .i64 f, .int .i64 i, .int .i64 n, .slice oa m c] w fun v w' => ∃ oa' c', v = .slice oa' (16 + m) c' ∧ Own w' w.heap.size 5 1 oa' (16 + m) c' (bvals (sec g f i n d)) ∧ Below w.heap.size w w' := by
 refine ret_of_vc Tryz.func31 rfl Dg.mixed (by kernel_rfl) ?_
 have lb : ∀ l : List UInt8, (bvals l).length = l.length := fun l => by simp [bvals]
 have u1 : IntKind.u64.wrap (g : Int) = (g : Int) := IntWalk.u64_in _ (by omega)
 have u2 : IntKind.u64.wrap (f : Int) = (f : Int) := IntWalk.u64_in _ (by omega)
 conv=>whnf
 rw [u1]
 refine vcall (by kernel_rfl) (big_ok g 4 w (by decide) (by omega)) ?_
 rintro _ w1 ⟨o1, c1, rfl, hO1, hB1⟩
 conv=>whnf
 rw [u2]
 refine vcall (by kernel_rfl) (big_ok f 2 w1 (by decide) (by omega)) ?_
 rintro _ w2 ⟨o2, c2, rfl, hO2, hB2⟩
 have hB2' := hB1.trans (hB2.mono hB1.size)
 have hO1' := hO1.below hB2
 conv=>whnf
 refine vs_append (B := w.heap.size) (sz := 1) (by_ := 1) (m := 2) (n := 4) rfl rfl rfl rfl rfl rfl hO1' hO2.row (by rw [lb, be_len]) (bvals_one _) (own_nilC hO2) (by decide) hB2'.size (by decide) ?_
 intro o3 c3 w3 hO3 hB3 _
 have hB3' := hB2'.trans hB3
 clear hO1' hO2 hO1 hB1 hB2 hB3 hB2'
 rw [← bvals_append] at hO3
 conv=>whnf
 refine vs_append (B := w.heap.size) (sz := 1) (by_ := 1) (m := 2) (n := 4 + 2) rfl rfl rfl rfl rfl rfl (hO3.alloc _) (Row.alloc1 _ _ _) rfl (fun u hu => by simp at hu; rcases hu with rfl | rfl <;> rfl) (fun e => by cases e) (by decide) (Nat.le_trans hB3'.size (by simp)) (by decide) ?_
 intro o4 c4 w4 hO4 hB4 _
 have hB4' := (balloc hB3' (Nat.le_refl _) _).trans hB4
 clear hB3' hB4 hO3
 rw [u8_bt i, u8_bt n] at hO4
 have hO4 : Own w4 w.heap.size 5 1 o4 8 c4 (bvals (hd g f i n)) := by
  unfold hd
  rw [bvals_append]
  exact hO4
 have hl := hd_len g f i n
 obtain ⟨q1, q2⟩ := hw_lt g f i n d
 have q3 : sumI 101 0 (frame [hd g f i n, d]) = (hw g f i n d : Int) := q2
 have hsec : bvals (sec g f i n d) = bvals (hd g f i n ++ be 8 (hw g f i n d)) ++ bvals d := by unfold sec; rw [bvals_append]
 rw [hsec]
 clear hsec q2
 generalize hw g f i n d = y at *
 generalize hd g f i n = z at *
 have c48 := own_leC hO4
 conv=>whnf
 refine vcall (by kernel_rfl) (hash2_ok 101 (some ⟨w4.heap.size, 0, none⟩) 2 [.slice o4 8 c4, .slice oa m c] [z, d] _ (show 2 ≤ 1099511627776 by decide) (by rw [frame2_len, hl]; omega) (Row.alloc1 _ _ _) ?_) ?_
 ·refine ⟨rfl, fun k hk => ?_⟩
  have hk : k < 2 := hk
  match k, hk with
  | 0, _ => exact ⟨o4, c4, by show some (Value.slice o4 8 c4) = some (Value.slice o4 z.length c4); rw [hl], by show z.length ≤ c4; omega, own_nilC hO4, hO4.row.alloc _⟩
  | 1, _ => exact ⟨oa, c, by show some (Value.slice oa m c) = some (Value.slice oa d.length c); rw [hm], by show d.length ≤ c; omega, hnil, (hr.below hB4').alloc _⟩
 rintro _ w5 ⟨rfl, hB5⟩
 rw [q3]
 have hB45 : Below w4.heap.size w4 w5 := (balloc (Below.refl _ _) (Nat.le_refl _) _).trans (hB5.mono (by simp))
 have hB5' := hB4'.trans (hB45.mono hB4'.size)
 have hO5 := hO4.below hB45
 clear hO4 hB4' hB5 hB45
 conv=>whnf
 refine vcall (by kernel_rfl) (big_ok y 8 w5 (by decide) q1) ?_
 rintro _ w6 ⟨o6, c6, rfl, hO6, hB6⟩
 have hB6' := hB5'.trans (hB6.mono hB5'.size)
 have hO7 := hO5.below hB6
 conv=>whnf
 refine vs_append (B := w.heap.size) (sz := 1) (by_ := 1) (m := 8) (n := 8) rfl rfl rfl rfl rfl rfl hO7 hO6.row (by rw [lb, be_len]) (bvals_one _) (own_nilC hO6) (by decide) hB6'.size (by decide) ?_
 intro o8 c8 w8 hO8 hB8 _
 have hB8' := hB6'.trans hB8
 rw [← bvals_append] at hO8
 clear hO7 hO6 hO5 hB6 hB8 hB6' hB5'
 conv=>whnf
 refine vs_append (B := w.heap.size) (sz := 1) (by_ := 1) (m := m) (n := 8 + 8) rfl rfl rfl rfl rfl rfl hO8 (hr.below hB8') (by rw [lb]; omega) (bvals_one _) hnil (by omega) hB8'.size (by unfold maxLen; omega) ?_
 intro o9 c9 w9 hO9 hB9 _
 have hB9' := hB8'.trans hB9
 clear hO8 hB8' hB9
 conv=>whnf
 exact VEnd.mk ⟨o9, c9, rfl, hO9, hB9'⟩
end Go.Proofs.YtocckceefcmeaaaGreatDoor.Vc
namespace Go.Proofs.YtocckceefcmeaaaGreatDoor.Cl
open Go Go.RowKit Go.Proofs Go.Proofs.YtocckceefcmeaaaGreatDoor.Vc Go.Proofs.YtocckceefcmeaaaGreatDoor.Ax
attribute [local irreducible] loadVar storeVar Instr.indexAt Instr.index Instr.sliceAt Instr.makeSlice Instr.lookup Instr.mapUpdate Instr.range Instr.next Instr.entry Instr.makeMap Builtin.append_ Builtin.copy_ Builtin.len_ Builtin.min_ Builtin.max_ Builtin.cap_ Builtin.delete_ Builtin.clear_ convert binOp eqGuard Op.unary Calls
section
attribute [local irreducible] num hsh
theorem sector2A (G : Glob) (g f i n : Nat) (d : By) (h1 : g < 4294967296) (h2 : f < 65536) (h3 : i < 256) (h4 : n < 256) (hd_ : d.length ≤ 1000) : AFn Tryz.prog G 31 [iv g, iv f, iv i, iv n, bs d] 0 [] (Own1 5 1 ((sec g f i n d).map enB)) := by
 refine afn_flatOwn (E := 5) (c := fun a : UInt8 => [Value.int .u8 (a.toNat : Int)]) (fun _ => rfl) (fun _ => rfl) (fun _ v hv => by simp at hv; subst hv; rfl) fun w F σ vs hF r => ?_
 match vs, r with
 | [x1, x2, x3, x4, x5], ⟨r1, r2, r3, r4, r5, _⟩ =>
  rw [r1.v_eq, r2.v_eq, r3.v_eq, r4.v_eq]
  cases r5 with
  | lst hu =>
   obtain ⟨oa, c, rfl, hc, hn, hr⟩ := bytes_src hu hF
   refine (sector2_ok g f i n oa d.length c d w h1 h2 h3 h4 rfl hd_ hc hn hr).mono fun v w' ⟨oa', c', e, hO, hB⟩ => ?_
   refine ⟨oa', c', ?_, ?_, hB⟩
   ·rw [e, sec_len]
   ·rw [bvals_recs, sec_len]; exact hO
theorem sectors2A (G : Glob) (gen frame : Int) (b : By) (hb : b.length ≤ 3000000) : AFn Tryz.prog G 11 [iv gen, iv frame, bs b] 0 [] (Is (.tup [ss (scL gen frame b), iv (scE gen frame b)])) := by
 have hP := AFn.up (put2A [] (b.length : Int) (i64_nat (by omega)) (Nat.zero_le _)) G
 rw [List.nil_append] at hP
 have hP : AFn Tryz.prog G 30 [bs [], iv ((b.map enB).length : Nat)] 0 [] (Own1 5 1 ((num (b.length : Int)).map enB)) := by rw [List.length_map]; exact hP
 have hnl := num_len (b.length : Int)
 have hdl : (dat b).length = (num (b.length : Int)).length + b.length := by unfold dat; rw [List.length_append]
 have hdm : (num (b.length : Int)).map enB ++ b.map enB = (dat b).map enB := by unfold dat; rw [List.map_append]
 refine afn_of Tryz.func11 rfl mixed (by kernel_rfl) ?_
 by_cases hc : gen < 1 ∨ 4294967295 < gen ∨ frame < 0 ∨ 65535 < frame
 ·obtain ⟨e1, e2⟩ := scE_3 (b := b) hc
  rw [e1, e2]
  conv=>whnf
  repeat' (apply vif_split <;> intro h <;> (conv=>whnf))
  all_goals first
   | exact aret [] (by trivial)
   | (exfalso; simp at *; omega)
 conv=>whnf
 apply vif_split <;> intro h
 ·exfalso; simp at h; omega
 conv=>whnf
 apply vif_split <;> intro h
 ·exfalso; simp at h; omega
 conv=>whnf
 apply vif_split <;> intro h
 ·exfalso; simp at h; omega
 conv=>whnf
 apply vif_split <;> intro h
 ·exfalso; simp at h; omega
 conv=>whnf
 (refine acallF [] (by kernel_rfl) (hP) ?_ ?_; (focus trivial))
 rintro _ _ _ ⟨rfl, rfl, rfl⟩
 conv=>whnf
 refine VReq.mk (app_ok (by simp only [List.length_map]; omega) (by kernel_rfl)) ?_
 conv=>whnf
 rw [hdm]
 refine AAr.i64 (by rw [List.length_map]; omega) ?_
 conv=>whnf
 refine AAr.to (y := (((dat b).length + 47 : Nat) : Int)) (by rw [List.length_map, IntWalk.i64_in _ (by omega)]; omega) ?_
 conv=>whnf
 refine VReq.mk (by decide) ?_
 refine AAr.divN _ 48 (by omega) ?_
 conv=>whnf
 have hpl := pad_len b
 have hpos := nS_pos b
 have hn1 : nS b * 48 < (dat b).length + 48 := by unfold nS; omega
 have hn2 : (dat b).length ≤ nS b * 48 := by unfold nS; omega
 have hpad : (dat b).map enB ++ (zeroT (nS b * 48 - (dat b).length)).data.toList.map enB = (pad b).map enB := by
  unfold pad; rw [List.map_append]; rfl
 rw [show ((dat b).length + 47) / 48 = nS b from rfl]
 apply vif_split <;> intro h
 ·obtain ⟨e1, e2⟩ := scE_4 hc (by simp at h; omega : 255 < nS b)
  rw [e1, e2]
  conv=>whnf
  exact aret [] (by trivial)
 have hns : ¬ 255 < nS b := by simp at h; omega
 obtain ⟨e1, e2⟩ := scE_ok hc hns
 rw [e1, e2]
 conv=>whnf
 refine AAr.to (y := ((nS b * 48 : Nat) : Int)) (by rw [IntWalk.i64_in _ (by omega)]; omega) ?_
 conv=>whnf
 refine AAr.to (y := ((nS b * 48 - (dat b).length : Nat) : Int)) (by rw [List.length_map, IntWalk.i64_in _ (by omega)]; omega) ?_
 conv=>whnf
 refine AMk.mk' (nS b * 48 - (dat b).length) rfl rfl ⟨by omega, by unfold maxLen; omega⟩ ?_
 conv=>whnf
 refine VReq.mk ?_ ?_
 ·have : (zeroT (nS b * 48 - (dat b).length)).size = nS b * 48 - (dat b).length := by simp [zeroT, ByteArray.size]
  rw [this, List.length_map]; unfold maxLen; omega
 conv=>whnf
 rw [hpad]
 conv=>whnf
 obtain ⟨g, hg⟩ : ∃ g : Nat, gen = (g : Int) := ⟨gen.toNat, by omega⟩
 obtain ⟨f, hf⟩ : ∃ f : Nat, frame = (f : Int) := ⟨frame.toNat, by omega⟩
 subst hg; subst hf
 simp only [Int.toNat_natCast]
 refine aloop ((8, 8) :: ws11_1) 4 [8, 10, 11] (fun i : Nat => [(8, bs (pad b)), (10, .own 3), (11, iv i)]) (fun i => [(3, .rows 22 1 ((secA g f b i).map enS))]) (fun i => i ≤ nS b) (fun i => nS b - i) [(3, .nil)] [2] 0 (by kernel_rfl) (fun _ => rfl) rfl (Nat.zero_le _) ⟨rfl, trivial⟩ ⟨⟨rfl, rfl, rfl⟩, trivial, rfl, trivial⟩ ?_
 intro i hi
 conv=>whnf
 apply vif_split <;> intro h
 rotate_left 1
 ·have hie : i = nS b := by simp at h; omega
  subst hie
  conv=>whnf
  refine aret [3] ?_
  trivial
 have hlt : i < nS b := by simp at h; omega
 conv=>whnf
 refine AAr.to (y := ((i * 48 : Nat) : Int)) (by rw [IntWalk.i64_in _ (by omega)]; omega) ?_
 conv=>whnf
 refine AAr.i64 (by omega) ?_
 conv=>whnf
 refine AAr.to (y := (((i + 1) * 48 : Nat) : Int)) (by rw [IntWalk.i64_in _ (by omega)]; omega) ?_
 conv=>whnf
 refine ABd.mk' (i * 48) ((i + 1) * 48) rfl rfl (by omega) (by rw [List.length_map, hpl]; omega) ?_
 conv=>whnf
 have hprl := prt_len hlt
 refine acallF [] (by kernel_rfl) (sector2A G g f i (nS b) (prt b i) (by omega) (by omega) (by omega) (by omega) (by omega)) ⟨rfl, rfl, rfl, rfl, ⟨rfl, prt_map b i⟩, trivial⟩ ?_
 rintro _ _ _ ⟨rfl, rfl, rfl⟩
 conv=>whnf
 refine VReq.mk (app_ok (by rw [List.length_map, secA_len]; simp only [List.length_cons, List.length_nil]; omega) (by kernel_rfl)) ?_
 conv=>whnf
 refine AAr.i64 (by omega) ?_
 conv=>whnf
 exact aback (i + 1) [(3, .lab 6)] [] rfl (by show nS b - (i + 1) < nS b - i; omega) hlt ⟨⟨rfl, rfl, by rw [secA_succ, snocS]⟩, trivial⟩ ⟨⟨rfl, rfl⟩, rfl, rfl, trivial⟩
end
structure DX where
 j : Nat
 e : Int
 out : Li
theorem Gd.mono {b : By} {Q Q' : Li → By → Prop} (h : Gd b Q) (k : ∀ l0 r, AllI l0 → l0.length ≤ 512 → Q l0 r → Q' l0 r) : Gd b Q' := fun l0 r h1 h2 h3 => k l0 r h1 h2 (h l0 r h1 h2 h3)
section
attribute [local irreducible] num hsh
theorem take_step {α : Type} {a b : List α} {i : Nat} (ha : i < a.length) (hb : i < b.length) (h : a.take i = b.take i) (e : a[i] = b[i]) : a.take (i + 1) = b.take (i + 1) := by
 rw [List.take_succ_eq_append_getElem ha, List.take_succ_eq_append_getElem hb, h, e]
abbrev fnV (f : Nat) : AV := .v (.func (.func f) #[] #[])
theorem eqFA (G : Glob) (a b : List By) (hl : a.length ≤ 1000000) : AFn Tryz.prog G 35 [ss a, ss b, fnV 36] 0 [] (Is (bv (decide (a = b)))) := by
 refine afn_of Tryz.func35 rfl mixed (by kernel_rfl) ?_
 conv=>whnf
 apply vif_split <;> intro h
 ·have hn : a ≠ b := fun e => by subst e; simp at h
  conv=>whnf
  exact aret [] (congrArg Value.bool (decide_eq_false hn).symm)
 have hlen : a.length = b.length := by simp at h; omega
 conv=>whnf
 refine aloopH ws35_1 [17] (fun i : Nat => [(17, iv i)]) (fun i => i ≤ a.length ∧ a.take i = b.take i) (fun i => a.length - i) 0 (by kernel_rfl) (fun _ => rfl) (by kernel_rfl) ⟨Nat.zero_le _, rfl⟩ (by trivial) (by trivial) ?_
 rintro i ⟨hi, ht⟩
 conv=>whnf
 apply vif_split <;> intro h
 rotate_left 1
 ·have hie : i = a.length := by simp at h; omega
  subst hie
  have hab : a = b := by rw [List.take_length, hlen, List.take_length] at ht; exact ht
  conv=>whnf
  exact aret [] (congrArg Value.bool (decide_eq_true hab).symm)
 have hlt : i < a.length := by simp at h; omega
 have hlt2 : i < b.length := by omega
 conv=>whnf
 refine AIn.mk' i rfl (lmZ hlt) ?_
 conv=>whnf
 refine ARd.mapAt (List.getElem?_eq_getElem hlt) ?_
 conv=>whnf
 refine AIn.mk' i rfl (lmZ hlt2) ?_
 conv=>whnf
 refine ARd.mapAt (List.getElem?_eq_getElem hlt2) ?_
 conv=>whnf
 (refine acall [] (by kernel_rfl) (bytesEqA G a[i] b[i]) rfl ?_ ?_; (focus trivial))
 conv=>whnf
 apply vif_split <;> intro h
 ·have hne : a[i] ≠ b[i] := by simpa using h
  have hn : a ≠ b := fun e => hne (by subst e; rfl)
  conv=>whnf
  exact aret [] (congrArg Value.bool (decide_eq_false hn).symm)
 have he : a[i] = b[i] := by simpa using h
 conv=>whnf
 refine AAr.i64 (by omega) ?_
 conv=>whnf
 exact aback (i + 1) [] [] rfl (by show a.length - (i + 1) < a.length - i; omega) ⟨hlt, take_step hlt hlt2 ht he⟩ (by trivial) ⟨rfl, trivial⟩
theorem sameSecA (G : Glob) (a b : List By) (hl : a.length ≤ 1000000) : AFn Tryz.prog G 12 [ss a, ss b] 0 [] (Is (bv (decide (a = b)))) := by
 refine afn_of Tryz.func12 rfl mixed (by kernel_rfl) ?_
 conv=>whnf
 apply vif_split <;> intro h
 ·have hn : a ≠ b := fun e => by subst e; simp at h
  conv=>whnf
  exact aret [] (congrArg Value.bool (decide_eq_false hn).symm)
 have hlen : a.length = b.length := by simp at h; omega
 conv=>whnf
 refine aloopH ws12_1 [5] (fun i : Nat => [(5, iv i)]) (fun i => i ≤ a.length ∧ a.take i = b.take i) (fun i => a.length - i) 0 (by kernel_rfl) (fun _ => rfl) (by kernel_rfl) ⟨Nat.zero_le _, rfl⟩ (by trivial) (by trivial) ?_
 rintro i ⟨hi, ht⟩
 conv=>whnf
 apply vif_split <;> intro h
 rotate_left 1
 ·have hie : i = a.length := by simp at h; omega
  subst hie
  have hab : a = b := by rw [List.take_length, hlen, List.take_length] at ht; exact ht
  conv=>whnf
  exact aret [] (congrArg Value.bool (decide_eq_true hab).symm)
 have hlt : i < a.length := by simp at h; omega
 have hlt2 : i < b.length := by omega
 conv=>whnf
 (refine adraw pln12 [] (by kernel_rfl) ?_; conv=>whnf)
 refine AIn.mk' i rfl (lmZ hlt) ?_
 conv=>whnf
 refine ARd.mapAt (List.getElem?_eq_getElem hlt) ?_
 conv=>whnf
 refine ABy.of ?_
 conv=>whnf
 refine AIn.mk' i rfl (lmZ hlt2) ?_
 conv=>whnf
 refine ARd.mapAt (List.getElem?_eq_getElem hlt2) ?_
 conv=>whnf
 refine ABy.of ?_
 conv=>whnf
 apply vif_split <;> intro h
 ·have hne : a[i] ≠ b[i] := by rw [sEq_tx] at h; simpa using h
  have hn : a ≠ b := fun e => hne (by subst e; rfl)
  conv=>whnf
  exact aret [] (congrArg Value.bool (decide_eq_false hn).symm)
 have he : a[i] = b[i] := by rw [sEq_tx] at h; simpa using h
 conv=>whnf
 refine AAr.i64 (by omega) ?_
 conv=>whnf
 exact aback (i + 1) [] [] rfl (by show a.length - (i + 1) < a.length - i; omega) ⟨hlt, take_step hlt hlt2 ht he⟩ (by trivial) ⟨rfl, trivial⟩
theorem takeLA (b : By) (n : Nat) (hn : n ≤ 3000000) : AFn Tryz.prog GC 72 [.ptr 0 0, iv n] 1 [(0, rdB b 0)] (fun a m H => a = bs (if n ≤ b.length then b.take n else []) ∧ m = 1 ∧ H = [(0, rdB (if n ≤ b.length then b.drop n else b) (if n ≤ b.length then 0 else 16))]) := by
 refine afn_of Tryz.func72 rfl mixed (by kernel_rfl) ?_
 conv=>whnf
 apply vif_split <;> intro h
 ·have hl : ¬ n ≤ b.length := by simp at h; omega
  simp only [hl, if_false]
  conv=>whnf
  exact aend (bs []) 1 [(0, rdB b 16)] [] [] ⟨rfl, rfl, rfl⟩ rfl (by trivial) (by trivial)
 have hl : n ≤ b.length := by simp at h; omega
 simp only [hl, if_true]
 conv=>whnf
 refine VReq.mk ⟨Int.le_refl _, by rw [List.length_map]; omega⟩ ?_
 refine ABd.mk' 0 n rfl rfl (Nat.zero_le _) (by rw [List.length_map]; exact hl) ?_
 conv=>whnf
 refine ABd.mk' n b.length rfl (by rw [List.length_map]) hl (by rw [List.length_map]; exact Nat.le_refl _) ?_
 conv=>whnf
 exact aend (bs (b.take n)) 1 [(0, rdB (b.drop n) 0)] [] [] ⟨rfl, rfl, rfl⟩ rfl ⟨⟨rfl, ⟨rfl, List.map_drop.symm⟩, rfl, trivial⟩, trivial⟩ ⟨rfl, List.map_take.symm⟩
def TxL (b : By) (a : AV) (n : Nat) (H : AHeap) : Prop := ∃ t b' e', a = tv t ∧ t.length ≤ b.length ∧ (∀ l r, I64 (l.length : Int) → b = dat l ++ r → t = l) ∧ n = 1 ∧ H = [(0, rdB b' e')]
theorem textLA (b : By) (hb : b.length ≤ 3000000) : AFn Tryz.prog GC 34 [.ptr 0 0, iv (b.length : Nat)] 1 [(0, rdB b 0)] (TxL b) := by
 have hL := lengthA b 0 (b.length : Nat) 4 hb (by decide) (by omega)
 have hr := cnT_rng b 0 (b.length : Nat) 4 (by omega) (by decide)
 have hg : ∀ l r, I64 (l.length : Int) → b = dat l ++ r → cnT b 0 (b.length : Nat) 4 = ((l.length : Int), (num (l.length : Int)).length, 0) := fun l r hl e => by
  have h1 := rnT_num hl (l ++ r)
  rw [← List.append_assoc] at h1
  have e2 : b = num (l.length : Int) ++ l ++ r := e
  rw [← e2] at h1
  have hle : l.length ≤ b.length := by rw [e2]; simp; omega
  have q1 : ¬ ((l.length : Int) < 0) := by omega
  have q2 : ¬ (((b.length : Nat) : Int) < (l.length : Int)) := by omega
  rw [cnT_def, h1]
  simp only [if_true, q1, q2, if_false]
 have hz : (cnT b 0 (b.length : Nat) 4).2.2 ≠ 0 → (cnT b 0 (b.length : Nat) 4).1 = 0 := fun h => by rw [cnT_def] at h ⊢; simp only at h ⊢; rw [if_neg h]
 generalize cnT b 0 (b.length : Nat) 4 = c at *
 obtain ⟨x, k, e'⟩ := c
 simp only at hL hr hz
 obtain ⟨n, rfl⟩ : ∃ n : Nat, x = (n : Int) := ⟨x.toNat, by omega⟩
 have hn : n ≤ b.length := by omega
 by_cases he : e' = 0
 ·subst he
  have hT := takeLA (b.drop k) n (by omega)
  by_cases h : n ≤ (b.drop k).length
  ·simp only [h, if_true] at hT
   refine afn_of Tryz.func34 rfl mixed (by kernel_rfl) ?_
   conv=>whnf
   refine acallM [0] [] (by kernel_rfl) hL rfl (by trivial) (by trivial) ?_
   rintro _ _ _ ⟨rfl, rfl, rfl⟩
   refine ⟨rfl, ?_⟩
   conv=>whnf
   refine acallM [0] [] (by kernel_rfl) hT rfl (by trivial) (by trivial) ?_
   rintro _ _ _ ⟨rfl, rfl, rfl⟩
   refine ⟨rfl, ?_⟩
   conv=>whnf
   refine ABy.of ?_
   conv=>whnf
   refine aend (tv ((b.drop k).take n)) 1 [(0, rdB ((b.drop k).drop n) 0)] [] [] ⟨_, _, _, rfl, ?_, ?_, rfl, rfl⟩ rfl (by trivial) (by trivial)
   ·rw [List.length_take]; omega
   ·intro l r hl e
    have := hg l r hl e
    injection this with q1 q2
    injection q2 with q2 q3
    have q1 : n = l.length := by omega
    have e2 : b = num (l.length : Int) ++ (l ++ r) := by rw [← List.append_assoc]; exact e
    rw [e2, q2, List.drop_left' rfl, q1, List.take_left' rfl]
  ·simp only [h, if_false] at hT
   refine afn_of Tryz.func34 rfl mixed (by kernel_rfl) ?_
   conv=>whnf
   refine acallM [0] [] (by kernel_rfl) hL rfl (by trivial) (by trivial) ?_
   rintro _ _ _ ⟨rfl, rfl, rfl⟩
   refine ⟨rfl, ?_⟩
   conv=>whnf
   refine acallM [0] [] (by kernel_rfl) hT rfl (by trivial) (by trivial) ?_
   rintro _ _ _ ⟨rfl, rfl, rfl⟩
   refine ⟨rfl, ?_⟩
   conv=>whnf
   refine ABy.of (s := []) ?_
   conv=>whnf
   refine aend (tv []) 1 [(0, rdB (b.drop k) 16)] [] [] ⟨_, _, _, rfl, Nat.zero_le _, ?_, rfl, rfl⟩ rfl (by trivial) (by trivial)
   intro l r hl e
   exfalso
   have := hg l r hl e
   injection this with q1 q2
   injection q2 with q2 q3
   have q1 : n = l.length := by omega
   have e2 : b = num (l.length : Int) ++ (l ++ r) := by rw [← List.append_assoc]; exact e
   rw [e2, q2, List.drop_left' rfl, q1] at h
   simp at h
 ·have h0 := hz he
  have hn0 : n = 0 := by omega
  subst hn0
  refine afn_of Tryz.func34 rfl mixed (by kernel_rfl) ?_
  conv=>whnf
  refine acallM [0] [] (by kernel_rfl) hL rfl (by trivial) (by trivial) ?_
  rintro _ _ _ ⟨rfl, rfl, rfl⟩
  refine ⟨rfl, ?_⟩
  conv=>whnf
  refine acallM [0] [] (by kernel_rfl) (takeEA (b.drop k) e' he) rfl (by trivial) (by trivial) ?_
  rintro _ _ _ ⟨rfl, rfl, rfl⟩
  refine ⟨rfl, ?_⟩
  conv=>whnf
  refine ABy.of (s := []) ?_
  conv=>whnf
  refine aend (tv []) 1 [(0, rdB (b.drop k) e')] [] [] ⟨_, _, _, rfl, Nat.zero_le _, ?_, rfl, rfl⟩ rfl (by trivial) (by trivial)
  intro l r hl e
  exfalso
  have := hg l r hl e
  injection this with q1 q2
  injection q2 with q2 q3
  exact he q3
end
section
attribute [local irreducible] num hsh byt rOk
def dtA (l : List By) (i : Nat) : By := (l.take i).flatMap (·.drop 16)
theorem dtA_succ {l : List By} {i : Nat} (h : i < l.length) : dtA l (i + 1) = dtA l i ++ l[i].drop 16 := by
 unfold dtA; rw [List.take_succ_eq_append_getElem h, List.flatMap_append, List.flatMap_singleton]
theorem dtA_len {l : List By} : ∀ {i : Nat}, i ≤ l.length → (∀ s ∈ l.take i, s.length = 64) → (dtA l i).length = 48 * i := by
 intro i
 induction i with
 | zero => intro _ _; rfl
 | succ i ih =>
  intro h hs
  have hi : i < l.length := by omega
  rw [List.take_succ_eq_append_getElem hi] at hs
  rw [dtA_succ hi, List.length_append, ih (by omega) fun s h => hs s (List.mem_append_left _ h), List.length_drop, hs l[i] (List.mem_append_right _ (List.mem_singleton.2 rfl))]
  omega
theorem dtA_all (l : List By) : dtA l l.length = l.flatMap (·.drop 16) := by unfold dtA; rw [List.take_length]
noncomputable def bytV (l : List By) : AV := .tup [iv (byt l).1, iv (byt l).2.1, bs (byt l).2.2.1, bv (byt l).2.2.2]
theorem bytV_no {l : List By} (h : ∀ g f b, ¬ IsF l g f b) : bytV l = .tup [iv 0, iv 0, bs [], bv false] := by unfold bytV; rw [byt_no h]
theorem bytV_of {l : List By} {g f : Nat} {b : By} (h : IsF l g f b) : bytV l = .tup [iv g, iv f, bs b, bv true] := by unfold bytV; rw [byt_of h]
theorem IsF.mem64 {l : List By} {g f : Nat} {b : By} (h : IsF l g f b) {s : By} (hs : s ∈ l) : s.length = 64 := by
 rw [h.2] at hs; exact secs_mem hs
theorem IsF.blen {l : List By} {g f : Nat} {b : By} (h : IsF l g f b) : b.length ≤ 12240 := by
 have h3 := h.len.2.2
 unfold nS dat at h3
 rw [List.length_append] at h3
 omega
theorem byt_test {l : List By} {g f : Nat} {b : By} (hr : ∀ g' f' b', IsF l g' f' b' → g' = g ∧ f' = f) (ht : ∀ c r, I64 (c.length : Int) → l.flatMap (·.drop 16) = dat c ++ r → b = c) :
  (scE g f b = 0 ∧ secs g f b = l → IsF l g f b) ∧ (¬ (scE g f b = 0 ∧ secs g f b = l) → ∀ g' f' b', ¬ IsF l g' f' b') := by
 refine ⟨fun ⟨h1, h2⟩ => ⟨h1, h2.symm⟩, fun hn g' f' b' h => hn ?_⟩
 obtain ⟨rfl, rfl⟩ := hr _ _ _ h
 have hl := h.blen
 have e : b = b' := ht b' (List.replicate (nS b' * 48 - (dat b').length) 0) (i64_nat (by omega)) (by rw [h.2, flat_secs]; rfl)
 subst e
 exact ⟨h.1, h.2.symm⟩
theorem bytesA (G : Glob) (l : List By) (hl : l.length ≤ 1000) : AFn Tryz.prog G 13 [ss l] 0 [] (Is (bytV l)) := by
 refine afn_of Tryz.func13 rfl mixed (by kernel_rfl) ?_
 conv=>whnf
 apply vif_split <;> intro h
 ·have h0 : l.length = 0 := by simp at h; exact congrArg List.length h
  rw [bytV_no fun g f b hx => by have := hx.len; omega]
  conv=>whnf
  exact aret [] (by trivial)
 have h0 : 0 < l.length := by simp at h; exact List.length_pos_iff.2 h
 conv=>whnf
 refine AIn.mk' 0 rfl (lmZ h0) ?_
 conv=>whnf
 refine ARd.mapAt (List.getElem?_eq_getElem h0) ?_
 conv=>whnf
 refine acallF [] (by kernel_rfl) (readHA G l[0]) (by trivial) ?_
 rintro _ _ _ ⟨rfl, rfl, g, f, ix, m, rfl, hrd⟩
 conv=>whnf
 apply vif_split <;> intro h
 ·have hno : rOk l[0] = false := by simpa using h
  rw [bytV_no fun g f b hx => by have := (hx.at h0).2.1; rw [hno] at this; cases this]
  conv=>whnf
  exact aret [] (by trivial)
 have hok : rOk l[0] = true := by simpa using h
 obtain ⟨rfl, rfl, rfl, rfl⟩ := hrd hok
 conv=>whnf
 refine aloop ws13_1 2 [7, 26] (fun i : Nat => [(7, .own 1), (26, iv i)]) (fun i => [(1, .rows 5 1 ((dtA l i).map enB)), (0, .var 59 [iv (hG l[0]), iv (hF l[0]), iv (hI l[0]), iv (hN l[0])])]) (fun i => i ≤ l.length ∧ ∀ s ∈ l.take i, s.length = 64) (fun i => l.length - i) [(1, .nil)] [] 0 (by kernel_rfl) (fun _ => rfl) rfl ⟨Nat.zero_le _, fun s hs => by simp at hs⟩ (by trivial) (by trivial) ?_
 rintro i ⟨hi, h64⟩
 have hdl := dtA_len hi h64
 conv=>whnf
 apply vif_split <;> intro h
 ·have hlt : i < l.length := by simp at h; omega
  conv=>whnf
  refine AIn.mk' i rfl (lmZ hlt) ?_
  conv=>whnf
  refine ARd.mapAt (List.getElem?_eq_getElem hlt) ?_
  conv=>whnf
  apply vif_split <;> intro h
  ·have hne : l[i].length ≠ 64 := by simp at h; omega
   rw [bytV_no fun g f b hx => hne (hx.mem64 (List.getElem_mem hlt))]
   conv=>whnf
   exact aret [] (by trivial)
  have h6 : l[i].length = 64 := by simp at h; omega
  conv=>whnf
  refine ABd.mk' 16 l[i].length rfl (by rw [List.length_map]) (by omega) (by rw [List.length_map]; exact Nat.le_refl _) ?_
  conv=>whnf
  refine VReq.mk (app_ok (by simp only [cut, List.length_map, List.length_drop]; omega) (by kernel_rfl)) ?_
  conv=>whnf
  refine AAr.i64 (by omega) ?_
  conv=>whnf
  refine aback (i + 1) [(1, .lab 2)] [] rfl (by show l.length - (i + 1) < l.length - i; omega) ⟨hlt, fun s hs => ?_⟩ ⟨⟨rfl, rfl, ?_⟩, (by trivial), trivial⟩ ⟨rfl, rfl, trivial⟩
  ·rw [List.take_succ_eq_append_getElem hlt] at hs
   rcases List.mem_append.1 hs with h1 | h1
   ·exact h64 s h1
   ·rw [List.mem_singleton] at h1; rw [h1]; exact h6
  ·rw [dtA_succ hlt, List.map_append, List.map_drop]; rfl
 have hie : i = l.length := by simp at h; omega
 subst hie
 rw [dtA_all] at hdl ⊢
 conv=>whnf
 refine acallF [1] (by kernel_rfl) (AFn.up (newA (l.flatMap (·.drop 16)) (by omega)) G) (by trivial) ?_
 rintro _ _ _ ⟨rfl, rfl, rfl⟩
 conv=>whnf
 have hT : AFn Tryz.prog G 34 [.ptr 0 0, iv (((l.flatMap (·.drop 16)).map enB).length : Nat)] 1 [(0, rdB (l.flatMap (·.drop 16)) 0)] (TxL (l.flatMap (·.drop 16))) := by
  rw [List.length_map]; exact AFn.up (textLA (l.flatMap (·.drop 16)) (by omega)) G
 refine acallM [2] [] (by kernel_rfl) hT rfl (by trivial) (by trivial) ?_
 rintro _ _ _ ⟨t, b', e', rfl, htl, htd, rfl, rfl⟩
 refine ⟨rfl, ?_⟩
 conv=>whnf
 have hgl := hG_lt l[0]
 have hfr : ∀ g' f' c, IsF l g' f' c → g' = hG l[0] ∧ f' = hF l[0] := fun g' f' c hx => by
  have := hx.at h0
  exact ⟨this.2.2.1.symm, this.2.2.2.1.symm⟩
 have hB := byt_test (b := t) hfr htd
 have hS := sectorsA G (hG l[0] : Nat) (hF l[0] : Nat) t (by omega)
 refine acallF [] (by kernel_rfl) hS (by trivial) ?_
 rintro _ _ _ ⟨rfl, rfl, rfl⟩
 conv=>whnf
 apply vif_split <;> intro h
 ·have he : scE (hG l[0] : Nat) (hF l[0] : Nat) t ≠ 0 := by simpa using h
  rw [bytV_no (hB.2 fun hx => he hx.1)]
  conv=>whnf
  exact aret [] (by trivial)
 have he : scE (hG l[0] : Nat) (hF l[0] : Nat) t = 0 := by simpa using h
 have hLl : scL (hG l[0] : Nat) (hF l[0] : Nat) t = secs (hG l[0]) (hF l[0]) t := by unfold scL; rw [if_pos he]; rfl
 rw [hLl]
 conv=>whnf
 (refine acall [] (by kernel_rfl) (eqFA G (secs (hG l[0]) (hF l[0]) t) l (by rw [secs_len]; have := (scE_0 he).2.2.2.2; omega)) rfl ?_ ?_; (focus trivial))
 conv=>whnf
 apply vif_split <;> intro h
 ·have hne : ¬ secs (hG l[0]) (hF l[0]) t = l := by simpa using h
  rw [bytV_no (hB.2 fun hx => hne hx.2)]
  conv=>whnf
  exact aret [] (by trivial)
 have heq : secs (hG l[0]) (hF l[0]) t = l := by simpa using h
 rw [bytV_of (hB.1 ⟨he, heq⟩)]
 conv=>whnf
 (refine adraw pln13 [] (by kernel_rfl) ?_; conv=>whnf)
 exact aret [] (by trivial)
end
abbrev nxZ : Int × Int × Nat × By × Bool := (0, 0, 0, [], false)
theorem nxt_def {l : List By} (h0 : 0 < l.length) : nxt l = if hN l[0] < 1 ∨ l.length < hN l[0] then nxZ else if (byt (l.take (hN l[0]))).2.2.2 then ((byt (l.take (hN l[0]))).1, (byt (l.take (hN l[0]))).2.1, hN l[0], (byt (l.take (hN l[0]))).2.2.1, true) else nxZ := by
 cases l with
 | nil => cases h0
 | cons s r => rfl
theorem nxt_nil : nxt [] = nxZ := rfl
theorem nxt_bad {l : List By} (h0 : 0 < l.length) (h : rOk l[0] = false) : nxt l = nxZ := by
 rw [nxt_def h0]
 split
 ·rfl
 ·rename_i hn
  rcases byt_cases (l.take (hN l[0])) with ⟨g, f, b, hx, e⟩ | ⟨_, e⟩
  ·have hp : 0 < (l.take (hN l[0])).length := by rw [List.length_take]; omega
   have h1 := (hx.at hp).2.1
   rw [List.getElem_take] at h1
   rw [h] at h1; cases h1
  ·rw [e]; rfl
theorem nxt_long {l : List By} (h0 : 0 < l.length) (h : l.length < hN l[0]) : nxt l = nxZ := by
 rw [nxt_def h0, if_pos (.inr h)]
theorem rOk_pos {s : By} (h : rOk s = true) : 0 < hN s ∧ s.length = 64 := by
 unfold rOk at h
 simp only [Bool.and_eq_true, decide_eq_true_eq] at h
 omega
theorem nxt_get {l : List By} (h0 : 0 < l.length) (h : rOk l[0] = true) (hl : hN l[0] ≤ l.length) : nxt l = if (byt (l.take (hN l[0]))).2.2.2 then ((byt (l.take (hN l[0]))).1, (byt (l.take (hN l[0]))).2.1, hN l[0], (byt (l.take (hN l[0]))).2.2.1, true) else nxZ := by
 have := (rOk_pos h).1
 rw [nxt_def h0, if_neg (by omega)]
theorem nxt_ok {l : List By} (h : (nxt l).2.2.2.2 = true) : ∃ g f b, IsF (l.take (nxt l).2.2.1) g f b ∧ nxt l = (((g : Nat) : Int), ((f : Nat) : Int), nS b, b, true) ∧ nS b ≤ l.length ∧ 0 < nS b := by
 have h0 : 0 < l.length := by
  cases l with
  | nil => cases h
  | cons s r => simp
 rw [nxt_def h0] at h ⊢
 split at h
 ·cases h
 ·rename_i hn
  rw [if_neg hn]
  rcases byt_cases (l.take (hN l[0])) with ⟨g, f, b, hx, e⟩ | ⟨_, e⟩
  ·rw [e] at h ⊢
   have hl := hx.len
   rw [List.length_take] at hl
   have e2 : hN l[0] = nS b := by omega
   simp only [if_true]
   exact ⟨g, f, b, hx, by rw [e2], by omega, hl.2.1⟩
  ·rw [e] at h; cases h
theorem lgF_fuel (g : Int) : ∀ (m m' : Nat) (l : List By) (k : Nat), l.length ≤ m → l.length ≤ m' → lgF g m l k = lgF g m' l k := by
 intro m
 induction m with
 | zero =>
  intro m' l k h1 h2
  have : l = [] := List.eq_nil_of_length_eq_zero (by omega)
  subst this
  cases m' with
  | zero => rfl
  | succ m' => simp [lgF, nxt_nil]
 | succ m ih =>
  intro m' l k h1 h2
  cases m' with
  | zero =>
   have : l = [] := List.eq_nil_of_length_eq_zero (by omega)
   subst this
   simp [lgF, nxt_nil]
  | succ m' =>
   unfold lgF
   split
   ·rename_i hc
    obtain ⟨g', f, b, _, e, h3, h4⟩ := nxt_ok hc.1
    rw [e]
    simp only
    rw [ih m' _ _ (by rw [List.length_drop]; omega) (by rw [List.length_drop]; omega)]
   ·rfl
noncomputable def lg (g : Int) (l : List By) (k : Nat) : List By := lgF g l.length l k
theorem lg_stop {g : Int} {l : List By} {k : Nat} (h : ¬ ((nxt l).2.2.2.2 = true ∧ (nxt l).1 = g ∧ (nxt l).2.1 = (k : Int))) : lg g l k = [] := by
 unfold lg
 cases hl : l.length with
 | zero => rfl
 | succ m => unfold lgF; rw [if_neg h]
theorem lg_go {g : Int} {l : List By} {k : Nat} (h : (nxt l).2.2.2.2 = true ∧ (nxt l).1 = g ∧ (nxt l).2.1 = (k : Int)) : lg g l k = (nxt l).2.2.2.1 :: lg g (l.drop (nxt l).2.2.1) (k + 1) := by
 obtain ⟨g', f, b, _, e, h3, h4⟩ := nxt_ok h.1
 unfold lg
 cases hl : l.length with
 | zero => omega
 | succ m =>
  conv => lhs; unfold lgF
  rw [if_pos h]
  congr 1
  exact lgF_fuel g _ _ _ _ (by rw [List.length_drop, e]; simp only; omega) (Nat.le_refl _)
theorem lg_len {g : Int} : ∀ {m : Nat} {l : List By} {k : Nat}, l.length ≤ m → (lg g l k).length ≤ l.length ∧ ∀ b ∈ lg g l k, b.length ≤ 12240 := by
 intro m
 induction m with
 | zero =>
  intro l k h
  have : l = [] := List.eq_nil_of_length_eq_zero (by omega)
  subst this
  exact ⟨Nat.le_refl _, fun b hb => by cases hb⟩
 | succ m ih =>
  intro l k h
  by_cases hc : (nxt l).2.2.2.2 = true ∧ (nxt l).1 = g ∧ (nxt l).2.1 = (k : Int)
  ·rw [lg_go hc]
   obtain ⟨g', f, b, hx, e, h3, h4⟩ := nxt_ok hc.1
   have hi := ih (l := l.drop (nxt l).2.2.1) (k := k + 1) (by rw [List.length_drop, e]; simp only; omega)
   have hdl : (l.drop (nxt l).2.2.1).length + 1 ≤ l.length := by rw [List.length_drop, e]; simp only; omega
   refine ⟨by rw [List.length_cons]; omega, fun c hcm => ?_⟩
   rcases List.mem_cons.1 hcm with rfl | hcm
   ·rw [e]; exact hx.blen
   ·exact hi.2 c hcm
  ·rw [lg_stop hc]
   exact ⟨Nat.zero_le _, fun b hb => by cases hb⟩
theorem isL_def (l : List By) : isL l = ((nxt l).2.2.2.2 && decide ((nxt l).2.1 = 0)) := rfl
noncomputable def logG (l : List By) : Int := if isL l then (nxt l).1 else 0
noncomputable def logF (l : List By) : List By := if isL l then lg (nxt l).1 l 0 else []
abbrev dkC (d : Dk) : List AV := [ss d.now, ss d.safe, iv d.fuse, iv d.ops, bv d.dead]
abbrev dkA (d : Dk) : AV := .agg (dkC d)
def nilF : List FV := [.v (.slice none 0 0)]
theorem cloneBA (G : Glob) (b : By) (h0 : b ≠ []) (hl : b.length ≤ 1000000) : AFn Tryz.prog G 76 [bs b] 0 [] (Own1 5 1 (b.map enB)) := by
 have h0 : 0 < b.length := List.length_pos_iff.2 h0
 refine afn_of Tryz.func76 rfl mixed (by kernel_rfl) ?_
 conv=>whnf
 refine ⟨fun b hb => ?_⟩
 rw [hb (lmZ h0)]
 conv=>whnf
 refine VReq.mk (app_ok (by simp only [List.length_map, List.length_nil]; omega) (by kernel_rfl)) ?_
 conv=>whnf
 exact aend (.own 0) 1 _ [(0, .lab 1)] [] ⟨rfl, rfl, rfl⟩ rfl (by trivial) (by trivial)
def clT (l : List By) (i : Nat) : List (List FV) := (l.take i).map enS ++ List.replicate (l.length - i) nilF
theorem clT_zero (l : List By) : clT l 0 = List.replicate l.length nilF := by simp [clT]
theorem clT_all (l : List By) : clT l l.length = l.map enS := by simp [clT]
theorem clT_len {l : List By} {i : Nat} (h : i ≤ l.length) : (clT l i).length = l.length := by simp [clT]; omega
theorem clT_at {l : List By} {i : Nat} (h : i < l.length) : (clT l i)[i]? = some nilF := by
 unfold clT
 rw [List.getElem?_append_right (by simp; omega)]
 simp only [List.length_map, List.length_take]
 rw [Nat.min_eq_left (by omega), Nat.sub_self, List.getElem?_replicate, if_pos (by omega)]
theorem clT_set {l : List By} {i : Nat} (h : i < l.length) : (clT l i).set i (enS l[i]) = clT l (i + 1) := by
 unfold clT
 rw [List.set_append_right _ _ (by simp; omega)]
 simp only [List.length_map, List.length_take]
 rw [Nat.min_eq_left (by omega), Nat.sub_self, show l.length - i = (l.length - (i + 1)) + 1 by omega, List.replicate_succ, List.set_cons_zero, List.take_succ_eq_append_getElem h, List.map_append, List.append_assoc]
 rfl
theorem clonedA (G : Glob) (l : List By) (h64 : s64 l) (hl : l.length ≤ 1000) : AFn Tryz.prog G 127 [ss l] 0 [] (Own1 22 1 (l.map enS)) := by
 refine afn_of Tryz.func127 rfl mixed (by kernel_rfl) ?_
 conv=>whnf
 refine AMk.mk' l.length (by rw [List.length_map]) (by rw [List.length_map]) ⟨by show 24 * l.length ≤ _; omega, by unfold maxLen; omega⟩ ?_
 conv=>whnf
 refine aloop ws127_1 1 [11] (fun i : Nat => [(11, iv i)]) (fun i => [(0, .rows 22 1 (clT l i))]) (fun i => i ≤ l.length) (fun i => l.length - i) [] [] 0 (by kernel_rfl) (fun _ => rfl) rfl (Nat.zero_le _) ⟨⟨rfl, rfl, (clT_zero l).symm⟩, trivial⟩ ⟨rfl, trivial⟩ ?_
 intro i hi
 conv=>whnf
 apply vif_split <;> intro h
 rotate_left 1
 ·have hie : i = l.length := by simp at h; omega
  subst hie
  rw [clT_all]
  conv=>whnf
  exact aend (.own 0) 1 _ [(0, .lab 0)] [] ⟨rfl, rfl, rfl⟩ rfl (by trivial) (by trivial)
 have hlt : i < l.length := by simp at h; omega
 have h6 := h64 l[i] (List.getElem_mem hlt)
 conv=>whnf
 refine AIn.mk' i rfl (lmZ hlt) ?_
 conv=>whnf
 refine ARd.mapAt (List.getElem?_eq_getElem hlt) ?_
 conv=>whnf
 refine acallF [] (by kernel_rfl) (cloneBA G l[i] (fun e => by rw [e] at h6; cases h6) (by omega)) (by trivial) ?_
 rintro _ _ _ ⟨rfl, rfl, rfl⟩
 conv=>whnf
 refine AIn.mk' i rfl (by rw [clT_len hi]; exact hlt) ?_
 conv=>whnf
 refine ARd.at (clT_at hlt) ?_
 conv=>whnf
 refine AAr.i64 (by omega) ?_
 conv=>whnf
 exact aback (i + 1) [] [] rfl (by show l.length - (i + 1) < l.length - i; omega) hlt ⟨⟨rfl, rfl, clT_set hlt⟩, trivial⟩ ⟨rfl, trivial⟩
theorem wrongA (G : Glob) (b : By) : AFn Tryz.prog G 116 [bs b] 0 [] (Is (bv (decide (b.length ≠ 64)))) := by
 refine afn_of Tryz.func116 rfl mixed (by kernel_rfl) ?_
 conv=>whnf
 refine aret [] (congrArg Value.bool ?_)
 rw [List.length_map]
 by_cases h : b.length = 64
 ·simp [h]
 ·simp [h]; omega
theorem indexFA (G : Glob) (l : List By) (h64 : s64 l) (hl : l.length ≤ 1000) : AFn Tryz.prog G 141 [ss l, fnV 116] 0 [] (Is (iv (-1))) := by
 refine afn_of Tryz.func141 rfl mixed (by kernel_rfl) ?_
 conv=>whnf
 refine aloopH ws141_1 [8] (fun i : Nat => [(8, iv i)]) (fun i => i ≤ l.length) (fun i => l.length - i) 0 (by kernel_rfl) (fun _ => rfl) (by kernel_rfl) (Nat.zero_le _) (by trivial) (by trivial) ?_
 intro i hi
 conv=>whnf
 apply vif_split <;> intro h
 rotate_left 1
 ·conv=>whnf
  exact aret [] rfl
 have hlt : i < l.length := by simp at h; omega
 have h6 := h64 l[i] (List.getElem_mem hlt)
 have hw := wrongA G l[i]
 rw [h6] at hw
 conv=>whnf
 refine AIn.mk' i rfl (lmZ hlt) ?_
 conv=>whnf
 refine ARd.mapAt (List.getElem?_eq_getElem hlt) ?_
 conv=>whnf
 refine acall [] (by kernel_rfl) hw rfl (by trivial) ?_
 conv=>whnf
 refine AAr.i64 (by omega) ?_
 conv=>whnf
 exact aback (i + 1) [] [] rfl (by show l.length - (i + 1) < l.length - i; omega) hlt (by trivial) ⟨rfl, trivial⟩
theorem containsFA (G : Glob) (l : List By) (h64 : s64 l) (hl : l.length ≤ 1000) : AFn Tryz.prog G 117 [ss l, fnV 116] 0 [] (Is (bv false)) := by
 refine afn_of Tryz.func117 rfl mixed (by kernel_rfl) ?_
 conv=>whnf
 (refine acall [] (by kernel_rfl) (indexFA G l h64 hl) rfl ?_ ?_; (focus trivial))
 conv=>whnf
 exact aret [] rfl
theorem sectorsBA (G : Glob) (n : Nat) (h1 : n % 2 = 0) (h2 : 8 ≤ n) (h3 : n ≤ 256) : AFn Tryz.prog G 115 [iv n] 0 [] (Is (bv true)) := by
 refine afn_of Tryz.func115 rfl mixed (by kernel_rfl) ?_
 conv=>whnf
 have hm : ((n : Int)).tmod 2 = ((n % 2 : Nat) : Int) := rfl
 refine VReq.mk (by decide) ?_
 rw [hm, h1]
 conv=>whnf
 apply vif_split <;> intro h
 rotate_left 1
 ·exfalso; simp at h; omega
 conv=>whnf
 exact aret [] (congrArg Value.bool (by simp; omega))
theorem validA (G : Glob) (d : Dk) (h : d.ok) : AFn Tryz.prog G 84 [dkA d] 0 [] (Is (bv true)) := by
 obtain ⟨h1, h2, h3, h4, h5, h6, h7, h8⟩ := h
 have hs := sectorsBA G d.now.length h1 h2 h3
 have hs : AFn Tryz.prog G 115 [iv ((d.now.map enS).length : Nat)] 0 [] (Is (bv true)) := by rw [List.length_map]; exact hs
 refine afn_of Tryz.func84 rfl mixed (by kernel_rfl) ?_
 conv=>whnf
 (refine acall [] (by kernel_rfl) (hs) rfl ?_ ?_; (focus trivial))
 conv=>whnf
 apply vif_split <;> intro h
 ·exfalso; rw [List.length_map, List.length_map] at h; simp at h; omega
 conv=>whnf
 apply vif_split <;> intro h
 ·exfalso; simp at h; omega
 conv=>whnf
 apply vif_split <;> intro h
 ·exfalso; simp at h; omega
 conv=>whnf
 apply vif_split <;> intro h
 ·exfalso; simp at h; omega
 conv=>whnf
 (refine acall [] (by kernel_rfl) (containsFA G d.now h7 (by omega)) rfl ?_ ?_; (focus trivial))
 conv=>whnf
 (refine acall [] (by kernel_rfl) (containsFA G d.safe h8 (by omega)) rfl ?_ ?_; (focus trivial))
 conv=>whnf
 exact aret [] rfl
theorem sectorsZA (G : Glob) : AFn Tryz.prog G 115 [iv 0] 0 [] (Is (bv false)) := by
 refine afn_of Tryz.func115 rfl mixed (by kernel_rfl) ?_
 conv=>whnf
 refine VReq.mk (by decide) ?_
 conv=>whnf
 exact aret [] rfl
theorem validZA (G : Glob) : AFn Tryz.prog G 84 [dkA Dk.zero] 0 [] (Is (bv false)) := by
 refine afn_of Tryz.func84 rfl mixed (by kernel_rfl) ?_
 conv=>whnf
 (refine acall [] (by kernel_rfl) (sectorsZA G) rfl ?_ ?_; (focus trivial))
 conv=>whnf
 exact aret [] rfl
def deadE (d : Dk) : Int := if d.dead then 40 else 0
theorem readyA (G : Glob) (d : Dk) (h : d.ok) : AFn Tryz.prog G 75 [dkA d] 0 [] (Is (iv (deadE d))) := by
 refine afn_of Tryz.func75 rfl mixed (by kernel_rfl) ?_
 conv=>whnf
 (refine acall [] (by kernel_rfl) (validA G d h) rfl ?_ ?_; (focus trivial))
 conv=>whnf
 apply vif_split <;> intro h
 ·conv=>whnf
  exact aret [] (ciZ (by unfold deadE; rw [if_pos h]))
 ·conv=>whnf
  exact aret [] (ciZ (by unfold deadE; rw [h]; rfl))
theorem readDA (G : Glob) (d : Dk) (h : d.ok) : AFn Tryz.prog G 40 [dkA d, iv 0] 0 [] (fun a n H => n = 0 ∧ H = [] ∧ ∃ b, a = .tup [bs b, iv (deadE d)]) := by
 have hr := readyA G d h
 have hlo := h.lo
 have h0 : 0 < d.now.length := by omega
 have h6 := h.n64 d.now[0] (List.getElem_mem h0)
 unfold deadE at hr ⊢
 refine afn_of Tryz.func40 rfl mixed (by kernel_rfl) ?_
 conv=>whnf
 (refine acall [] (by kernel_rfl) (hr) rfl ?_ ?_; (focus trivial))
 conv=>whnf
 cases hd : d.dead with
 | true =>
  simp only [hd, if_true]
  conv=>whnf
  exact aend (.tup [bs [], iv 40]) 0 [] [] [] ⟨rfl, rfl, [], rfl⟩ rfl trivial (by trivial)
 | false =>
  simp only [hd, Bool.false_eq_true, if_false]
  conv=>whnf
  apply vif_split <;> intro h
  ·exfalso; simp at h; rw [h] at h0; exact absurd h0 (by decide)
  conv=>whnf
  refine AIn.mk' 0 rfl (lmZ h0) ?_
  conv=>whnf
  refine ARd.mapAt (List.getElem?_eq_getElem h0) ?_
  conv=>whnf
  refine acallF [] (by kernel_rfl) (cloneBA G d.now[0] (fun e => by rw [e] at h6; cases h6) (by omega)) (by trivial) ?_
  rintro _ _ _ ⟨rfl, rfl, rfl⟩
  conv=>whnf
  refine aend (.tup [bs d.now[0], iv 0]) 0 [] [] [1] ⟨rfl, rfl, _, rfl⟩ rfl trivial (by trivial)
def CpD (T : Nat) (d : Dk) (a : AV) (n : Nat) (H : AHeap) : Prop := a = .agg [.own 0, .own 1, iv d.fuse, iv d.ops, bv d.dead] ∧ n = 2 ∧ H = [(0, .rows T 1 (d.now.map enS)), (1, .rows T 1 (d.safe.map enS))]
theorem copiedDA (G : Glob) (d : Dk) (h : d.ok) : AFn Tryz.prog G 159 [dkA d] 0 [] (CpD 22 d) := by
 have hhi := h.hi
 have hsf := h.sf
 refine afn_of Tryz.func159 rfl mixed (by kernel_rfl) ?_
 conv=>whnf
 (refine adraw pln159 [] (by kernel_rfl) ?_; conv=>whnf)
 refine acallF [] (by kernel_rfl) (clonedA G d.now h.n64 (by omega)) (by trivial) ?_
 rintro _ _ _ ⟨rfl, rfl, rfl⟩
 conv=>whnf
 refine acallF [] (by kernel_rfl) (clonedA G d.safe h.f64 (by omega)) (by trivial) ?_
 rintro _ _ _ ⟨rfl, rfl, rfl⟩
 conv=>whnf
 exact aend (.agg [.own 0, .own 1, iv d.fuse, iv d.ops, bv d.dead]) 2 _ [(0, .lab 2), (1, .lab 3)] [] ⟨rfl, rfl, rfl⟩ rfl (by trivial) (by trivial)
def dWt (d : Dk) (n : Nat) (b : By) : AV := if d.dead then .tup [dkA Dk.zero, iv 40] else if d.fuse = 0 then .tup [dkA d.dying, iv 40] else .tup [dkA (d.put n b), iv 0]
theorem aendF {G : Glob} {n n1 : Nat} {H1 : AHeap} {a : AV} {K : AV → Nat → AHeap → Prop} (a' : AV) (Z : List Nat) (k : Ax.spine (lowH n H1) fun H0 => K a' n H0) (hwf : wfB n n [] Z (lowH n H1) = true) (hH : coH H1 [] Z n (lowH n H1)) (hc : co H1 [] Z n a' a) : AEnd G n K a n1 H1 :=
 aend a' n _ [] Z (by rw [Ax.spine_eq] at k; exact k) hwf hH hc
theorem aendAll {G : Glob} {n n1 : Nat} {H1 : AHeap} {a : AV} {K : AV → Nat → AHeap → Prop} (hn : n ≤ n1) (k : K a n1 H1) : AEnd G n K a n1 H1 :=
 ⟨⟨a, n1, H1, k, hn, fun _ _ _ σ' F' _ _ s r => ⟨σ', F', s, r, fun _ _ => rfl, fun _ h => h⟩⟩⟩
theorem writeDA (G : Glob) (d : Dk) (h : d.ok) (n : Nat) (hn : n < d.now.length) (b : By) (hb : b.length = 64) : AFn Tryz.prog G 89 [dkA d, iv n, bs b] 0 [] (Is (dWt d n b)) := by
 have hr := readyA G d h
 have hC := copiedDA G d h
 obtain ⟨h1, h2, h3, h4, h5, h6, h7, h8⟩ := h
 obtain ⟨now, safe, fuse, ops, dead⟩ := d
 unfold deadE at hr
 unfold dWt
 unfold CpD at hC
 simp only at *
 refine afn_of Tryz.func89 rfl mixed (by kernel_rfl) ?_
 conv=>whnf
 (refine acall [] (by kernel_rfl) (hr) rfl ?_ ?_; (focus trivial))
 cases dead with
 | true =>
  simp only [if_true]
  conv=>whnf
  exact aret [] (by trivial)
 | false =>
  simp only [Bool.false_eq_true, if_false] at *
  conv=>whnf
  apply vif_split <;> intro h
  ·exfalso; rw [List.length_map] at h; simp at h; omega
  conv=>whnf
  apply vif_split <;> intro h
  ·exfalso; rw [List.length_map, hb] at h; simp at h
  conv=>whnf
  (refine acallI (by kernel_rfl) (afn_of Tryz.func124 rfl mixed (by kernel_rfl) ?_); (conv=>whnf))
  refine acallF [] (by kernel_rfl) hC (by trivial) ?_
  rintro _ _ _ ⟨rfl, rfl, rfl⟩
  conv=>whnf
  apply vif_split <;> intro h
  ·have hf : fuse = 0 := by simpa using h
   rw [if_pos hf]
   conv=>whnf
   refine aendF (.tup [dkA (Dk.dying ⟨now, safe, fuse, ops, false⟩), iv 40]) [6, 7] ?_ rfl ?_ ?_
   rotate_left 1
   ·trivial
   ·trivial
   conv=>whnf
   exact aret [] (by trivial)
  have hf : fuse ≠ 0 := by simpa using h
  rw [if_neg hf]
  conv=>whnf
  apply vif_split <;> intro h
  ·conv=>whnf
   refine AAr.i64 (by omega) ?_
   conv=>whnf
   (refine acallI (by kernel_rfl) (afn_of Tryz.func125 rfl mixed (by kernel_rfl) ?_); (conv=>whnf))
   (refine adraw pln125 [] (by kernel_rfl) ?_; conv=>whnf)
   refine acallF [] (by kernel_rfl) (cloneBA G b (fun e => by rw [e] at hb; cases hb) (by omega)) (by trivial) ?_
   rintro _ _ _ ⟨rfl, rfl, rfl⟩
   conv=>whnf
   refine AIn.mk' n rfl (lmZ hn) ?_
   conv=>whnf
   refine ARd.mapAt (List.getElem?_eq_getElem hn) ?_
   conv=>whnf
   refine aendF (.tup []) [] ?_ rfl ?_ ?_
   rotate_left 1
   ·trivial
   ·trivial
   conv=>whnf
   refine AAr.i64 (by omega) ?_
   conv=>whnf
   refine aendF (.tup [dkA (Dk.put ⟨now, safe, fuse, ops, false⟩ n b), iv 0]) [6, 7] ?_ rfl ?_ ?_
   rotate_left 1
   ·trivial
   ·exact ⟨⟨⟨rfl, rfl, List.map_set.symm⟩, ⟨rfl, rfl, rfl⟩, ciZ (by simp at h; show (fuse - 1) = if 0 < fuse then fuse - 1 else fuse; split <;> omega), rfl, rfl, trivial⟩, rfl, trivial⟩
   conv=>whnf
   exact aret [] (by trivial)
  ·conv=>whnf
   (refine acallI (by kernel_rfl) (afn_of Tryz.func125 rfl mixed (by kernel_rfl) ?_); (conv=>whnf))
   (refine adraw pln125 [] (by kernel_rfl) ?_; conv=>whnf)
   refine acallF [] (by kernel_rfl) (cloneBA G b (fun e => by rw [e] at hb; cases hb) (by omega)) (by trivial) ?_
   rintro _ _ _ ⟨rfl, rfl, rfl⟩
   conv=>whnf
   refine AIn.mk' n rfl (lmZ hn) ?_
   conv=>whnf
   refine ARd.mapAt (List.getElem?_eq_getElem hn) ?_
   conv=>whnf
   refine aendF (.tup []) [] ?_ rfl ?_ ?_
   rotate_left 1
   ·trivial
   ·trivial
   conv=>whnf
   refine AAr.i64 (by omega) ?_
   conv=>whnf
   refine aendF (.tup [dkA (Dk.put ⟨now, safe, fuse, ops, false⟩ n b), iv 0]) [6, 7] ?_ rfl ?_ ?_
   rotate_left 1
   ·trivial
   ·exact ⟨⟨⟨rfl, rfl, List.map_set.symm⟩, ⟨rfl, rfl, rfl⟩, ciZ (by simp at h; show fuse = if 0 < fuse then fuse - 1 else fuse; split <;> omega), rfl, rfl, trivial⟩, rfl, trivial⟩
   conv=>whnf
   exact aret [] (by trivial)
def dFl (d : Dk) : AV := if d.dead then .tup [dkA Dk.zero, iv 40] else if d.fuse = 0 then .tup [dkA d.dying, iv 40] else .tup [dkA d.flush, iv 0]
theorem flushDA (G : Glob) (d : Dk) (h : d.ok) : AFn Tryz.prog G 91 [dkA d] 0 [] (Is (dFl d)) := by
 have hr := readyA G d h
 have hC := copiedDA G d h
 obtain ⟨h1, h2, h3, h4, h5, h6, h7, h8⟩ := h
 obtain ⟨now, safe, fuse, ops, dead⟩ := d
 unfold deadE at hr
 unfold dFl
 unfold CpD at hC
 simp only at *
 refine afn_of Tryz.func91 rfl mixed (by kernel_rfl) ?_
 conv=>whnf
 (refine acall [] (by kernel_rfl) (hr) rfl ?_ ?_; (focus trivial))
 cases dead with
 | true =>
  simp only [if_true]
  conv=>whnf
  exact aret [] (by trivial)
 | false =>
  simp only [Bool.false_eq_true, if_false] at *
  conv=>whnf
  (refine acallI (by kernel_rfl) (afn_of Tryz.func124 rfl mixed (by kernel_rfl) ?_); (conv=>whnf))
  refine acallF [] (by kernel_rfl) hC (by trivial) ?_
  rintro _ _ _ ⟨rfl, rfl, rfl⟩
  conv=>whnf
  apply vif_split <;> intro h
  ·have hf : fuse = 0 := by simpa using h
   rw [if_pos hf]
   conv=>whnf
   refine aendF (.tup [dkA (Dk.dying ⟨now, safe, fuse, ops, false⟩), iv 40]) [4, 5] ?_ rfl ?_ ?_
   rotate_left 1
   ·trivial
   ·trivial
   conv=>whnf
   exact aret [] (by trivial)
  have hf : fuse ≠ 0 := by simpa using h
  rw [if_neg hf]
  conv=>whnf
  apply vif_split <;> intro h
  ·conv=>whnf
   refine AAr.i64 (by omega) ?_
   conv=>whnf
   (refine acallI (by kernel_rfl) (afn_of Tryz.func126 rfl mixed (by kernel_rfl) ?_); (conv=>whnf))
   refine acallF [4] (by kernel_rfl) (clonedA G now h7 (by omega)) (by trivial) ?_
   rintro _ _ _ ⟨rfl, rfl, rfl⟩
   conv=>whnf
   refine aendAll (by decide) ?_
   conv=>whnf
   refine AAr.i64 (by omega) ?_
   conv=>whnf
   refine aendF (.tup [dkA (Dk.flush ⟨now, safe, fuse, ops, false⟩), iv 0]) [7] ?_ rfl ?_ ?_
   rotate_left 1
   ·trivial
   ·exact ⟨⟨⟨rfl, rfl⟩, ⟨rfl, rfl, rfl⟩, ciZ (by simp at h; show (fuse - 1) = if 0 < fuse then fuse - 1 else fuse; split <;> omega), rfl, rfl, trivial⟩, rfl, trivial⟩
   conv=>whnf
   exact aret [] (by trivial)
  ·conv=>whnf
   (refine acallI (by kernel_rfl) (afn_of Tryz.func126 rfl mixed (by kernel_rfl) ?_); (conv=>whnf))
   refine acallF [4] (by kernel_rfl) (clonedA G now h7 (by omega)) (by trivial) ?_
   rintro _ _ _ ⟨rfl, rfl, rfl⟩
   conv=>whnf
   refine aendAll (by decide) ?_
   conv=>whnf
   refine AAr.i64 (by omega) ?_
   conv=>whnf
   refine aendF (.tup [dkA (Dk.flush ⟨now, safe, fuse, ops, false⟩), iv 0]) [7] ?_ rfl ?_ ?_
   rotate_left 1
   ·trivial
   ·exact ⟨⟨⟨rfl, rfl⟩, ⟨rfl, rfl, rfl⟩, ciZ (by simp at h; show fuse = if 0 < fuse then fuse - 1 else fuse; split <;> omega), rfl, rfl, trivial⟩, rfl, trivial⟩
   conv=>whnf
   exact aret [] (by trivial)
abbrev stC (s : So) : List AV := dkC s.d ++ [iv s.gen, iv s.half, iv s.next, iv s.frame, el s.ev]
abbrev stA (s : So) : AV := .agg (stC s)
theorem enS_take {l : List By} {i : Nat} (h : i < l.length) : (l.take (i + 1)).map enS = (l.take i).map enS ++ [[.lst 1 (l[i].map enB)]] := by
 rw [List.take_succ_eq_append_getElem h, List.map_append]; rfl
theorem copied1A (G : Glob) (l : List By) (h64 : s64 l) (hl : l.length ≤ 1000) : AFn Tryz.prog G 77 [ss l] 0 [] (Is (ss l)) := by
 refine afn_of Tryz.func77 rfl mixed (by kernel_rfl) ?_
 conv=>whnf
 refine aloop ws77_1 1 [3, 8] (fun i : Nat => [(3, .own 0), (8, iv i)]) (fun i => [(0, .rows 22 1 ((l.take i).map enS))]) (fun i => i ≤ l.length) (fun i => l.length - i) [(0, .nil)] [] 0 (by kernel_rfl) (fun _ => rfl) rfl (Nat.zero_le _) (by trivial) (by trivial) ?_
 intro i hi
 conv=>whnf
 apply vif_split <;> intro h
 rotate_left 1
 ·have hie : i = l.length := by simp at h; omega
  subst hie
  rw [List.take_length]
  conv=>whnf
  exact aret [0] (by trivial)
 have hlt : i < l.length := by simp at h; omega
 have h6 := h64 l[i] (List.getElem_mem hlt)
 conv=>whnf
 refine AIn.mk' i rfl (lmZ hlt) ?_
 conv=>whnf
 refine ARd.mapAt (List.getElem?_eq_getElem hlt) ?_
 conv=>whnf
 refine acallF [] (by kernel_rfl) (cloneBA G l[i] (fun e => by rw [e] at h6; cases h6) (by omega)) (by trivial) ?_
 rintro _ _ _ ⟨rfl, rfl, rfl⟩
 conv=>whnf
 refine VReq.mk (app_ok (by simp only [List.length_map, List.length_take, List.length_cons, List.length_nil]; omega) (by kernel_rfl)) ?_
 conv=>whnf
 refine AAr.i64 (by omega) ?_
 conv=>whnf
 exact aback (i + 1) [(0, .lab 3)] [] rfl (by show l.length - (i + 1) < l.length - i; omega) hlt ⟨⟨rfl, rfl, (enS_take hlt).symm⟩, trivial⟩ ⟨rfl, rfl, trivial⟩
theorem copiedSA (G : Glob) (d : Dk) (h : d.ok) : AFn Tryz.prog G 42 [dkA d] 0 [] (Is (dkA d)) := by
 have hhi := h.hi
 have hsf := h.sf
 refine afn_of Tryz.func42 rfl mixed (by kernel_rfl) ?_
 conv=>whnf
 (refine adraw pln42 [] (by kernel_rfl) ?_; conv=>whnf)
 repeat' (first
  | (refine acallF [] (by kernel_rfl) (copied1A G d.now h.n64 (by omega)) ?_ ?_; (focus (trivial; done)); rintro _ _ _ ⟨rfl, rfl, rfl⟩; conv=>whnf)
  | (refine acallF [] (by kernel_rfl) (copied1A G d.safe h.f64 (by omega)) ?_ ?_; (focus (trivial; done)); rintro _ _ _ ⟨rfl, rfl, rfl⟩; conv=>whnf))
 exact aret [] (by trivial)
theorem leftA (G : Glob) (d d' : Dk) (h : d'.ok) : AFn Tryz.prog G 90 [dkA d, dkA d'] 0 [] (Is (dkA d')) := by
 refine afn_of Tryz.func90 rfl mixed (by kernel_rfl) ?_
 conv=>whnf
 (refine acall [] (by kernel_rfl) (validA G d' h) rfl ?_ ?_; (focus trivial))
 conv=>whnf
 exact aret [] (by trivial)
theorem leftZA (G : Glob) (d : Dk) (h : d.ok) : AFn Tryz.prog G 90 [dkA d, dkA Dk.zero] 0 [] (Is (dkA d)) := by
 refine afn_of Tryz.func90 rfl mixed (by kernel_rfl) ?_
 conv=>whnf
 (refine acall [] (by kernel_rfl) (validZA G) rfl ?_ ?_; (focus trivial))
 conv=>whnf
 refine acallF [] (by kernel_rfl) (copiedSA G d h) (by trivial) ?_
 rintro _ _ _ ⟨rfl, rfl, rfl⟩
 conv=>whnf
 exact aret [] (by trivial)
theorem failA1 (G : Glob) (d : Dk) : AFn Tryz.prog G 41 [dkA d, iv 40] 0 [] (Is (.tup [stA (So.died d), iv 40])) := by
 refine afn_of Tryz.func41 rfl mixed (by kernel_rfl) ?_
 conv=>whnf
 exact aret [] (by trivial)
structure WS where
 d : Dk
 i : Nat
theorem writeSA (G : Glob) (d : Dk) (h : d.ok) (at_ : Nat) (l : List By) (h64 : s64 l) (hat : at_ + l.length ≤ d.now.length) : AFn Tryz.prog G 59 [dkA d, iv at_, ss l] 0 [] (Is (.tup [dkA (dWr d at_ l).1, iv (dWr d at_ l).2])) := by
 have hhi := h.hi
 refine afn_of Tryz.func59 rfl mixed (by kernel_rfl) ?_
 conv=>whnf
 refine aloop ws59_1 2 [16] (fun x : WS => [(16, iv x.i)]) (fun x => [(0, .var 40 (dkC x.d)), (1, .var 40 [.v (.slice none 0 0), .v (.slice none 0 0), iv 0, iv 0, bv false])]) (fun x => x.i ≤ l.length ∧ x.d.ok ∧ x.d.now.length = d.now.length ∧ dWr d at_ l = dWr x.d (at_ + x.i) (l.drop x.i)) (fun x => l.length - x.i) [] [] ⟨d, 0⟩ (by kernel_rfl) (fun _ => rfl) rfl ⟨Nat.zero_le _, h, rfl, rfl⟩ (by trivial) (by trivial) ?_
 rintro ⟨d1, i⟩ ⟨hi, hok, hlen, hw⟩
 dsimp only at hi hok hlen hw
 rw [hw]
 conv=>whnf
 apply vif_split <;> intro h
 ·have hlt : i < l.length := by simp at h; omega
  have h6 := h64 l[i] (List.getElem_mem hlt)
  have hstep : dWr d1 (at_ + i) (l.drop i) = if d1.dead then (d1, 40) else if d1.fuse = 0 then (d1.dying, 40) else dWr (d1.put (at_ + i) l[i]) (at_ + i + 1) (l.drop (i + 1)) := by
   rw [List.drop_eq_getElem_cons hlt]; rfl
  have hW := writeDA G d1 hok (at_ + i) (by omega) l[i] h6
  unfold dWt at hW
  conv=>whnf
  refine AIn.mk' i rfl (lmZ hlt) ?_
  conv=>whnf
  refine ARd.mapAt (List.getElem?_eq_getElem hlt) ?_
  conv=>whnf
  refine AAr.to (y := ((at_ + i : Nat) : Int)) (by dsimp only; rw [IntWalk.i64_in _ (by omega)]; omega) ?_
  conv=>whnf
  rcases Bool.eq_false_or_eq_true d1.dead with hd | hd
  ·skip
   rw [hd, if_pos rfl] at hW hstep
   rw [hstep]
   refine acallF [] (by kernel_rfl) hW (by trivial) ?_
   rintro _ _ _ ⟨rfl, rfl, rfl⟩
   conv=>whnf
   refine acallF [] (by kernel_rfl) (leftZA G d1 hok) (by trivial) ?_
   rintro _ _ _ ⟨rfl, rfl, rfl⟩
   conv=>whnf
   exact aret [] (by trivial)
  ·rw [hd, if_neg (by decide)] at hW hstep
   by_cases hf : d1.fuse = 0
   ·rw [if_pos hf] at hW hstep
    rw [hstep]
    refine acallF [] (by kernel_rfl) hW (by trivial) ?_
    rintro _ _ _ ⟨rfl, rfl, rfl⟩
    conv=>whnf
    refine acallF [] (by kernel_rfl) (leftA G d1 d1.dying hok.dying) (by trivial) ?_
    rintro _ _ _ ⟨rfl, rfl, rfl⟩
    conv=>whnf
    exact aret [] (by trivial)
   ·rw [if_neg hf] at hW hstep
    refine acallF [] (by kernel_rfl) hW (by trivial) ?_
    rintro _ _ _ ⟨rfl, rfl, rfl⟩
    conv=>whnf
    refine AAr.i64 (by dsimp only; omega) ?_
    conv=>whnf
    refine aback ⟨d1.put (at_ + i) l[i], i + 1⟩ [] [] rfl (by show l.length - (i + 1) < l.length - i; omega) ⟨hlt, hok.put h6, ?_, hstep⟩ (by trivial) ⟨rfl, trivial⟩
    show (d1.now.set (at_ + i) l[i]).length = d.now.length
    rw [List.length_set]; exact hlen
 have hie : i = l.length := by simp at h; omega
 subst hie
 have hstep : dWr d1 (at_ + l.length) (l.drop l.length) = if d1.dead then (d1, 40) else if d1.fuse = 0 then (d1.dying, 40) else (d1.flush, 0) := by
  rw [List.drop_length]; rfl
 have hW := flushDA G d1 hok
 unfold dFl at hW
 rw [hstep]
 conv=>whnf
 rcases Bool.eq_false_or_eq_true d1.dead with hd | hd
 ·skip
  rw [hd, if_pos rfl] at hW
  simp only [if_pos hd]
  refine acallF [] (by kernel_rfl) hW (by trivial) ?_
  rintro _ _ _ ⟨rfl, rfl, rfl⟩
  conv=>whnf
  refine acallF [] (by kernel_rfl) (leftZA G d1 hok) (by trivial) ?_
  rintro _ _ _ ⟨rfl, rfl, rfl⟩
  conv=>whnf
  exact aret [] (by trivial)
 ·rw [hd, if_neg (by decide)] at hW
  simp only [if_neg (show ¬ (d1.dead = true) by rw [hd]; decide)]
  by_cases hf : d1.fuse = 0
  ·rw [if_pos hf] at hW ⊢
   refine acallF [] (by kernel_rfl) hW (by trivial) ?_
   rintro _ _ _ ⟨rfl, rfl, rfl⟩
   conv=>whnf
   refine acallF [] (by kernel_rfl) (leftA G d1 d1.dying hok.dying) (by trivial) ?_
   rintro _ _ _ ⟨rfl, rfl, rfl⟩
   conv=>whnf
   exact aret [] (by trivial)
  ·rw [if_neg hf] at hW ⊢
   refine acallF [] (by kernel_rfl) hW (by trivial) ?_
   rintro _ _ _ ⟨rfl, rfl, rfl⟩
   conv=>whnf
   refine acallF [] (by kernel_rfl) (leftA G d1 d1.flush hok.flush) (by trivial) ?_
   rintro _ _ _ ⟨rfl, rfl, rfl⟩
   conv=>whnf
   exact aret [] (by trivial)
section
attribute [local irreducible] num hsh byt rOk nxt lg rdT evF
def NxR (l : List By) (a : AV) (n : Nat) (H : AHeap) : Prop := ∃ k : Nat, a = .tup [iv (nxt l).1, iv (nxt l).2.1, iv k, bs (nxt l).2.2.2.1, bv (nxt l).2.2.2.2] ∧ n = 0 ∧ H = [] ∧ ((nxt l).2.2.2.2 = true → k = (nxt l).2.2.1)
theorem nextSA (G : Glob) (l : List By) (hl : l.length ≤ 1000) : AFn Tryz.prog G 78 [ss l] 0 [] (NxR l) := by
 have zero : nxt l = nxZ → ∀ k : Nat, NxR l (.tup [iv 0, iv 0, iv k, bs [], bv false]) 0 [] := fun e k => by
  unfold NxR; rw [e]; exact ⟨k, rfl, rfl, rfl, fun h => by cases h⟩
 refine afn_of Tryz.func78 rfl mixed (by kernel_rfl) ?_
 conv=>whnf
 apply vif_split <;> intro h
 ·have h0 : l = [] := by simpa using h
  conv=>whnf
  exact aend (.tup [iv 0, iv 0, iv (0 : Nat), bs [], bv false]) 0 [] [] [] (zero (by rw [h0, nxt_nil]) 0) rfl trivial (by trivial)
 have h0 : 0 < l.length := List.length_pos_iff.2 (by simpa using h)
 conv=>whnf
 refine AIn.mk' 0 rfl (lmZ h0) ?_
 conv=>whnf
 refine ARd.mapAt (List.getElem?_eq_getElem h0) ?_
 conv=>whnf
 refine acallF [] (by kernel_rfl) (readHA G l[0]) (by trivial) ?_
 rintro _ _ _ ⟨rfl, rfl, g, f, ix, m, rfl, hrd⟩
 conv=>whnf
 apply vif_split <;> intro h
 ·have hno : rOk l[0] = false := by simpa using h
  conv=>whnf
  exact aend (.tup [iv 0, iv 0, iv (0 : Nat), bs [], bv false]) 0 [] [] [] (zero (nxt_bad h0 hno) 0) rfl trivial (by trivial)
 have hok : rOk l[0] = true := by simpa using h
 obtain ⟨rfl, rfl, rfl, rfl⟩ := hrd hok
 conv=>whnf
 apply vif_split <;> intro h
 ·have hlg : l.length < hN l[0] := by rw [List.length_map] at h; simp at h; omega
  conv=>whnf
  exact aend (.tup [iv 0, iv 0, iv (0 : Nat), bs [], bv false]) 0 [] [] [] (zero (nxt_long h0 hlg) 0) rfl trivial (by trivial)
 have hle : hN l[0] ≤ l.length := by rw [List.length_map] at h; simp at h; omega
 have hg := nxt_get h0 hok hle
 have hB := bytesA G (l.take (hN l[0])) (by rw [List.length_take]; omega)
 unfold bytV at hB
 conv=>whnf
 refine ABd.mk' 0 (hN l[0]) rfl rfl (Nat.zero_le _) (by rw [List.length_map]; exact hle) ?_
 conv=>whnf
 refine acallF [] (by kernel_rfl) hB ⟨⟨rfl, List.map_take.symm⟩, trivial⟩ ?_
 rintro _ _ _ ⟨rfl, rfl, rfl⟩
 conv=>whnf
 (refine adraw pln78 [] (by kernel_rfl) ?_; conv=>whnf)
 rcases byt_cases (l.take (hN l[0])) with ⟨g', f', b', hx, e⟩ | ⟨_, e⟩
 ·rw [e] at hg
  have hg : nxt l = (((g' : Nat) : Int), ((f' : Nat) : Int), hN l[0], b', true) := hg
  refine aend (.tup [iv g', iv f', iv (hN l[0] : Nat), bs b', bv true]) 0 [] [] [] ?_ rfl trivial ?_
  ·unfold NxR; rw [hg]; exact ⟨_, rfl, rfl, rfl, fun _ => rfl⟩
  ·rw [e]; trivial
 ·rw [e] at hg
  have hg : nxt l = nxZ := hg
  refine aend (.tup [iv 0, iv 0, iv (hN l[0] : Nat), bs [], bv false]) 0 [] [] [] (zero hg _) rfl trivial ?_
  rw [e]; trivial
structure LS where
 fr : List By
 at_ : Nat
 n : Nat
theorem logSA (G : Glob) (l : List By) (hl : l.length ≤ 1000) : AFn Tryz.prog G 43 [ss l] 0 [] (Is (.tup [iv (logG l), ss (logF l), bv (isL l)])) := by
 refine afn_of Tryz.func43 rfl mixed (by kernel_rfl) ?_
 conv=>whnf
 refine acallF [] (by kernel_rfl) (nextSA G l hl) (by trivial) ?_
 rintro _ _ _ ⟨k, rfl, rfl, rfl, hk⟩
 obtain ⟨g, f, n, b, ok, hq⟩ : ∃ g f n b ok, nxt l = (g, f, n, b, ok) := ⟨_, _, _, _, _, rfl⟩
 have hisL : isL l = (ok && decide (f = 0)) := by rw [isL_def, hq]
 have hgo := lg_go (g := g) (l := l) (k := 0)
 have hnx := @nxt_ok l
 have hlg0 : (nxt l).1 = g := by rw [hq]
 rw [hq] at hk hgo hnx ⊢
 dsimp only at hk hgo hnx ⊢
 conv=>whnf
 apply vif_split <;> intro h
 ·have hz : isL l = false := by rw [hisL]; simp at h; rw [h]; rfl
  unfold logG logF
  rw [hz]
  conv=>whnf
  exact aret [] (by trivial)
 have hok : ok = true := by simpa using h
 subst hok
 conv=>whnf
 apply vif_split <;> intro h
 ·have hz : isL l = false := by rw [hisL]; simp at h; simp [h]
  unfold logG logF
  rw [hz]
  conv=>whnf
  exact aret [] (by trivial)
 have hf : f = 0 := by simpa using h
 subst hf
 have hy : isL l = true := by rw [hisL]; rfl
 have hG : logG l = g := by unfold logG; rw [if_pos hy, hlg0]
 have hF : logF l = b :: lg g (l.drop n) 1 := by unfold logF; rw [if_pos hy, hlg0]; exact hgo ⟨rfl, rfl, rfl⟩
 obtain ⟨g0, f0, b0, _, e0, e1, e2⟩ := hnx rfl
 injection e0 with _ e0
 injection e0 with _ e0
 injection e0 with e0 _
 obtain rfl := hk rfl
 rw [hy, hG, hF]
 conv=>whnf
 refine aloop ws43_1 2 [7, 10, 11] (fun x : LS => [(7, iv x.n), (10, .own 1), (11, iv x.at_)]) (fun x => [(1, .rows 22 1 (x.fr.map enS))]) (fun x => x.at_ ≤ l.length ∧ x.fr.length ≤ x.at_ ∧ b :: lg g (l.drop k) 1 = x.fr ++ lg g (l.drop x.at_) x.fr.length) (fun x => l.length - x.at_) [(1, .lab 0)] [] ⟨[b], k, k⟩ (by kernel_rfl) (fun _ => rfl) rfl ⟨by show k ≤ l.length; omega, by show 1 ≤ k; omega, rfl⟩ (by trivial) (by trivial) ?_
 rintro ⟨fr, at_, n'⟩ ⟨hat, hfl, hI⟩
 dsimp only at hat hfl hI
 conv=>whnf
 refine ABd.mk' at_ l.length rfl (by rw [List.length_map]) hat (by rw [List.length_map]; exact Nat.le_refl _) ?_
 conv=>whnf
 refine acallF [] (by kernel_rfl) (nextSA G (l.drop at_) (by rw [List.length_drop]; omega)) ⟨⟨rfl, List.map_drop.symm⟩, trivial⟩ ?_
 rintro _ _ _ ⟨k2, rfl, rfl, rfl, hk2⟩
 obtain ⟨g2, f2, n2, b2, ok2, hq2⟩ : ∃ g f n b ok, nxt (l.drop at_) = (g, f, n, b, ok) := ⟨_, _, _, _, _, rfl⟩
 have hgo2 := lg_go (g := g) (l := l.drop at_) (k := fr.length)
 have hst2 := lg_stop (g := g) (l := l.drop at_) (k := fr.length)
 have hnx2 := @nxt_ok (l.drop at_)
 rw [hq2] at hk2 hgo2 hst2 hnx2 ⊢
 dsimp only at hk2 hgo2 hst2 hnx2 ⊢
 rw [hI]
 conv=>whnf
 apply vif_split <;> intro h
 ·have ho : ok2 = false := by simpa using h
  rw [hst2 (by rw [ho]; simp), List.append_nil]
  conv=>whnf
  exact aret [1] (by trivial)
 have hok2 : ok2 = true := by simpa using h
 subst hok2
 conv=>whnf
 apply vif_split <;> intro h
 ·have ho : g2 ≠ g := by simpa using h
  rw [hst2 (fun hx => ho hx.2.1), List.append_nil]
  conv=>whnf
  exact aret [1] (by trivial)
 have hg2 : g2 = g := by simpa using h
 subst hg2
 conv=>whnf
 apply vif_split <;> intro h
 ·have ho : f2 ≠ (fr.length : Int) := by simpa using h
  rw [hst2 (fun hx => ho hx.2.2), List.append_nil]
  conv=>whnf
  exact aret [1] (by trivial)
 have hf2 : f2 = (fr.length : Int) := by simpa using h
 subst hf2
 obtain ⟨g3, f3, b3, _, e3, e4, e5⟩ := hnx2 rfl
 injection e3 with _ e3
 injection e3 with _ e3
 injection e3 with e3 _
 obtain rfl := hk2 rfl
 rw [List.length_drop] at e4
 conv=>whnf
 refine VReq.mk (app_ok (by simp only [List.length_map, List.length_cons, List.length_nil]; omega) (by kernel_rfl)) ?_
 conv=>whnf
 refine AAr.to (y := ((at_ + k2 : Nat) : Int)) (by rw [IntWalk.i64_in _ (by omega)]; omega) ?_
 conv=>whnf
 refine aback ⟨fr ++ [b2], at_ + k2, k2⟩ [(1, .lab 3)] [] rfl (by show l.length - (at_ + k2) < l.length - at_; omega) ⟨by show at_ + k2 ≤ l.length; omega, by show (fr ++ [b2]).length ≤ at_ + k2; rw [List.length_append]; simp only [List.length_cons, List.length_nil]; omega, ?_⟩ ⟨⟨rfl, rfl, (snocS fr b2).symm⟩, trivial⟩ ⟨rfl, rfl, rfl, trivial⟩
 show fr ++ lg g2 (l.drop at_) fr.length = (fr ++ [b2]) ++ lg g2 (l.drop (at_ + k2)) (fr ++ [b2]).length
 rw [hgo2 ⟨rfl, rfl, rfl⟩, List.drop_drop, List.length_append, List.append_assoc]
 rfl
end
section
open Go.Proofs.YtocckceefcmeaaaGreatDoor.Ky
attribute [local irreducible] num hsh byt rOk nxt lg rdT tab evsC chb
theorem cloneEvA (l : List Ev) (hs : l.length ≤ 10000) : AFn Tryz.prog GS 80 [el l] 0 [] (Is (el l)) := by
 by_cases hl : l = []
 ·subst hl
  refine afn_of Tryz.func80 rfl mixed (by kernel_rfl) ?_
  conv=>whnf
  refine ⟨fun b hb => ?_⟩
  cases b with
  | true =>
   conv=>whnf
   exact aret [] (by trivial)
  | false =>
   conv=>whnf
   refine VReq.mk (app_e (by decide)) ?_
   conv=>whnf
   exact aret [1] (by trivial)
 ·exact AFn.frz (cloneEA l hl hs)
structure ES2 where
 out : List Ev
 i : Nat
theorem enE_apps (a b : List Ev) : a.map enE ++ b.map enE = (a ++ b).map enE := List.map_append.symm
theorem eventsSA (fr : List By) (hl : fr.length ≤ 1000) (hb : ∀ b ∈ fr, b.length ≤ 12240) : AFn Tryz.prog GS 44 [ss fr] 0 [] (Is (el (evF [] fr))) := by
 refine afn_of Tryz.func44 rfl mixed (by kernel_rfl) ?_
 conv=>whnf
 refine aloop ws44_1 1 [3, 10] (fun x : ES2 => [(3, .own 0), (10, iv x.i)]) (fun x => [(0, .rows 95 10 (x.out.map enE))]) (fun x => x.i ≤ fr.length ∧ x.out.length ≤ 512 ∧ evF [] fr = evF x.out (fr.drop x.i)) (fun x => fr.length - x.i) [(0, .nil)] [] ⟨[], 0⟩ (by kernel_rfl) (fun _ => rfl) rfl ⟨Nat.zero_le _, Nat.zero_le _, rfl⟩ (by trivial) (by trivial) ?_
 rintro ⟨out, i⟩ ⟨hi, ho, hI⟩
 dsimp only at hi ho hI
 conv=>whnf
 apply vif_split <;> intro h
 rotate_left 1
 ·have hie : i = fr.length := by simp at h; omega
  subst hie
  have e : evF [] fr = out := by rw [hI, List.drop_length]; unfold evF; rfl
  rw [e]
  conv=>whnf
  exact aret [0] (by trivial)
 have hlt : i < fr.length := by simp at h; omega
 have hbl := hb fr[i] (List.getElem_mem hlt)
 have hstep : evF [] fr = if (rdT fr[i]).2 ≠ 0 ∨ 512 < out.length + (rdT fr[i]).1.length then out else evF (out ++ (rdT fr[i]).1) (fr.drop (i + 1)) := by
  rw [hI, List.drop_eq_getElem_cons hlt]; rfl
 conv=>whnf
 refine AIn.mk' i rfl (lmZ hlt) ?_
 conv=>whnf
 refine ARd.mapAt (List.getElem?_eq_getElem hlt) ?_
 conv=>whnf
 refine acallF [] (by kernel_rfl) (readTableA fr[i] (by omega)) (by trivial) ?_
 rintro _ _ _ ⟨l, e, hR, rfl, rfl, rfl⟩
 have hrd := rdT_of hR
 have hll := hR.2.1
 rw [hrd] at hstep
 conv=>whnf
 apply vif_split <;> intro h
 ·have he : e ≠ 0 := by simpa using h
  rw [if_pos (.inl he)] at hstep
  rw [hstep]
  conv=>whnf
  exact aret [0] (by trivial)
 have he : e = 0 := by simpa using h
 subst he
 conv=>whnf
 refine AAr.i64 (by simp only [List.length_map]; omega) ?_
 conv=>whnf
 apply vif_split <;> intro h
 ·have hg : 512 < out.length + l.length := by simp only [List.length_map] at h; simp at h; omega
  rw [if_pos (.inr hg)] at hstep
  rw [hstep]
  conv=>whnf
  exact aret [0] (by trivial)
 have hg : ¬ 512 < out.length + l.length := by simp only [List.length_map] at h; simp at h; omega
 rw [if_neg (by simp only [not_or]; exact ⟨by simp, hg⟩)] at hstep
 conv=>whnf
 refine VReq.mk (app_e (by simp only [List.length_map]; omega)) ?_
 conv=>whnf
 refine AAr.i64 (by dsimp only; omega) ?_
 conv=>whnf
 exact aback ⟨out ++ l, i + 1⟩ [(0, .lab 1)] [] rfl (by show fr.length - (i + 1) < fr.length - i; omega) ⟨hlt, by show (out ++ l).length ≤ 512; rw [List.length_append]; omega, hstep⟩ ⟨⟨rfl, rfl, enE_apps out l⟩, trivial⟩ ⟨rfl, rfl, trivial⟩
theorem grt_snoc {a : Int} {l : List By} {i : Nat} (h : i < l.length) : grt a (l.take (i + 1)) = if rOk l[i] then max (grt a (l.take i)) (hG l[i] : Int) else grt a (l.take i) := by
 unfold grt
 rw [List.take_succ_eq_append_getElem h, List.foldl_append]; rfl
theorem tab_len3 {l : List Ev} (hok : ∀ e ∈ l, e.ok) (h : tbE l = 0) : (tab l).length ≤ 2300000 := by
 have h0 := tbE_0 h
 have hn : nC l ≤ 32 := by unfold nC; omega
 have := tabA_len hok (evsC_all h0.2) (nC l) (Nat.le_refl _)
 have h2 : tab l = tabA l (nC l) := by unfold tab; rfl
 rw [h2]
 omega
theorem cmpT_full {s : So} (h : scE (grt s.gen s.d.now + 1) 0 (tab s.ev) ≠ 0 ∨ s.d.now.length / 2 < nS (tab s.ev)) : cmpT s = (So.zero, 19) := by
 unfold cmpT; rw [if_pos h]
theorem cmpT_go {s : So} (h : ¬ (scE (grt s.gen s.d.now + 1) 0 (tab s.ev) ≠ 0 ∨ s.d.now.length / 2 < nS (tab s.ev))) {d : Dk} {e : Int} (hw : dWr s.d ((1 - s.half).toNat * (s.d.now.length / 2)) (scL (grt s.gen s.d.now + 1) 0 (tab s.ev)) = (d, e)) :
  cmpT s = if e ≠ 0 then (So.died d, 40) else (⟨d, grt s.gen s.d.now + 1, 1 - s.half, (nS (tab s.ev) : Nat), 1, s.ev⟩, 0) := by
 unfold cmpT; rw [if_neg h, hw]
theorem scL_len {g f : Int} {b : By} (h : scE g f b = 0) : (scL g f b).length = nS b ∧ s64 (scL g f b) := by
 unfold scL; rw [if_pos h]; exact ⟨secs_len _ _ _, fun s hs => secs_mem hs⟩
theorem compactSA (s : So) (hd : s.d.ok) (he : (∀ e ∈ s.ev, e.ok) ∧ tbE s.ev = 0) (hg : 0 ≤ s.gen ∧ s.gen ≤ 4294967295) (hh : s.half = 0 ∨ s.half = 1) : AFn Tryz.prog GS 45 [stA s] 0 [] (Is (.tup [stA (cmpT s).1, iv (cmpT s).2])) := by
 have hhi := hd.hi
 refine afn_of Tryz.func45 rfl mixed (by kernel_rfl) ?_
 conv=>whnf
 refine aloopH ws45_1 [4, 21] (fun i : Nat => [(4, iv (grt s.gen (s.d.now.take i))), (21, iv i)]) (fun i => i ≤ s.d.now.length) (fun i => s.d.now.length - i) 0 (by kernel_rfl) (fun _ => rfl) (by kernel_rfl) (Nat.zero_le _) (by trivial) (by trivial) ?_
 intro i hi
 conv=>whnf
 apply vif_split <;> intro h
 ·have hlt : i < s.d.now.length := by simp at h; omega
  conv=>whnf
  refine AIn.mk' i rfl (lmZ hlt) ?_
  conv=>whnf
  refine ARd.mapAt (List.getElem?_eq_getElem hlt) ?_
  conv=>whnf
  refine acallF [] (by kernel_rfl) (readHA GS s.d.now[i]) (by trivial) ?_
  rintro _ _ _ ⟨rfl, rfl, g, f, ix, m, rfl, hrd⟩
  conv=>whnf
  have hs := grt_snoc (a := s.gen) hlt
  apply vif_split <;> intro h
  ·obtain ⟨rfl, rfl, rfl, rfl⟩ := hrd h
   rw [if_pos h] at hs
   conv=>whnf
   refine AAr.i64 (by omega) ?_
   conv=>whnf
   exact aback (i + 1) [] [] rfl (by show s.d.now.length - (i + 1) < s.d.now.length - i; omega) hlt (by trivial) ⟨ciZ hs.symm, rfl, trivial⟩
  ·rw [h, if_neg (by decide)] at hs
   conv=>whnf
   refine AAr.i64 (by omega) ?_
   conv=>whnf
   exact aback (i + 1) [] [] rfl (by show s.d.now.length - (i + 1) < s.d.now.length - i; omega) hlt (by trivial) ⟨ciZ hs.symm, rfl, trivial⟩
 have hie : i = s.d.now.length := by simp at h; omega
 subst hie
 rw [List.take_length]
 have hT := table1A s.ev he.1 (by have := (tbE_0 he.2).1; omega)
 have e1 : tbB s.ev = tab s.ev := by unfold tbB; rw [if_pos he.2]
 rw [e1, he.2] at hT
 conv=>whnf
 refine acallF [] (by kernel_rfl) hT (by trivial) ?_
 rintro _ _ _ ⟨rfl, rfl, rfl⟩
 conv=>whnf
 have hgr := grt_lt (l := s.d.now) hg.2
 have hgr2 := grt_le (l := s.d.now) (a := s.gen)
 refine VReq.mk (by decide) ?_
 rw [List.length_map]
 refine AAr.divN s.d.now.length 2 (by omega) ?_
 conv=>whnf
 refine AAr.i64 (by omega) ?_
 conv=>whnf
 refine acallF [] (by kernel_rfl) (sectorsA GS (grt s.gen s.d.now + 1) 0 (tab s.ev) (by have := tab_len3 he.1 he.2; omega)) (by trivial) ?_
 rintro _ _ _ ⟨rfl, rfl, rfl⟩
 conv=>whnf
 apply vif_split <;> intro h
 ·have hne : scE (grt s.gen s.d.now + 1) 0 (tab s.ev) ≠ 0 := by simpa using h
  rw [cmpT_full (.inl hne)]
  conv=>whnf
  exact aret [] (by trivial)
 have he0 : scE (grt s.gen s.d.now + 1) 0 (tab s.ev) = 0 := by simpa using h
 obtain ⟨hL1, hL2⟩ := scL_len he0
 conv=>whnf
 apply vif_split <;> intro h
 ·have hlt : s.d.now.length / 2 < nS (tab s.ev) := by rw [List.length_map, hL1] at h; simp at h; omega
  rw [cmpT_full (.inr hlt)]
  conv=>whnf
  exact aret [] (by trivial)
 have hle : nS (tab s.ev) ≤ s.d.now.length / 2 := by rw [List.length_map, hL1] at h; simp at h; omega
 obtain ⟨hv, hhv, hh2⟩ : ∃ hv : Nat, 1 - s.half = (hv : Int) ∧ hv ≤ 1 := ⟨(1 - s.half).toNat, by omega, by omega⟩
 obtain ⟨d, e, hw⟩ : ∃ d e, dWr s.d ((1 - s.half).toNat * (s.d.now.length / 2)) (scL (grt s.gen s.d.now + 1) 0 (tab s.ev)) = (d, e) := ⟨_, _, rfl⟩
 rw [cmpT_go (by omega) hw]
 have hm : hv * (s.d.now.length / 2) ≤ s.d.now.length / 2 := by
  have := Nat.mul_le_mul_right (s.d.now.length / 2) hh2
  omega
 rw [hhv, Int.toNat_natCast] at hw
 have hwo := dWr_ok (at_ := hv * (s.d.now.length / 2)) hd hL2
 have hW := writeSA GS s.d hd (hv * (s.d.now.length / 2)) (scL (grt s.gen s.d.now + 1) 0 (tab s.ev)) hL2 (by rw [hL1]; omega)
 rw [hw] at hwo hW
 conv=>whnf
 refine AAr.to (y := (hv : Int)) (by rw [hhv]; exact IntWalk.i64_in _ (by omega)) ?_
 conv=>whnf
 refine AAr.to (y := ((hv * (s.d.now.length / 2) : Nat) : Int)) (by rw [IntWalk.i64_in _ (by rw [← Int.natCast_mul]; omega)]; omega) ?_
 conv=>whnf
 refine acallF [] (by kernel_rfl) hW (by trivial) ?_
 rintro _ _ _ ⟨rfl, rfl, rfl⟩
 conv=>whnf
 apply vif_split <;> intro h
 ·have hne : e ≠ 0 := by simpa using h
  have h40 : e = 40 := by rcases hwo.2.2 with h | h; exact absurd h hne; exact h.1
  subst h40
  rw [if_pos hne]
  conv=>whnf
  refine acallF [] (by kernel_rfl) (failA1 GS d) (by trivial) ?_
  rintro _ _ _ ⟨rfl, rfl, rfl⟩
  conv=>whnf
  exact aret [] (by trivial)
 have he00 : e = 0 := by simpa using h
 rw [if_neg (by rw [he00]; simp)]
 conv=>whnf
 rw [hhv]
 (refine adraw pln45 [] (by kernel_rfl) ?_; conv=>whnf)
 refine AAr.i64 (by omega) ?_
 conv=>whnf
 refine acallF [] (by kernel_rfl) (cloneEvA s.ev (by have := (tbE_0 he.2).1; omega)) (by trivial) ?_
 rintro _ _ _ ⟨rfl, rfl, rfl⟩
 conv=>whnf
 refine aret [] ⟨⟨⟨rfl, rfl⟩, ⟨rfl, rfl⟩, rfl, rfl, rfl, rfl, rfl, congrArg (fun n : Nat => Value.int .i64 (n : Int)) (by rw [List.length_map, hL1]), rfl, ⟨rfl, rfl⟩, trivial⟩, rfl, trivial⟩
theorem evC_all {l : List Ev} : evsC l = 0 ↔ ∀ e ∈ l, evC e = 0 := by
 induction l with
 | nil => simp [evsC]
 | cons e r ih =>
  unfold evsC
  by_cases h : evC e = 0
  ·rw [if_neg (by simpa using h), ih]
   simp [h]
  ·rw [if_pos h]
   simp [h]
theorem tbE_iff {l : List Ev} : tbE l = 0 ↔ l.length ≤ 512 ∧ ∀ e ∈ l, evC e = 0 := by
 unfold tbE
 split
 ·constructor
  ·intro h; simp at h
  ·intro h; omega
 ·rw [evC_all]
  constructor
  ·intro h; exact ⟨by omega, h⟩
  ·intro h; exact h.2
theorem tbE_app {a b : List Ev} (ha : tbE a = 0) (hb : tbE b = 0) (h : (a ++ b).length ≤ 512) : tbE (a ++ b) = 0 := by
 rw [tbE_iff] at *
 exact ⟨h, fun e he => (List.mem_append.1 he).elim (ha.2 e) (hb.2 e)⟩
theorem evF_ok : ∀ (fr : List By) (out : List Ev), (∀ e ∈ out, e.ok) → tbE out = 0 → (∀ e ∈ evF out fr, e.ok) ∧ tbE (evF out fr) = 0 := by
 intro fr
 induction fr with
 | nil => intro out h1 h2; unfold evF; exact ⟨h1, h2⟩
 | cons b r ih =>
  intro out h1 h2
  unfold evF
  split
  ·exact ⟨h1, h2⟩
  ·rename_i hc
   have hr := rdT_ok b
   simp only [not_or] at hc
   have h0 : (rdT b).2 = 0 := by simpa using hc.1
   refine ih _ (fun e he => (List.mem_append.1 he).elim (h1 e) (hr.1 e)) (tbE_app h2 (hr.2.2.1 h0).1 (by rw [List.length_append]; omega))
theorem tbE_nil : tbE [] = 0 := tbE_iff.2 ⟨Nat.zero_le _, fun e he => by cases he⟩
theorem logF_len (l : List By) : (logF l).length ≤ l.length ∧ ∀ b ∈ logF l, b.length ≤ 12240 := by
 unfold logF
 split
 ·exact lg_len (Nat.le_refl _)
 ·exact ⟨Nat.zero_le _, fun b hb => by cases hb⟩
theorem evL_logF {l : List By} (h : isL l = true) : evL l = evF [] (logF l) := by
 unfold evL logF; rw [if_pos h]; unfold lg; rfl
theorem evL_ok (l : List By) : (∀ e ∈ evL l, e.ok) ∧ tbE (evL l) = 0 := evF_ok _ [] (fun e he => by cases he) tbE_nil
theorem hlf_ok (a b : List By) : ((∀ e ∈ (hlf a b).2, e.ok) ∧ tbE (hlf a b).2 = 0) ∧ ((hlf a b).1 = 0 ∨ (hlf a b).1 = 1) := by
 unfold hlf
 split
 ·exact ⟨evL_ok a, .inl rfl⟩
 ·split
  ·exact ⟨evL_ok b, .inr rfl⟩
  ·exact ⟨⟨(fun e he => by cases he), tbE_nil⟩, .inr rfl⟩
theorem openSA (d : Dk) (hd : d.ok) : AFn Tryz.prog GS 16 [dkA d] 0 [] (Is (.tup [stA (opnT d).1, iv (opnT d).2])) := by
 have hhi := hd.hi
 have hR := readDA GS d hd
 unfold deadE at hR
 refine afn_of Tryz.func16 rfl mixed (by kernel_rfl) ?_
 conv=>whnf
 refine acallF [] (by kernel_rfl) hR (by trivial) ?_
 rintro _ _ _ ⟨rfl, rfl, b0, rfl⟩
 conv=>whnf
 rcases Bool.eq_false_or_eq_true d.dead with hdd | hdd
 ·have e : opnT d = (So.died d, 40) := by unfold opnT; rw [if_pos hdd]
  rw [if_pos hdd, e]
  conv=>whnf
  refine acallF [] (by kernel_rfl) (copiedSA GS d hd) (by trivial) ?_
  rintro _ _ _ ⟨rfl, rfl, rfl⟩
  conv=>whnf
  refine acallF [] (by kernel_rfl) (failA1 GS d) (by trivial) ?_
  rintro _ _ _ ⟨rfl, rfl, rfl⟩
  conv=>whnf
  exact aret [] (by trivial)
 have hnd : ¬ d.dead = true := by rw [hdd]; decide
 have e : opnT d = cmpT ⟨d, 0, (hlf (d.now.take (d.now.length / 2)) (d.now.drop (d.now.length / 2))).1, 0, 0, (hlf (d.now.take (d.now.length / 2)) (d.now.drop (d.now.length / 2))).2⟩ := by unfold opnT; rw [if_neg hnd]
 rw [if_neg hnd, e]
 conv=>whnf
 refine VReq.mk (by decide) ?_
 rw [List.length_map]
 refine AAr.divN d.now.length 2 (by omega) ?_
 conv=>whnf
 refine ABd.mk' 0 (d.now.length / 2) rfl rfl (Nat.zero_le _) (by rw [List.length_map]; omega) ?_
 conv=>whnf
 refine acallF [] (by kernel_rfl) (logSA GS (d.now.take (d.now.length / 2)) (by rw [List.length_take]; omega)) ⟨⟨rfl, List.map_take.symm⟩, trivial⟩ ?_
 rintro _ _ _ ⟨rfl, rfl, rfl⟩
 conv=>whnf
 refine ABd.mk' (d.now.length / 2) d.now.length rfl (by rw [List.length_map]) (by omega) (by rw [List.length_map]; exact Nat.le_refl _) ?_
 conv=>whnf
 refine acallF [] (by kernel_rfl) (logSA GS (d.now.drop (d.now.length / 2)) (by rw [List.length_drop]; omega)) ⟨⟨rfl, List.map_drop.symm⟩, trivial⟩ ?_
 rintro _ _ _ ⟨rfl, rfl, rfl⟩
 have hC := fun h => compactSA ⟨d, 0, (hlf (d.now.take (d.now.length / 2)) (d.now.drop (d.now.length / 2))).1, 0, 0, (hlf (d.now.take (d.now.length / 2)) (d.now.drop (d.now.length / 2))).2⟩ hd (hlf_ok _ _).1 h (hlf_ok _ _).2
 have hC := hC ⟨Int.le_refl _, by show (0 : Int) ≤ 4294967295; decide⟩
 have hA := fun h => eventsSA (logF (d.now.take (d.now.length / 2))) h (logF_len _).2
 have hA := hA (by have := (logF_len (d.now.take (d.now.length / 2))).1; rw [List.length_take] at this; omega)
 have hB := fun h => eventsSA (logF (d.now.drop (d.now.length / 2))) h (logF_len _).2
 have hB := hB (by have := (logF_len (d.now.drop (d.now.length / 2))).1; rw [List.length_drop] at this; omega)
 generalize d.now.take (d.now.length / 2) = A at *
 generalize d.now.drop (d.now.length / 2) = B at *
 conv=>whnf
 refine vif_split (fun ha => ?_) (fun ha => ?_)
 ·have hga : logG A = (nxt A).1 := by unfold logG; rw [if_pos ha]
  conv=>whnf
  apply vif_split <;> intro h
  ·have hb : isL B = false := by simpa using h
   have hx : hlf A B = (0, evL A) := by unfold hlf; rw [if_pos ⟨ha, .inl hb⟩]
   rw [hx] at hC ⊢
   conv=>whnf
   refine acallF [] (by kernel_rfl) hA (by trivial) ?_
   rintro _ _ _ ⟨rfl, rfl, rfl⟩
   conv=>whnf
   rw [← evL_logF ha]
   refine acallF [] (by kernel_rfl) hC (by trivial) ?_
   rintro _ _ _ ⟨rfl, rfl, rfl⟩
   conv=>whnf
   exact aret [] (by trivial)
  have hb : isL B = true := by simpa using h
  have hgb : logG B = (nxt B).1 := by unfold logG; rw [if_pos hb]
  conv=>whnf
  apply vif_split <;> intro h
  ·have hle : (nxt B).1 ≤ (nxt A).1 := by rw [← hga, ← hgb]; simpa using h
   have hx : hlf A B = (0, evL A) := by unfold hlf; rw [if_pos ⟨ha, .inr hle⟩]
   rw [hx] at hC ⊢
   conv=>whnf
   refine acallF [] (by kernel_rfl) hA (by trivial) ?_
   rintro _ _ _ ⟨rfl, rfl, rfl⟩
   conv=>whnf
   rw [← evL_logF ha]
   refine acallF [] (by kernel_rfl) hC (by trivial) ?_
   rintro _ _ _ ⟨rfl, rfl, rfl⟩
   conv=>whnf
   exact aret [] (by trivial)
  ·have hx : hlf A B = (1, evL B) := by
    unfold hlf
    rw [if_neg, if_pos hb]
    rintro ⟨_, hy⟩
    rcases hy with hy | hy
    ·rw [hb] at hy; cases hy
    ·rw [← hga, ← hgb] at hy; simp at h; omega
   conv=>whnf
   rw [hb]
   rw [hx] at hC ⊢
   conv=>whnf
   refine acallF [] (by kernel_rfl) hB (by trivial) ?_
   rintro _ _ _ ⟨rfl, rfl, rfl⟩
   conv=>whnf
   rw [← evL_logF hb]
   refine acallF [] (by kernel_rfl) hC (by trivial) ?_
   rintro _ _ _ ⟨rfl, rfl, rfl⟩
   conv=>whnf
   exact aret [] (by trivial)
 ·conv=>whnf
  apply vif_split <;> intro h
  ·have hb : isL B = true := by simpa using h
   have hx : hlf A B = (1, evL B) := by
    unfold hlf
    rw [if_neg (fun hy => by rw [ha] at hy; cases hy.1), if_pos hb]
   rw [hx] at hC ⊢
   conv=>whnf
   refine acallF [] (by kernel_rfl) hB (by trivial) ?_
   rintro _ _ _ ⟨rfl, rfl, rfl⟩
   conv=>whnf
   rw [← evL_logF hb]
   refine acallF [] (by kernel_rfl) hC (by trivial) ?_
   rintro _ _ _ ⟨rfl, rfl, rfl⟩
   conv=>whnf
   exact aret [] (by trivial)
  ·have hb : isL B = false := by simpa using h
   have hx : hlf A B = (1, []) := by
    unfold hlf
    rw [if_neg (fun hy => by rw [ha] at hy; cases hy.1), if_neg (by rw [hb]; decide)]
   rw [hx] at hC ⊢
   conv=>whnf
   refine acallF [] (by kernel_rfl) hC (by trivial) ?_
   rintro _ _ _ ⟨rfl, rfl, rfl⟩
   conv=>whnf
   exact aret [] (by trivial)
end
section
attribute [local irreducible] num hsh byt rOk
end
end Go.Proofs.YtocckceefcmeaaaGreatDoor.Cl
