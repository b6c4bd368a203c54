/- The walk of the law DigestInjective. Conditions: the arguments read as the lists that are named. -/
import Derived.Test.YtaiadjkeeifpgaaDgi
namespace Go.Proofs.Ytaiadjkeeifpgaa.Dg
open Go Go.RowKit Go.Proofs.Ytaiadjkeeifpgaa.Vc
attribute [local irreducible] loadVar storeVar Instr.indexAt Instr.index Instr.sliceAt Instr.makeSlice Instr.lookup Instr.mapUpdate Instr.range Instr.next Instr.entry Instr.makeMap Builtin.append_ Builtin.copy_ Builtin.len_ Builtin.min_ Builtin.max_ Builtin.cap_ Builtin.delete_ Builtin.clear_ convert binOp eqGuard Op.unary Calls

theorem flat_succ (l : List (List UInt8)) (i : Nat) (h : i < l.length) : (l.take (i + 1)).flatten = (l.take i).flatten ++ l[i] := by
  rw [List.take_succ_eq_append_getElem h, List.flatten_append]; simp
theorem flat_len (l : List (List UInt8)) (h : ∀ x ∈ l, x.length ≤ 300) : l.flatten.length ≤ l.length * 300 := by
  induction l with
  | nil => simp
  | cons x r ih =>
    have h1 := h x (by simp)
    have h2 := ih (fun y hy => h y (by simp [hy]))
    simp only [List.flatten_cons, List.length_append, List.length_cons, Nat.add_mul]
    omega

theorem atN (t : Int) (n : Nat) (hn : n ≤ 10000) : ∃ kk, kk ≤ n ∧ (IntKind.i64.wrap (IntKind.i64.wrap (t.tmod (IntKind.i64.wrap ((n : Int) + 1)) + (n : Int)) + 1)).tmod (IntKind.i64.wrap ((n : Int) + 1)) = (kk : Nat) := by
  have e : IntKind.i64.wrap ((n : Int) + 1) = (n : Int) + 1 := IntWalk.i64_in _ (by omega)
  rw [e]
  have h1 := Int.lt_tmod_of_pos t (b := (n : Int) + 1) (by omega)
  have h2 := Int.tmod_lt_of_pos t (b := (n : Int) + 1) (by omega)
  rw [IntWalk.i64_in (t.tmod ((n : Int) + 1) + n) (by omega), IntWalk.i64_in _ (by omega)]
  have h3 : 0 ≤ (t.tmod ((n : Int) + 1) + n + 1).tmod ((n : Int) + 1) := Int.tmod_nonneg _ (by omega)
  have h4 := Int.tmod_lt_of_pos (t.tmod ((n : Int) + 1) + n + 1) (b := (n : Int) + 1) (by omega)
  exact ⟨((t.tmod ((n : Int) + 1) + n + 1).tmod ((n : Int) + 1)).toNat, by omega, by omega⟩
theorem Own.cap {w : World} {B : Nat} {E : TypeId} {sz : Nat} {oa : Option Addr} {n c : Nat} {xs : List Value} (h : Vc.Own w B E sz oa n c xs) : n ≤ c ∧ (oa = none → c = 0) := by
  rcases h.2 with ⟨hv, hn⟩ | ⟨g, cap, cur, hv, _, _, hc, _⟩
  · injection hv with h1 h2 h3
    exact ⟨by omega, fun _ => h3⟩
  · injection hv with h1 h2 h3
    subst h1 h3
    exact ⟨hc, fun e => by cases e⟩
theorem sEq_frames (l k : List (List UInt8)) (hl : ∀ x ∈ l, x.length ≤ 300) (hk : ∀ x ∈ k, x.length ≤ 7000) : sEq ⟨(frame l).toArray⟩ ⟨(frame k).toArray⟩ = decide (l = k) := by
  rw [sEq_mk]
  by_cases h : l = k
  · subst h; simp
  · have : frame l ≠ frame k := fun e => h (frame_inj l k (fun x hx => Nat.lt_of_le_of_lt (hl x hx) (by decide)) (fun x hx => Nat.lt_of_le_of_lt (hk x hx) (by decide)) e)
    simp [h, this]



set_option maxRecDepth 100000 in
theorem lawInj_ok (oa ob : Option Addr) (ca cb : Nat) (va vb : List Value) (la lb : List (List UInt8)) (at_ to : Int) (w : World) (hca : la.length ≤ ca) (hra : Row w oa va) (hfa : Fld w va la) (hcb : lb.length ≤ cb) (hrb : Row w ob vb) (hfb : Fld w vb lb) :
    Ret Try.prog 5 #[.slice oa la.length ca, .slice ob lb.length cb, .int .i64 at_, .int .i64 to] w fun v w' => v = .bool true ∧ Below w.heap.size w w' := by
  refine ret_of_vc Try.func5 rfl mixed (by kernel_rfl) ?_
  conv => whnf
  refine vcall (by kernel_rfl) (awake_ok w) ?_
  rintro _ w1 ⟨rfl, hB1⟩
  conv => whnf
  refine vcall (by kernel_rfl) (cut_ok oa ca va la w1 hca (hra.below hB1) (hfa.below hB1)) ?_
  rintro _ w2 ⟨oa2, ca2, va2, rfl, hca2, hna2, hra2, hfa2, hB2⟩
  have hB2' := hB1.trans (hB2.mono hB1.size)
  conv => whnf
  refine vcall (by kernel_rfl) (cut_ok ob cb vb lb w2 hcb (hrb.below hB2') (hfb.below hB2')) ?_
  rintro _ w3 ⟨ob2, cb2, vb2, rfl, hcb2, hnb2, hrb2, hfb2, hB3⟩
  have hB3' := hB2'.trans (hB3.mono hB2'.size)
  replace hra2 := hra2.below hB3
  replace hfa2 := hfa2.below hB3
  have ha1 := cutL_len la
  have ha2 := cutL_frame la
  have ha3 := cutL_each la
  have hb1 := cutL_len lb
  have hb2 := cutL_frame lb
  have hb3 := cutL_each lb
  clear hra hfa hrb hfb hB1 hB2 hB3 hB2'
  generalize cutL la = l at *
  generalize cutL lb = k at *
  conv => whnf
  by_cases h0 : 0 < l.length
  · refine vif_true (by simp; omega) ?_
    conv => whnf
    refine vloop (X := Nat × Option Addr × Nat) ws5_1 (fun x => [(9, .slice x.2.1 (l.take x.1).flatten.length x.2.2), (10, .int .i64 x.1)])
      (fun x w' => x.1 ≤ l.length ∧ Below w3.heap.size w3 w' ∧ Own w' w3.heap.size 5 1 x.2.1 (l.take x.1).flatten.length x.2.2 (bvals (l.take x.1).flatten)) (fun x => l.length - x.1) (0, some ⟨w3.heap.size, 0, none⟩, 0) (by kernel_rfl)
      ?_ ⟨Nat.zero_le _, balloc (Below.refl _ _) (Nat.le_refl _) _, World.ownsRow_made w3 #[] 0 (Nat.le_refl _) (Nat.zero_le _) rfl⟩ ?_
    · exact ⟨rfl, rfl, trivial⟩
    rintro ⟨i, oo, cc⟩ w4 j ⟨hi, hB4, ho⟩
    simp only at hi hB4 ho
    conv => whnf
    refine vif_split (fun hlt => ?_) (fun hge => ?_)
    · have hlt : i < l.length := by have := of_decide_eq_true hlt; omega
      obtain ⟨b, o, rfl, hbl, hc⟩ := hra2.get (by rw [hfa2.1]; omega)
      obtain ⟨oa1, c1, hv, hc1, hn1, hr1⟩ := hfa2.2 i hlt
      have hr1' := hr1.below hB4
      have h3 := ha3 l[i] (List.getElem_mem hlt)
      have h4 := flat_len (l.take i) (fun x hx => ha3 x (List.mem_of_mem_take hx))
      simp only [List.length_take] at h4
      have h5 := flat_succ l i hlt
      conv => whnf
      refine vs_sl1 i rfl rfl rfl hlt ?_
      conv => whnf
      refine vs_load1 rfl (by rw [hB4.cell (p := ⟨b, o + i, none⟩) hbl]; exact hc _ _ hv) ?_
      conv => whnf
      refine vs_append (B := w3.heap.size) (sz := 1) (by_ := 1) (m := l[i].length) (n := (l.take i).flatten.length) rfl rfl rfl rfl rfl rfl ho hr1' (by simp) (bvals_one _) hn1 (by omega) hB4.size (by unfold maxLen; omega) ?_
      intro o5 c5 w5 ho5 hB5 _
      have hfl : (l.take i).flatten.length + l[i].length = (l.take (i + 1)).flatten.length := by rw [h5, List.length_append]
      rw [hfl, ← bvals_append, ← h5] at ho5
      rw [hfl]
      conv => whnf
      refine VBack.mk ⟨_, ?_, (i + 1, o5, c5), rfl, ?_, ?_⟩
      · show l.length - (i + 1) < l.length - i; omega
      · exact ⟨rfl, intEq (incr (by omega)), trivial⟩
      · exact ⟨hlt, hB4.trans hB5, ho5⟩
    · have hge : ¬ i < l.length := by have := of_decide_eq_false hge; omega
      obtain rfl : i = l.length := by omega
      have hn6 : (l.take l.length).flatten.length ≤ 6000 := by
        have := flat_len (l.take l.length) (fun x hx => ha3 x (List.mem_of_mem_take hx))
        simp only [List.length_take] at this
        omega
      obtain ⟨kk, hkk, hat⟩ := atN at_ (l.take l.length).flatten.length (by omega)
      have hro := ho.row
      have hoc := Own.cap ho
      conv => whnf
      refine VReq.mk (show IntKind.i64.wrap (((l.take l.length).flatten.length : Int) + 1) ≠ 0 by rw [incr (by omega)]; omega) ?_
      conv => whnf
      refine VReq.mk (show IntKind.i64.wrap (((l.take l.length).flatten.length : Int) + 1) ≠ 0 by rw [incr (by omega)]; omega) ?_
      conv => whnf
      refine VReq.mk (by decide) ?_
      conv => whnf
      refine vif_split (fun _ => ?_) (fun _ => ?_)
      · conv => whnf
        (refine vdrawB plan5 (by kernel_rfl) ?_; conv => whnf)
        have hle : kk ≤ (l.take l.length).flatten.length := hkk
        refine vs_sliceHi (h := kk) rfl rfl hat hle hoc.1 ?_
        conv => whnf
        refine VPend.mk rfl ?_
        conv => whnf
        refine VPend.mk (fun u hu => ?_) ?_
        · conv => whnf
          exact vs_sliceHi (h := kk) rfl rfl hat hle hoc.1 (VPend.mk rfl rfl)
        conv => whnf
        refine vs_sliceLo1 (lo := kk) rfl rfl hat hle hoc.1 ?_
        conv => whnf
        refine VPend.mk rfl ?_
        conv => whnf
        refine VPend.mk (fun u hu => ?_) ?_
        · conv => whnf
          exact vs_sliceLo1 (lo := kk) rfl rfl hat hle hoc.1 (VPend.mk rfl rfl)
        conv => whnf
        have hbz := Blk.new w4.drew #[.slice oo kk cc, .slice (loA oo kk cc) ((l.take l.length).flatten.length - kk) (cc - kk)] 23
        have hBa : Below w4.drew.heap.size w4.drew (w4.drew.alloc (.cells #[.slice oo kk cc, .slice (loA oo kk cc) ((l.take l.length).flatten.length - kk) (cc - kk)] 23)) := balloc (Below.refl _ _) (Nat.le_refl _) _
        have hBa' : Below w3.heap.size w3 (w4.drew.alloc (.cells #[.slice oo kk cc, .slice (loA oo kk cc) ((l.take l.length).flatten.length - kk) (cc - kk)] 23)) := hB4.trans ((Below.ofDrew hBa).mono hB4.size)
        obtain ⟨px, hx⟩ : ∃ x, x = (l.take l.length).flatten.take kk := ⟨_, rfl⟩
        obtain ⟨py, hy⟩ : ∃ y, y = (l.take l.length).flatten.drop kk := ⟨_, rfl⟩
        have hxl : px.length = kk := by rw [hx, List.length_take]; omega
        have hyl : py.length = (l.take l.length).flatten.length - kk := by rw [hy, List.length_drop]
        have hrx : Row w4 oo (bvals px) := by
          have := hro.take kk
          rw [hx]
          simpa [bvals] using this
        have hry : Row w4 (loA oo kk cc) (bvals py) := by
          have := Vc.Row.lo (lo := kk) (c := cc) hro (by rw [bvals_len]; exact hoc.1)
          rw [hy]
          simpa [bvals] using this
        dsimp only
        refine VNext.below hBa ?_
        generalize w4.drew.alloc (.cells #[.slice oo kk cc, .slice (loA oo kk cc) ((l.take l.length).flatten.length - kk) (cc - kk)] 23) = w5 at *
        clear hrb2 hfb2 hcb2 hnb2
        have hrb2 := hbz.row
        have hfb2 : Fld w5 [.slice oo kk cc, .slice (loA oo kk cc) ((l.take l.length).flatten.length - kk) (cc - kk)] [px, py] := by
          refine ⟨rfl, fun i hi => ?_⟩
          match i, hi with
          | 0, _ => exact ⟨oo, cc, congrArg some (sliceEq hxl.symm), by show px.length ≤ _; omega, hoc.2, hrx.drew.below hBa⟩
          | 1, _ => exact ⟨loA oo kk cc, cc - kk, congrArg some (sliceEq hyl.symm), by show py.length ≤ _; have := hoc.1; omega, loA_none hoc.2 hoc.1, hry.drew.below hBa⟩
        have hkb3 : ∀ z ∈ [px, py], z.length ≤ 7000 := by
          intro z hz
          simp only [List.mem_cons, List.not_mem_nil, or_false] at hz
          rcases hz with rfl | rfl <;> omega
        have hkb2 : (frame [px, py]).length ≤ 7000 := by
          simp only [frame, List.length_append, lenTo_len, List.length_nil]
          omega
        have hb1 : [px, py].length ≤ 20 := by simp
        clear hb3 hb2 hat ho hro hoc hx hy hxl hyl hrx hry hbz hBa
        conv => whnf
        have hse := sEq_frames l [px, py] ha3 hkb3
        replace hra2 := hra2.below hBa'
        replace hfa2 := hfa2.below hBa'
        obtain ⟨fl, hfl⟩ : ∃ f, f = frame l := ⟨_, rfl⟩
        obtain ⟨fk, hfk⟩ : ∃ f, f = frame [px, py] := ⟨_, rfl⟩
        rw [← hfl, ← hfk] at hse
        refine vloop (X := Nat × Bool) ws5_2 (fun x => [(12, .bool x.2), (13, .int .i64 x.1)])
          (fun x w' => x.1 ≤ l.length ∧ (x.2 = true ↔ l.length = ([px, py]).length ∧ l.take x.1 = ([px, py]).take x.1) ∧ Below (w5).heap.size w5 w') (fun x => l.length - x.1) (0, (l.length : Int) == (([px, py]).length : Int)) (by kernel_rfl)
          ?_ ⟨Nat.zero_le _, (by first | (simp; done) | (simp; omega)), Below.refl _ _⟩ ?_
        · exact ⟨rfl, rfl, trivial⟩
        rintro ⟨i, s⟩ w6 j ⟨hi, hs, hB6'⟩
        simp only at hi hs
        cases s
        · have hlk : ¬ l = [px, py] := fun e => by subst e; simp at hs
          conv => whnf
          (refine vdrawB plan5 (by kernel_rfl) ?_; conv => whnf)
          refine vcall (by kernel_rfl) (frame_ok oa2 ca2 va2 l _ (by omega) (by omega) (hra2.below hB6').drew ((hfa2.below hB6').below (Below.refl _ _).drew)) ?_
          rw [← hfl]
          rintro _ w7 ⟨o7, c7, rfl, ho7, hB7⟩
          have hB7' := hB6'.trans ((Below.ofDrew hB7).mono hB6'.size)
          conv => whnf
          refine VNext.below hB7 ?_
          conv => whnf
          (refine vs_b2s rfl rfl rfl rfl ho7.row ?_; (conv => whnf); refine VPend.mk rfl ?_; (conv => whnf); refine VPend.mk (fun u hu => ?_) ?_; (focus ((conv => whnf); exact vs_b2s rfl rfl rfl rfl (Row.below ho7.row hu) (VPend.mk rfl rfl))); (conv => whnf))
          refine vcall (by kernel_rfl) (frame_ok _ _ _ [px, py] _ (by omega) (by omega) (hrb2.below hB7') (hfb2.below hB7')) ?_
          rw [← hfk]
          rintro _ w8 ⟨o8, c8, rfl, ho8, hB8⟩
          have hB8' := hB7'.trans (hB8.mono hB7'.size)
          conv => whnf
          refine VNext.below hB8 ?_
          conv => whnf
          (refine vs_b2s rfl rfl rfl rfl ho8.row ?_; (conv => whnf); refine VPend.mk rfl ?_; (conv => whnf); refine VPend.mk (fun u hu => ?_) ?_; (focus ((conv => whnf); exact vs_b2s rfl rfl rfl rfl (Row.below ho8.row hu) (VPend.mk rfl rfl))); (conv => whnf))
          repeat (refine VPend.mk (fun u _ => ?_) ?_; (focus (conv => whnf)); (conv => whnf))
          refine VEnd.mk ⟨?_, hB3'.trans (((hBa').trans (hB8'.mono (hBa').size)).mono hB3'.size)⟩
          show Value.bool _ = _
          rw [hse]
          simp [hlk]
        · obtain ⟨hlen, htk⟩ := hs.1 rfl
          conv => whnf
          refine vif_split (fun hlt => ?_) (fun hge => ?_)
          · have hlt : i < l.length := by have := of_decide_eq_true hlt; omega
            have hlt2 : i < ([px, py]).length := by omega
            obtain ⟨b, o, hoe, hbl, hc⟩ := hra2.get (by rw [hfa2.1]; omega)
            obtain ⟨oa1, c1, hv, hc1, hn1, hr1⟩ := hfa2.2 i hlt
            obtain ⟨b', o', hoe', hbl', hc'⟩ := hrb2.get (by rw [hfb2.1]; omega)
            obtain ⟨oa1', c1', hv', hc1', hn1', hr1'⟩ := hfb2.2 i hlt2
            rw [hoe, hoe']
            conv => whnf
            (refine vdrawAt plan5 (by kernel_rfl) ?_; conv => whnf)
            refine vs_sl1 i rfl rfl rfl hlt ?_
            conv => whnf
            repeat (first | (refine VReq.mk (by first | decide | omega) ?_; conv => whnf) | (refine VPend.mk rfl ?_; conv => whnf) | (refine VNext.keep rfl ?_; conv => whnf) | (refine vs_loadB rfl (by assumption) rfl ?_; conv => whnf) | (refine vs_arrL rfl rfl rfl ?_; conv => whnf) | (refine vs_storeB (by assumption) rfl rfl rfl ?_; intro _ _ _; conv => whnf))
            refine vs_load1 rfl (show w6.cell? _ = _ by rw [hB6'.cell (p := ⟨b, o + i, none⟩) hbl]; exact hc _ _ hv) ?_
            conv => whnf
            repeat (first | (refine VReq.mk (by first | decide | omega) ?_; conv => whnf) | (refine VPend.mk rfl ?_; conv => whnf) | (refine VNext.keep rfl ?_; conv => whnf) | (refine vs_loadB rfl (by assumption) rfl ?_; conv => whnf) | (refine vs_arrL rfl rfl rfl ?_; conv => whnf) | (refine vs_storeB (by assumption) rfl rfl rfl ?_; intro _ _ _; conv => whnf))
            refine vs_b2s rfl rfl rfl rfl (hr1.below hB6').drew ?_
            conv => whnf
            repeat (first | (refine VReq.mk (by first | decide | omega) ?_; conv => whnf) | (refine VPend.mk rfl ?_; conv => whnf) | (refine VNext.keep rfl ?_; conv => whnf) | (refine vs_loadB rfl (by assumption) rfl ?_; conv => whnf) | (refine vs_arrL rfl rfl rfl ?_; conv => whnf) | (refine vs_storeB (by assumption) rfl rfl rfl ?_; intro _ _ _; conv => whnf))
            refine vs_sl1 i rfl rfl rfl hlt2 ?_
            conv => whnf
            repeat (first | (refine VReq.mk (by first | decide | omega) ?_; conv => whnf) | (refine VPend.mk rfl ?_; conv => whnf) | (refine VNext.keep rfl ?_; conv => whnf) | (refine vs_loadB rfl (by assumption) rfl ?_; conv => whnf) | (refine vs_arrL rfl rfl rfl ?_; conv => whnf) | (refine vs_storeB (by assumption) rfl rfl rfl ?_; intro _ _ _; conv => whnf))
            refine vs_load1 rfl (show w6.cell? _ = _ by rw [hB6'.cell (p := ⟨b', o' + i, none⟩) hbl']; exact hc' _ _ hv') ?_
            conv => whnf
            repeat (first | (refine VReq.mk (by first | decide | omega) ?_; conv => whnf) | (refine VPend.mk rfl ?_; conv => whnf) | (refine VNext.keep rfl ?_; conv => whnf) | (refine vs_loadB rfl (by assumption) rfl ?_; conv => whnf) | (refine vs_arrL rfl rfl rfl ?_; conv => whnf) | (refine vs_storeB (by assumption) rfl rfl rfl ?_; intro _ _ _; conv => whnf))
            refine vs_b2s rfl rfl rfl rfl (hr1'.below hB6').drew ?_
            conv => whnf
            repeat (first | (refine VReq.mk (by first | decide | omega) ?_; conv => whnf) | (refine VPend.mk rfl ?_; conv => whnf) | (refine VNext.keep rfl ?_; conv => whnf) | (refine vs_loadB rfl (by assumption) rfl ?_; conv => whnf) | (refine vs_arrL rfl rfl rfl ?_; conv => whnf) | (refine vs_storeB (by assumption) rfl rfl rfl ?_; intro _ _ _; conv => whnf))
            refine VBack.mk ⟨_, ?_, (i + 1, sEq ⟨l[i].toArray⟩ ⟨([px, py])[i].toArray⟩), rfl, ?_, ?_⟩
            · show l.length - (i + 1) < l.length - i; omega
            · exact ⟨rfl, intEq (incr (by omega)), trivial⟩
            · refine ⟨hlt, ?_, hB6'.trans (Below.refl _ _).drew⟩
              show sEq _ _ = true ↔ _
              have e1 := List.take_succ_eq_append_getElem hlt
              have e2 := List.take_succ_eq_append_getElem hlt2
              rw [sEq_mk, e1, e2, htk, beq_iff_eq]
              exact ⟨fun e => ⟨hlen, by rw [e]⟩, fun h => by have := List.append_cancel_left h.2; injection this⟩
          · have hge : ¬ i < l.length := by have := of_decide_eq_false hge; omega
            have hlk : l = [px, py] := by
              have : i = l.length := by omega
              rw [List.take_of_length_le (by omega), List.take_of_length_le (by omega)] at htk
              exact htk
            conv => whnf
            (refine vdrawB plan5 (by kernel_rfl) ?_; conv => whnf)
            refine vcall (by kernel_rfl) (frame_ok oa2 ca2 va2 l _ (by omega) (by omega) (hra2.below hB6').drew ((hfa2.below hB6').below (Below.refl _ _).drew)) ?_
            rw [← hfl]
            rintro _ w7 ⟨o7, c7, rfl, ho7, hB7⟩
            have hB7' := hB6'.trans ((Below.ofDrew hB7).mono hB6'.size)
            conv => whnf
            refine VNext.below hB7 ?_
            conv => whnf
            (refine vs_b2s rfl rfl rfl rfl ho7.row ?_; (conv => whnf); refine VPend.mk rfl ?_; (conv => whnf); refine VPend.mk (fun u hu => ?_) ?_; (focus ((conv => whnf); exact vs_b2s rfl rfl rfl rfl (Row.below ho7.row hu) (VPend.mk rfl rfl))); (conv => whnf))
            refine vcall (by kernel_rfl) (frame_ok _ _ _ [px, py] _ (by omega) (by omega) (hrb2.below hB7') (hfb2.below hB7')) ?_
            rw [← hfk]
            rintro _ w8 ⟨o8, c8, rfl, ho8, hB8⟩
            have hB8' := hB7'.trans (hB8.mono hB7'.size)
            conv => whnf
            refine VNext.below hB8 ?_
            conv => whnf
            (refine vs_b2s rfl rfl rfl rfl ho8.row ?_; (conv => whnf); refine VPend.mk rfl ?_; (conv => whnf); refine VPend.mk (fun u hu => ?_) ?_; (focus ((conv => whnf); exact vs_b2s rfl rfl rfl rfl (Row.below ho8.row hu) (VPend.mk rfl rfl))); (conv => whnf))
            repeat (refine VPend.mk (fun u _ => ?_) ?_; (focus (conv => whnf)); (conv => whnf))
            refine VEnd.mk ⟨?_, hB3'.trans (((hBa').trans (hB8'.mono (hBa').size)).mono hB3'.size)⟩
            show Value.bool _ = _
            rw [hse]
            simp [hlk]
      · conv => whnf
        replace hrb2 := hrb2.below hB4
        replace hfb2 := hfb2.below hB4
        have hkb3 : ∀ x ∈ k, x.length ≤ 7000 := fun x hx => Nat.le_trans (hb3 x hx) (by decide)
        have hkb2 : (frame k).length ≤ 7000 := by omega
        clear hb3 hb2 hat ho hro hoc
        have hse := sEq_frames l k ha3 hkb3
        replace hra2 := hra2.below hB4
        replace hfa2 := hfa2.below hB4
        obtain ⟨fl, hfl⟩ : ∃ f, f = frame l := ⟨_, rfl⟩
        obtain ⟨fk, hfk⟩ : ∃ f, f = frame k := ⟨_, rfl⟩
        rw [← hfl, ← hfk] at hse
        refine vloop (X := Nat × Bool) ws5_2 (fun x => [(12, .bool x.2), (13, .int .i64 x.1)])
          (fun x w' => x.1 ≤ l.length ∧ (x.2 = true ↔ l.length = (k).length ∧ l.take x.1 = (k).take x.1) ∧ Below (w4).heap.size w4 w') (fun x => l.length - x.1) (0, (l.length : Int) == ((k).length : Int)) (by kernel_rfl)
          ?_ ⟨Nat.zero_le _, (by first | (simp; done) | (simp; omega)), Below.refl _ _⟩ ?_
        · exact ⟨rfl, rfl, trivial⟩
        rintro ⟨i, s⟩ w6 j ⟨hi, hs, hB6'⟩
        simp only at hi hs
        cases s
        · have hlk : ¬ l = k := fun e => by subst e; simp at hs
          conv => whnf
          (refine vdrawB plan5 (by kernel_rfl) ?_; conv => whnf)
          refine vcall (by kernel_rfl) (frame_ok oa2 ca2 va2 l _ (by omega) (by omega) (hra2.below hB6').drew ((hfa2.below hB6').below (Below.refl _ _).drew)) ?_
          rw [← hfl]
          rintro _ w7 ⟨o7, c7, rfl, ho7, hB7⟩
          have hB7' := hB6'.trans ((Below.ofDrew hB7).mono hB6'.size)
          conv => whnf
          refine VNext.below hB7 ?_
          conv => whnf
          (refine vs_b2s rfl rfl rfl rfl ho7.row ?_; (conv => whnf); refine VPend.mk rfl ?_; (conv => whnf); refine VPend.mk (fun u hu => ?_) ?_; (focus ((conv => whnf); exact vs_b2s rfl rfl rfl rfl (Row.below ho7.row hu) (VPend.mk rfl rfl))); (conv => whnf))
          refine vcall (by kernel_rfl) (frame_ok _ _ _ k _ (by omega) (by omega) (hrb2.below hB7') (hfb2.below hB7')) ?_
          rw [← hfk]
          rintro _ w8 ⟨o8, c8, rfl, ho8, hB8⟩
          have hB8' := hB7'.trans (hB8.mono hB7'.size)
          conv => whnf
          refine VNext.below hB8 ?_
          conv => whnf
          (refine vs_b2s rfl rfl rfl rfl ho8.row ?_; (conv => whnf); refine VPend.mk rfl ?_; (conv => whnf); refine VPend.mk (fun u hu => ?_) ?_; (focus ((conv => whnf); exact vs_b2s rfl rfl rfl rfl (Row.below ho8.row hu) (VPend.mk rfl rfl))); (conv => whnf))
          repeat (refine VPend.mk (fun u _ => ?_) ?_; (focus (conv => whnf)); (conv => whnf))
          refine VEnd.mk ⟨?_, hB3'.trans (((hB4).trans (hB8'.mono (hB4).size)).mono hB3'.size)⟩
          show Value.bool _ = _
          rw [hse]
          simp [hlk]
        · obtain ⟨hlen, htk⟩ := hs.1 rfl
          conv => whnf
          refine vif_split (fun hlt => ?_) (fun hge => ?_)
          · have hlt : i < l.length := by have := of_decide_eq_true hlt; omega
            have hlt2 : i < (k).length := by omega
            obtain ⟨b, o, hoe, hbl, hc⟩ := hra2.get (by rw [hfa2.1]; omega)
            obtain ⟨oa1, c1, hv, hc1, hn1, hr1⟩ := hfa2.2 i hlt
            obtain ⟨b', o', hoe', hbl', hc'⟩ := hrb2.get (by rw [hfb2.1]; omega)
            obtain ⟨oa1', c1', hv', hc1', hn1', hr1'⟩ := hfb2.2 i hlt2
            rw [hoe, hoe']
            conv => whnf
            (refine vdrawAt plan5 (by kernel_rfl) ?_; conv => whnf)
            refine vs_sl1 i rfl rfl rfl hlt ?_
            conv => whnf
            repeat (first | (refine VReq.mk (by first | decide | omega) ?_; conv => whnf) | (refine VPend.mk rfl ?_; conv => whnf) | (refine VNext.keep rfl ?_; conv => whnf) | (refine vs_loadB rfl (by assumption) rfl ?_; conv => whnf) | (refine vs_arrL rfl rfl rfl ?_; conv => whnf) | (refine vs_storeB (by assumption) rfl rfl rfl ?_; intro _ _ _; conv => whnf))
            refine vs_load1 rfl (show w6.cell? _ = _ by rw [hB6'.cell (p := ⟨b, o + i, none⟩) hbl]; exact hc _ _ hv) ?_
            conv => whnf
            repeat (first | (refine VReq.mk (by first | decide | omega) ?_; conv => whnf) | (refine VPend.mk rfl ?_; conv => whnf) | (refine VNext.keep rfl ?_; conv => whnf) | (refine vs_loadB rfl (by assumption) rfl ?_; conv => whnf) | (refine vs_arrL rfl rfl rfl ?_; conv => whnf) | (refine vs_storeB (by assumption) rfl rfl rfl ?_; intro _ _ _; conv => whnf))
            refine vs_b2s rfl rfl rfl rfl (hr1.below hB6').drew ?_
            conv => whnf
            repeat (first | (refine VReq.mk (by first | decide | omega) ?_; conv => whnf) | (refine VPend.mk rfl ?_; conv => whnf) | (refine VNext.keep rfl ?_; conv => whnf) | (refine vs_loadB rfl (by assumption) rfl ?_; conv => whnf) | (refine vs_arrL rfl rfl rfl ?_; conv => whnf) | (refine vs_storeB (by assumption) rfl rfl rfl ?_; intro _ _ _; conv => whnf))
            refine vs_sl1 i rfl rfl rfl hlt2 ?_
            conv => whnf
            repeat (first | (refine VReq.mk (by first | decide | omega) ?_; conv => whnf) | (refine VPend.mk rfl ?_; conv => whnf) | (refine VNext.keep rfl ?_; conv => whnf) | (refine vs_loadB rfl (by assumption) rfl ?_; conv => whnf) | (refine vs_arrL rfl rfl rfl ?_; conv => whnf) | (refine vs_storeB (by assumption) rfl rfl rfl ?_; intro _ _ _; conv => whnf))
            refine vs_load1 rfl (show w6.cell? _ = _ by rw [hB6'.cell (p := ⟨b', o' + i, none⟩) hbl']; exact hc' _ _ hv') ?_
            conv => whnf
            repeat (first | (refine VReq.mk (by first | decide | omega) ?_; conv => whnf) | (refine VPend.mk rfl ?_; conv => whnf) | (refine VNext.keep rfl ?_; conv => whnf) | (refine vs_loadB rfl (by assumption) rfl ?_; conv => whnf) | (refine vs_arrL rfl rfl rfl ?_; conv => whnf) | (refine vs_storeB (by assumption) rfl rfl rfl ?_; intro _ _ _; conv => whnf))
            refine vs_b2s rfl rfl rfl rfl (hr1'.below hB6').drew ?_
            conv => whnf
            repeat (first | (refine VReq.mk (by first | decide | omega) ?_; conv => whnf) | (refine VPend.mk rfl ?_; conv => whnf) | (refine VNext.keep rfl ?_; conv => whnf) | (refine vs_loadB rfl (by assumption) rfl ?_; conv => whnf) | (refine vs_arrL rfl rfl rfl ?_; conv => whnf) | (refine vs_storeB (by assumption) rfl rfl rfl ?_; intro _ _ _; conv => whnf))
            refine VBack.mk ⟨_, ?_, (i + 1, sEq ⟨l[i].toArray⟩ ⟨(k)[i].toArray⟩), rfl, ?_, ?_⟩
            · show l.length - (i + 1) < l.length - i; omega
            · exact ⟨rfl, intEq (incr (by omega)), trivial⟩
            · refine ⟨hlt, ?_, hB6'.trans (Below.refl _ _).drew⟩
              show sEq _ _ = true ↔ _
              have e1 := List.take_succ_eq_append_getElem hlt
              have e2 := List.take_succ_eq_append_getElem hlt2
              rw [sEq_mk, e1, e2, htk, beq_iff_eq]
              exact ⟨fun e => ⟨hlen, by rw [e]⟩, fun h => by have := List.append_cancel_left h.2; injection this⟩
          · have hge : ¬ i < l.length := by have := of_decide_eq_false hge; omega
            have hlk : l = k := by
              have : i = l.length := by omega
              rw [List.take_of_length_le (by omega), List.take_of_length_le (by omega)] at htk
              exact htk
            conv => whnf
            (refine vdrawB plan5 (by kernel_rfl) ?_; conv => whnf)
            refine vcall (by kernel_rfl) (frame_ok oa2 ca2 va2 l _ (by omega) (by omega) (hra2.below hB6').drew ((hfa2.below hB6').below (Below.refl _ _).drew)) ?_
            rw [← hfl]
            rintro _ w7 ⟨o7, c7, rfl, ho7, hB7⟩
            have hB7' := hB6'.trans ((Below.ofDrew hB7).mono hB6'.size)
            conv => whnf
            refine VNext.below hB7 ?_
            conv => whnf
            (refine vs_b2s rfl rfl rfl rfl ho7.row ?_; (conv => whnf); refine VPend.mk rfl ?_; (conv => whnf); refine VPend.mk (fun u hu => ?_) ?_; (focus ((conv => whnf); exact vs_b2s rfl rfl rfl rfl (Row.below ho7.row hu) (VPend.mk rfl rfl))); (conv => whnf))
            refine vcall (by kernel_rfl) (frame_ok _ _ _ k _ (by omega) (by omega) (hrb2.below hB7') (hfb2.below hB7')) ?_
            rw [← hfk]
            rintro _ w8 ⟨o8, c8, rfl, ho8, hB8⟩
            have hB8' := hB7'.trans (hB8.mono hB7'.size)
            conv => whnf
            refine VNext.below hB8 ?_
            conv => whnf
            (refine vs_b2s rfl rfl rfl rfl ho8.row ?_; (conv => whnf); refine VPend.mk rfl ?_; (conv => whnf); refine VPend.mk (fun u hu => ?_) ?_; (focus ((conv => whnf); exact vs_b2s rfl rfl rfl rfl (Row.below ho8.row hu) (VPend.mk rfl rfl))); (conv => whnf))
            repeat (refine VPend.mk (fun u _ => ?_) ?_; (focus (conv => whnf)); (conv => whnf))
            refine VEnd.mk ⟨?_, hB3'.trans (((hB4).trans (hB8'.mono (hB4).size)).mono hB3'.size)⟩
            show Value.bool _ = _
            rw [hse]
            simp [hlk]
  · refine vif_false (decide_eq_false (by omega)) ?_
    conv => whnf
    have hBz : Below w3.heap.size w3 w3 := Below.refl _ _
    have hkb3 : ∀ x ∈ k, x.length ≤ 7000 := fun x hx => Nat.le_trans (hb3 x hx) (by decide)
    have hkb2 : (frame k).length ≤ 7000 := by omega
    clear hb3 hb2 h0
    have hse := sEq_frames l k ha3 hkb3
    replace hra2 := hra2.below hBz
    replace hfa2 := hfa2.below hBz
    obtain ⟨fl, hfl⟩ : ∃ f, f = frame l := ⟨_, rfl⟩
    obtain ⟨fk, hfk⟩ : ∃ f, f = frame k := ⟨_, rfl⟩
    rw [← hfl, ← hfk] at hse
    refine vloop (X := Nat × Bool) ws5_2 (fun x => [(12, .bool x.2), (13, .int .i64 x.1)])
      (fun x w' => x.1 ≤ l.length ∧ (x.2 = true ↔ l.length = (k).length ∧ l.take x.1 = (k).take x.1) ∧ Below (w3).heap.size w3 w') (fun x => l.length - x.1) (0, (l.length : Int) == ((k).length : Int)) (by kernel_rfl)
      ?_ ⟨Nat.zero_le _, (by first | (simp; done) | (simp; omega)), Below.refl _ _⟩ ?_
    · exact ⟨rfl, rfl, trivial⟩
    rintro ⟨i, s⟩ w6 j ⟨hi, hs, hB6'⟩
    simp only at hi hs
    cases s
    · have hlk : ¬ l = k := fun e => by subst e; simp at hs
      conv => whnf
      (refine vdrawB plan5 (by kernel_rfl) ?_; conv => whnf)
      refine vcall (by kernel_rfl) (frame_ok oa2 ca2 va2 l _ (by omega) (by omega) (hra2.below hB6').drew ((hfa2.below hB6').below (Below.refl _ _).drew)) ?_
      rw [← hfl]
      rintro _ w7 ⟨o7, c7, rfl, ho7, hB7⟩
      have hB7' := hB6'.trans ((Below.ofDrew hB7).mono hB6'.size)
      conv => whnf
      refine VNext.below hB7 ?_
      conv => whnf
      (refine vs_b2s rfl rfl rfl rfl ho7.row ?_; (conv => whnf); refine VPend.mk rfl ?_; (conv => whnf); refine VPend.mk (fun u hu => ?_) ?_; (focus ((conv => whnf); exact vs_b2s rfl rfl rfl rfl (Row.below ho7.row hu) (VPend.mk rfl rfl))); (conv => whnf))
      refine vcall (by kernel_rfl) (frame_ok _ _ _ k _ (by omega) (by omega) (hrb2.below hB7') (hfb2.below hB7')) ?_
      rw [← hfk]
      rintro _ w8 ⟨o8, c8, rfl, ho8, hB8⟩
      have hB8' := hB7'.trans (hB8.mono hB7'.size)
      conv => whnf
      refine VNext.below hB8 ?_
      conv => whnf
      (refine vs_b2s rfl rfl rfl rfl ho8.row ?_; (conv => whnf); refine VPend.mk rfl ?_; (conv => whnf); refine VPend.mk (fun u hu => ?_) ?_; (focus ((conv => whnf); exact vs_b2s rfl rfl rfl rfl (Row.below ho8.row hu) (VPend.mk rfl rfl))); (conv => whnf))
      repeat (refine VPend.mk (fun u _ => ?_) ?_; (focus (conv => whnf)); (conv => whnf))
      refine VEnd.mk ⟨?_, hB3'.trans (((hBz).trans (hB8'.mono (hBz).size)).mono hB3'.size)⟩
      show Value.bool _ = _
      rw [hse]
      simp [hlk]
    · obtain ⟨hlen, htk⟩ := hs.1 rfl
      conv => whnf
      refine vif_split (fun hlt => ?_) (fun hge => ?_)
      · have hlt : i < l.length := by have := of_decide_eq_true hlt; omega
        have hlt2 : i < (k).length := by omega
        obtain ⟨b, o, hoe, hbl, hc⟩ := hra2.get (by rw [hfa2.1]; omega)
        obtain ⟨oa1, c1, hv, hc1, hn1, hr1⟩ := hfa2.2 i hlt
        obtain ⟨b', o', hoe', hbl', hc'⟩ := hrb2.get (by rw [hfb2.1]; omega)
        obtain ⟨oa1', c1', hv', hc1', hn1', hr1'⟩ := hfb2.2 i hlt2
        rw [hoe, hoe']
        conv => whnf
        (refine vdrawAt plan5 (by kernel_rfl) ?_; conv => whnf)
        refine vs_sl1 i rfl rfl rfl hlt ?_
        conv => whnf
        repeat (first | (refine VReq.mk (by first | decide | omega) ?_; conv => whnf) | (refine VPend.mk rfl ?_; conv => whnf) | (refine VNext.keep rfl ?_; conv => whnf) | (refine vs_loadB rfl (by assumption) rfl ?_; conv => whnf) | (refine vs_arrL rfl rfl rfl ?_; conv => whnf) | (refine vs_storeB (by assumption) rfl rfl rfl ?_; intro _ _ _; conv => whnf))
        refine vs_load1 rfl (show w6.cell? _ = _ by rw [hB6'.cell (p := ⟨b, o + i, none⟩) hbl]; exact hc _ _ hv) ?_
        conv => whnf
        repeat (first | (refine VReq.mk (by first | decide | omega) ?_; conv => whnf) | (refine VPend.mk rfl ?_; conv => whnf) | (refine VNext.keep rfl ?_; conv => whnf) | (refine vs_loadB rfl (by assumption) rfl ?_; conv => whnf) | (refine vs_arrL rfl rfl rfl ?_; conv => whnf) | (refine vs_storeB (by assumption) rfl rfl rfl ?_; intro _ _ _; conv => whnf))
        refine vs_b2s rfl rfl rfl rfl (hr1.below hB6').drew ?_
        conv => whnf
        repeat (first | (refine VReq.mk (by first | decide | omega) ?_; conv => whnf) | (refine VPend.mk rfl ?_; conv => whnf) | (refine VNext.keep rfl ?_; conv => whnf) | (refine vs_loadB rfl (by assumption) rfl ?_; conv => whnf) | (refine vs_arrL rfl rfl rfl ?_; conv => whnf) | (refine vs_storeB (by assumption) rfl rfl rfl ?_; intro _ _ _; conv => whnf))
        refine vs_sl1 i rfl rfl rfl hlt2 ?_
        conv => whnf
        repeat (first | (refine VReq.mk (by first | decide | omega) ?_; conv => whnf) | (refine VPend.mk rfl ?_; conv => whnf) | (refine VNext.keep rfl ?_; conv => whnf) | (refine vs_loadB rfl (by assumption) rfl ?_; conv => whnf) | (refine vs_arrL rfl rfl rfl ?_; conv => whnf) | (refine vs_storeB (by assumption) rfl rfl rfl ?_; intro _ _ _; conv => whnf))
        refine vs_load1 rfl (show w6.cell? _ = _ by rw [hB6'.cell (p := ⟨b', o' + i, none⟩) hbl']; exact hc' _ _ hv') ?_
        conv => whnf
        repeat (first | (refine VReq.mk (by first | decide | omega) ?_; conv => whnf) | (refine VPend.mk rfl ?_; conv => whnf) | (refine VNext.keep rfl ?_; conv => whnf) | (refine vs_loadB rfl (by assumption) rfl ?_; conv => whnf) | (refine vs_arrL rfl rfl rfl ?_; conv => whnf) | (refine vs_storeB (by assumption) rfl rfl rfl ?_; intro _ _ _; conv => whnf))
        refine vs_b2s rfl rfl rfl rfl (hr1'.below hB6').drew ?_
        conv => whnf
        repeat (first | (refine VReq.mk (by first | decide | omega) ?_; conv => whnf) | (refine VPend.mk rfl ?_; conv => whnf) | (refine VNext.keep rfl ?_; conv => whnf) | (refine vs_loadB rfl (by assumption) rfl ?_; conv => whnf) | (refine vs_arrL rfl rfl rfl ?_; conv => whnf) | (refine vs_storeB (by assumption) rfl rfl rfl ?_; intro _ _ _; conv => whnf))
        refine VBack.mk ⟨_, ?_, (i + 1, sEq ⟨l[i].toArray⟩ ⟨(k)[i].toArray⟩), rfl, ?_, ?_⟩
        · show l.length - (i + 1) < l.length - i; omega
        · exact ⟨rfl, intEq (incr (by omega)), trivial⟩
        · refine ⟨hlt, ?_, hB6'.trans (Below.refl _ _).drew⟩
          show sEq _ _ = true ↔ _
          have e1 := List.take_succ_eq_append_getElem hlt
          have e2 := List.take_succ_eq_append_getElem hlt2
          rw [sEq_mk, e1, e2, htk, beq_iff_eq]
          exact ⟨fun e => ⟨hlen, by rw [e]⟩, fun h => by have := List.append_cancel_left h.2; injection this⟩
      · have hge : ¬ i < l.length := by have := of_decide_eq_false hge; omega
        have hlk : l = k := by
          have : i = l.length := by omega
          rw [List.take_of_length_le (by omega), List.take_of_length_le (by omega)] at htk
          exact htk
        conv => whnf
        (refine vdrawB plan5 (by kernel_rfl) ?_; conv => whnf)
        refine vcall (by kernel_rfl) (frame_ok oa2 ca2 va2 l _ (by omega) (by omega) (hra2.below hB6').drew ((hfa2.below hB6').below (Below.refl _ _).drew)) ?_
        rw [← hfl]
        rintro _ w7 ⟨o7, c7, rfl, ho7, hB7⟩
        have hB7' := hB6'.trans ((Below.ofDrew hB7).mono hB6'.size)
        conv => whnf
        refine VNext.below hB7 ?_
        conv => whnf
        (refine vs_b2s rfl rfl rfl rfl ho7.row ?_; (conv => whnf); refine VPend.mk rfl ?_; (conv => whnf); refine VPend.mk (fun u hu => ?_) ?_; (focus ((conv => whnf); exact vs_b2s rfl rfl rfl rfl (Row.below ho7.row hu) (VPend.mk rfl rfl))); (conv => whnf))
        refine vcall (by kernel_rfl) (frame_ok _ _ _ k _ (by omega) (by omega) (hrb2.below hB7') (hfb2.below hB7')) ?_
        rw [← hfk]
        rintro _ w8 ⟨o8, c8, rfl, ho8, hB8⟩
        have hB8' := hB7'.trans (hB8.mono hB7'.size)
        conv => whnf
        refine VNext.below hB8 ?_
        conv => whnf
        (refine vs_b2s rfl rfl rfl rfl ho8.row ?_; (conv => whnf); refine VPend.mk rfl ?_; (conv => whnf); refine VPend.mk (fun u hu => ?_) ?_; (focus ((conv => whnf); exact vs_b2s rfl rfl rfl rfl (Row.below ho8.row hu) (VPend.mk rfl rfl))); (conv => whnf))
        repeat (refine VPend.mk (fun u _ => ?_) ?_; (focus (conv => whnf)); (conv => whnf))
        refine VEnd.mk ⟨?_, hB3'.trans (((hBz).trans (hB8'.mono (hBz).size)).mono hB3'.size)⟩
        show Value.bool _ = _
        rw [hse]
        simp [hlk]

end Go.Proofs.Ytaiadjkeeifpgaa.Dg
