/- The walks of the laws DigestHash and DigestFrame. Conditions: the arguments read as the lists that are named. -/
import Derived.Test.YtaiadjkeeifpgaaDg8
namespace Go.Proofs.Ytaiadjkeeifpgaa.Dg
open Go Go.RowKit Go.Proofs.Ytaiadjkeeifpgaa.Vc
attribute [local irreducible] loadVar storeVar Instr.indexAt Instr.index Instr.sliceAt Instr.makeSlice Instr.lookup Instr.mapUpdate Instr.range Instr.next Instr.entry Instr.makeMap Builtin.append_ Builtin.copy_ Builtin.len_ Builtin.min_ Builtin.max_ Builtin.cap_ Builtin.delete_ Builtin.clear_ convert binOp eqGuard Op.unary Calls

set_option maxRecDepth 100000 in
theorem lawHash_ok (key d : Int) (oa : Option Addr) (c : Nat) (vs : List Value) (ls : List (List UInt8)) (w : World) (hc0 : ls.length ≤ c) (hr : Row w oa vs) (hf : Fld w vs ls) :
    Ret Try.prog 7 #[.int .u64 key, .int .u64 d, .slice oa ls.length c] w fun v w' => v = .bool true ∧ Below w.heap.size w w' := by
  refine ret_of_vc Try.func7 rfl mixed (by kernel_rfl) ?_
  conv => whnf
  refine vcall (by kernel_rfl) (awake_ok w) ?_
  rintro _ w1 ⟨rfl, hB1⟩
  conv => whnf
  refine vcall (by kernel_rfl) (cut_ok oa c vs ls w1 hc0 (hr.below hB1) (hf.below hB1)) ?_
  rintro _ w2 ⟨oa2, c2, vs2, rfl, hc2, hn2, hr2, hf2, hB2⟩
  have hl1 : (cutL ls).length ≤ 1099511627776 := by have := cutL_len ls; omega
  have hl2 : (frame (cutL ls)).length ≤ 1099511627776 := by have := cutL_frame ls; omega
  have hB2' := hB1.trans (hB2.mono hB1.size)
  clear hr hf hB1 hB2
  obtain ⟨l, hl⟩ : ∃ l, l = cutL ls := ⟨_, rfl⟩
  rw [← hl] at hc2 hf2 hl1 hl2 ⊢
  clear hl
  obtain ⟨s, hs⟩ : ∃ s, s = sumI d 0 (frame l) := ⟨_, rfl⟩
  obtain ⟨t, ht⟩ : ∃ t, t = sumI key (IntKind.u64.wrap (d + 1)) (frame l) := ⟨_, rfl⟩
  conv => whnf
  refine vcall (by kernel_rfl) (hash_ok d oa2 c2 vs2 l w2 hl1 hl2 hr2 hf2) ?_
  rw [← hs]
  rintro _ w3 ⟨rfl, hB3⟩
  conv => whnf
  refine vcall (by kernel_rfl) (hash2_ok d oa2 c2 vs2 l w3 hl1 hl2 (hr2.below hB3) (hf2.below hB3)) ?_
  rw [← hs]
  rintro _ w4 ⟨rfl, hB4⟩
  have hB4' := hB3.trans (hB4.mono hB3.size)
  conv => whnf
  refine vif_true (by simp) ?_
  conv => whnf
  refine vcall (by kernel_rfl) (mac_ok key d oa2 c2 vs2 l w4 hl1 hl2 (hr2.below hB4') (hf2.below hB4')) ?_
  rw [← ht]
  rintro _ w5 ⟨rfl, hB5⟩
  have hB5' := hB4'.trans (hB5.mono hB4'.size)
  conv => whnf
  refine vcall (by kernel_rfl) (mac2_ok key d oa2 c2 vs2 l w5 hl1 hl2 (hr2.below hB5') (hf2.below hB5')) ?_
  rw [← ht]
  rintro _ w6 ⟨rfl, hB6⟩
  have hB6' := hB5'.trans (hB6.mono hB5'.size)
  conv => whnf
  refine vif_true (by simp) ?_
  conv => whnf
  refine vcall (by kernel_rfl) (hash_ok d oa2 c2 vs2 l w6 hl1 hl2 (hr2.below hB6') (hf2.below hB6')) ?_
  rw [← hs]
  rintro _ w7 ⟨rfl, hB7⟩
  have hB7' := hB6'.trans (hB7.mono hB6'.size)
  conv => whnf
  refine vcall (by kernel_rfl) (frame_ok oa2 c2 vs2 l w7 hl1 hl2 (hr2.below hB7') (hf2.below hB7')) ?_
  rintro _ w8 ⟨oa8, c8, rfl, ho8, hB8⟩
  have hB8' := hB7'.trans (hB8.mono hB7'.size)
  conv => whnf
  refine vcall (by kernel_rfl) (sum_ok d 0 oa8 c8 (frame l) w8 (by omega) ho8.row) ?_
  rw [← hs]
  rintro _ w9 ⟨rfl, hB9⟩
  have hB9' := hB8'.trans (hB9.mono hB8'.size)
  conv => whnf
  exact VEnd.mk ⟨by show Value.bool _ = _; simp, hB2'.trans (hB9'.mono hB2'.size)⟩

theorem Fld.one {w : World} {vs : List Value} {ls : List (List UInt8)} (h : Fld w vs ls) : ∀ u ∈ vs, u.oneCell' = true := by
  intro u hu
  obtain ⟨i, hi⟩ := List.mem_iff_getElem?.1 hu
  have hlt : i < ls.length := by rw [← h.1]; exact (List.getElem?_eq_some_iff.1 hi).1
  obtain ⟨oa, c, h1, _⟩ := h.2 i hlt
  rw [hi] at h1
  injection h1 with h1
  rw [h1]; rfl
theorem Fld.append {w : World} {vs us : List Value} {ls ks : List (List UInt8)} (h : Fld w vs ls) (k : Fld w us ks) : Fld w (vs ++ us) (ls ++ ks) := by
  refine ⟨by simp [h.1, k.1], fun i hi => ?_⟩
  by_cases hl : i < ls.length
  · obtain ⟨oa, c, h1, h2, h3, h4⟩ := h.2 i hl
    refine ⟨oa, c, ?_, ?_, h3, ?_⟩
    · rw [List.getElem?_append_left (by rw [h.1]; exact hl), h1, List.getElem_append_left hl]
    · rw [List.getElem_append_left hl]; exact h2
    · rw [List.getElem_append_left hl]; exact h4
  · have hl' : ls.length ≤ i := by omega
    obtain ⟨oa, c, h1, h2, h3, h4⟩ := k.2 (i - ls.length) (by simp at hi; omega)
    refine ⟨oa, c, ?_, ?_, h3, ?_⟩
    · rw [List.getElem?_append_right (by rw [h.1]; exact hl'), h.1, h1, List.getElem_append_right hl']
    · rw [List.getElem_append_right hl']; exact h2
    · rw [List.getElem_append_right hl']; exact h4

set_option maxRecDepth 100000 in
theorem lawFrame_ok (oa ob : Option Addr) (ca cb : Nat) (va vb : List Value) (la lb : List (List UInt8)) (w : World) (hca : la.length ≤ ca) (hra : Row w oa va) (hfa : Fld w va la) (hcb : lb.length ≤ cb) (hrb : Row w ob vb) (hfb : Fld w vb lb) :
    Ret Try.prog 4 #[.slice oa la.length ca, .slice ob lb.length cb] w fun v w' => v = .bool true ∧ Below w.heap.size w w' := by
  refine ret_of_vc Try.func4 rfl mixed (by kernel_rfl) ?_
  conv => whnf
  refine vcall (by kernel_rfl) (awake_ok w) ?_
  rintro _ w1 ⟨rfl, hB1⟩
  conv => whnf
  refine vcall (by kernel_rfl) (cut_ok oa ca va la w1 hca (hra.below hB1) (hfa.below hB1)) ?_
  rintro _ w2 ⟨oa2, ca2, va2, rfl, hca2, hna2, hra2, hfa2, hB2⟩
  have hB2' := hB1.trans (hB2.mono hB1.size)
  conv => whnf
  refine vcall (by kernel_rfl) (cut_ok ob cb vb lb w2 hcb (hrb.below hB2') (hfb.below hB2')) ?_
  rintro _ w3 ⟨ob2, cb2, vb2, rfl, hcb2, hnb2, hrb2, hfb2, hB3⟩
  have hB3' := hB2'.trans (hB3.mono hB2'.size)
  replace hra2 := hra2.below hB3
  replace hfa2 := hfa2.below hB3
  have ha1 := cutL_len la
  have ha2 := cutL_frame la
  have hb1 := cutL_len lb
  have hb2 := cutL_frame lb
  clear hra hfa hrb hfb hB1 hB2 hB3 hB2'
  generalize cutL la = l at *
  generalize cutL lb = k at *
  conv => whnf
  refine vs_append (B := w3.heap.size) (sz := 1) (by_ := 24) (n := 0) (m := l.length) (c := 0) rfl rfl rfl rfl rfl rfl (Own.nil _ _ _ _) hra2 (by rw [hfa2.1, Nat.mul_one]) hfa2.one hna2 (by omega) (Nat.le_refl _) (by unfold maxLen; omega) ?_
  intro o4 c4 w4 ho4 hB4 _
  conv => whnf
  refine vs_append (B := w3.heap.size) (sz := 1) (by_ := 24) (n := 0 + l.length) (m := k.length) rfl rfl rfl rfl rfl rfl ho4 (hrb2.below hB4) (by rw [hfb2.1, Nat.mul_one]) hfb2.one hnb2 (by omega) hB4.size (by unfold maxLen; omega) ?_
  intro o5 c5 w5 ho5 hB5 _
  rw [show 0 + l.length + k.length = (l ++ k).length by simp] at ho5 ⊢
  have hB5' := hB4.trans hB5
  have hfl := (hfa2.append hfb2).below hB5'
  have hrl : Row w5 o5 (va2 ++ vb2) := by have := ho5.row; simpa using this
  have hrl2 := hra2.below hB5'
  have hfl2 := hfa2.below hB5'
  have hfr := frame_append l k
  conv => whnf
  refine vcall (by kernel_rfl) (frame_ok oa2 ca2 va2 l w5 (by omega) (by omega) hrl2 hfl2) ?_
  rintro _ w6 ⟨o6, c6, rfl, ho6, hB6⟩
  have hB6' := hB5'.trans (hB6.mono hB5'.size)
  conv => whnf
  have hrf := ho6.row.drew
  (refine vdrawB plan4 (by kernel_rfl) ?_; conv => whnf)
  (refine vs_b2s rfl rfl rfl rfl hrf ?_; (conv => whnf); refine VPend.mk rfl ?_; (conv => whnf); refine VPend.mk (fun u hu => ?_) ?_; (focus ((conv => whnf); exact vs_b2s rfl rfl rfl rfl (Row.below hrf hu) (VPend.mk rfl rfl))); (conv => whnf))
  refine vcall (by kernel_rfl) (frame2_ok oa2 ca2 va2 l _ (by omega) (by omega) (hrl2.below hB6).drew ((hfl2.below hB6).below (Below.refl _ _).drew)) ?_
  rintro _ w7 ⟨o7, c7, rfl, ho7, hB7⟩
  conv => whnf
  refine VNext.below hB7 ?_
  conv => whnf
  (refine vs_b2s rfl rfl rfl rfl ho7.row ?_; (conv => whnf); refine VPend.mk rfl ?_; (conv => whnf); refine VPend.mk (fun u hu => ?_) ?_; (focus ((conv => whnf); exact vs_b2s rfl rfl rfl rfl (Row.below ho7.row hu) (VPend.mk rfl rfl))); (conv => whnf))
  (refine VPend.mk (fun u _ => ?_) ?_; (focus (conv => whnf)); (conv => whnf))
  refine vif_true (by rw [sEq_mk]; simp) ?_
  conv => whnf
  have hr67 := hrf.below hB7
  (refine vs_b2s rfl rfl rfl rfl hr67 ?_; (conv => whnf); refine VPend.mk rfl ?_; (conv => whnf); refine VPend.mk (fun u hu => ?_) ?_; (focus ((conv => whnf); exact vs_b2s rfl rfl rfl rfl (Row.below hr67 hu) (VPend.mk rfl rfl))); (conv => whnf))
  have hB7' : Below w5.heap.size w5 w7 := (hB6.drew).trans (hB7.mono hB6.size)
  refine vcall (by kernel_rfl) (frame_ok o5 c5 (va2 ++ vb2) (l ++ k) _ (by simp; omega) (by rw [hfr]; simp; omega) (hrl.below hB7') (hfl.below hB7')) ?_
  rintro _ w8 ⟨o8, c8, rfl, ho8, hB8⟩
  conv => whnf
  refine VNext.below hB8 ?_
  conv => whnf
  (refine vs_b2s rfl rfl rfl rfl ho8.row ?_; (conv => whnf); refine VPend.mk rfl ?_; (conv => whnf); refine VPend.mk (fun u hu => ?_) ?_; (focus ((conv => whnf); exact vs_b2s rfl rfl rfl rfl (Row.below ho8.row hu) (VPend.mk rfl rfl))); (conv => whnf))
  have hB8' : Below w5.heap.size w5 w8 := hB7'.trans (hB8.mono hB7'.size)
  refine vcall (by kernel_rfl) (frame_ok ob2 cb2 vb2 k _ (by omega) (by omega) ((hrb2.below hB5').below hB8') ((hfb2.below hB5').below hB8')) ?_
  rintro _ w9 ⟨o9, c9, rfl, ho9, hB9⟩
  conv => whnf
  refine VNext.below hB9 ?_
  conv => whnf
  (refine vs_b2s rfl rfl rfl rfl ho9.row ?_; (conv => whnf); refine VPend.mk rfl ?_; (conv => whnf); refine VPend.mk (fun u hu => ?_) ?_; (focus ((conv => whnf); exact vs_b2s rfl rfl rfl rfl (Row.below ho9.row hu) (VPend.mk rfl rfl))); (conv => whnf))
  have hsz : (((⟨(frame l).toArray⟩ : ByteArray).size + (⟨(frame k).toArray⟩ : ByteArray).size : Nat) : Int) ≤ IntKind.i64.max := by
    show (((frame l).toArray.size + (frame k).toArray.size : Nat) : Int) ≤ 9223372036854775807
    simp; omega
  refine VReq.mk hsz ?_
  conv => whnf
  refine VPend.mk (fun u _ => ?_) ?_
  · conv => whnf
    exact VReq.mk hsz rfl
  conv => whnf
  (refine VPend.mk (fun u _ => ?_) ?_; (focus (conv => whnf)); (conv => whnf))
  (refine VPend.mk (fun u _ => ?_) ?_; (focus (conv => whnf)); (conv => whnf))
  have hB9' : Below w5.heap.size w5 w9 := hB8'.trans (hB9.mono hB8'.size)
  refine VEnd.mk ⟨?_, hB3'.trans ((hB5'.trans (hB9'.mono hB5'.size)).mono hB3'.size)⟩
  show Value.bool _ = _
  rw [append_mk, sEq_mk, hfr]
  simp

end Go.Proofs.Ytaiadjkeeifpgaa.Dg
