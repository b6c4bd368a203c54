/- The law BucketHashes: it answers true. Conditions: what the card lays. -/
import Derived.Test.YthnncehddnfjmaaDoorHd3
set_option linter.unusedVariables false
set_option linter.unusedSimpArgs false
namespace Go.Proofs.YthnncehddnfjmaaDoor.Dw
open Go Go.RowKit Go.Proofs.YthnncehddnfjmaaDoor.Vc Go.Proofs.YthnncehddnfjmaaDoor.Dg Go.Proofs.YthnncehddnfjmaaDoor.Ax Go.Proofs.YthnncehddnfjmaaDoor.Bk
attribute [local irreducible] loadVar storeVar Instr.indexAt Instr.index Instr.sliceAt Instr.makeSlice Instr.lookup Instr.mapUpdate Instr.range Instr.next Instr.entry Instr.makeMap Builtin.append_ Builtin.copy_ Builtin.len_ Builtin.min_ Builtin.max_ Builtin.cap_ Builtin.delete_ Builtin.clear_ convert binOp eqGuard Op.unary Calls
attribute [local irreducible] ofI keyT keyB itT
theorem of1W {W : World} (s t : ByteArray) (hs : s.size ≤ 1000) (ht : t.size ≤ 140737488351232) : AFn Tryd.prog (GW W) 30 [.v (.string s), .v (.string t)] 0 [] (Is (.v (.int .i64 (ofI s t)))) :=
  afn_of_ret (l := [.string s, .string t]) fun w _ => of1_ok s t w hs ht
theorem of2W {W : World} (s t : ByteArray) (hs : s.size ≤ 1000) (ht : t.size ≤ 140737488351232) : AFn Tryd.prog (GW W) 31 [.v (.string s), .v (.string t)] 0 [] (Is (.v (.int .i64 (ofI s t)))) :=
  afn_of_ret (l := [.string s, .string t]) fun w _ => of2_ok s t w hs ht
theorem hal_keep {W w : World} (h : Hal W) (hG : (GW W).holds w) : Hal w := by
  obtain ⟨oa, c, h1, h2⟩ := h
  exact ⟨oa, c, gw_cell hG h1, gw_row hG h2⟩
theorem awakeW {W : World} (hW : Lw W) : AFn Tryd.prog (GW W) 10 [] 0 [] (Is (bw true)) :=
  afn_of_ret (l := []) fun w hG => awake_ok w (hal_keep hW.hal hG)
theorem of_range (s t : ByteArray) : 0 ≤ ofI s t ∧ ofI s t < 10000 := by
  unfold ofI
  exact ⟨Int.emod_nonneg _ (by decide), Int.emod_lt_of_pos _ (by decide)⟩
/-- a value's row -/
def vrow (k n : Int) (t : ByteArray) (x : List (List FV)) : List FV := [.v (.int .i64 k), .v (.int .i64 n), .v (.string t), .lst 1 x]
set_option maxHeartbeats 4000000 in
set_option maxRecDepth 100000 in
theorem lawHashesW {W : World} (hW : Lw W) (s t : ByteArray) (k0 n0 : Int) (vt : ByteArray) (x : List (List FV)) (hn0 : -9223372036854775808 ≤ n0 ∧ n0 ≤ 9223372036854775807) (codes : List UInt8) :
    AFn Tryd.prog (GW W) 8 [.v (.string s), .v (.string t), .agg [iw k0, iw n0, .v (.string vt), .lst 1 x], bsw codes] 0 [] (Is (bw true)) := by
  refine afn_of Tryd.func8 rfl mixedW (by kernel_rfl) ?_
  conv => whnf
  (refine acall [] (by kernel_rfl) (awakeW hW) rfl ?_ ?_; (focus (repeat' (first | rfl | trivial | apply And.intro))))
  conv => whnf
  refine vif_split (fun h1 => ?_) (fun h1 => ?_)
  · conv => whnf
    exact aret [] rfl
  conv => whnf
  refine vif_split (fun h2 => ?_) (fun h2 => ?_)
  · conv => whnf
    exact aret [] rfl
  conv => whnf
  refine vif_split (fun h3 => ?_) (fun h3 => ?_)
  · conv => whnf
    exact aret [] rfl
  have hs : s.size ≤ 400 := by simp at h1; omega
  have ht : t.size ≤ 400 := by simp at h2; omega
  conv => whnf
  (refine adraw pln8 [1] (by kernel_rfl) ?_; conv => whnf)
  refine acallF [] (by kernel_rfl) (newW _ codes 10 (by decide)) ?_ ?_
  focus (repeat' (first | rfl | trivial | apply And.intro))
  rintro _ _ _ ⟨L, hL, rfl, rfl, rfl⟩
  conv => whnf
  refine acallM [1] [] (by kernel_rfl) (anyW hW.ld (L := L) (at_ := 0) (Nat.zero_le _) (by omega)) rfl (by repeat' (first | rfl | trivial | apply And.intro)) (by repeat' (first | rfl | trivial | apply And.intro)) ?_
  rintro _ _ _ ⟨⟨k2, n2, t2, ts, rfl, hn2, ht2, hl3⟩, rfl, a1, ha1, rfl⟩
  refine ⟨rfl, ?_⟩
  conv => whnf
  refine aloopH ws8_1 [38] (fun i : Nat => [(38, iw i)]) (fun i => i ≤ 2) (fun i => 2 - i) 0 (by kernel_rfl) (fun _ => rfl) (by kernel_rfl) (Nat.zero_le _) (by repeat' (first | rfl | trivial | apply And.intro)) (by repeat' (first | rfl | trivial | apply And.intro)) ?_
  intro i hi
  conv => whnf
  refine vif_split (fun h4 => ?_) (fun h4 => ?_)
  · have hi2 : i < 2 := by simp at h4; omega
    conv => whnf
    refine AIn.mk' i rfl hi2 ?_
    conv => whnf
    have hrow : ∃ k n t y, [vrow k0 n0 vt x, vrow k2 n2 t2 (ts.map enS)][i]? = some (vrow k n t y) ∧ (-9223372036854775808 ≤ n ∧ n ≤ 9223372036854775807) := by
      match i, hi2 with
      | 0, _ => exact ⟨k0, n0, vt, x, rfl, hn0⟩
      | 1, _ => exact ⟨k2, n2, t2, ts.map enS, rfl, hn2⟩
    obtain ⟨k', n', t', x', hr, hn'⟩ := hrow
    refine ARd.at hr ?_
    conv => whnf
    have hA1 := key1W hW k' n' t' x' hn'
    have hA2 := key2W hW k' n' t' x' hn'
    obtain ⟨kt, hkt⟩ : ∃ kt, kt = keyT k' n' t' := ⟨_, rfl⟩
    obtain ⟨kb, hkb⟩ : ∃ kb, kb = keyB k' := ⟨_, rfl⟩
    rw [← hkt, ← hkb] at hA1 hA2
    (refine acall [] (by kernel_rfl) (hA1) rfl ?_ ?_; (focus (repeat' (first | rfl | trivial | apply And.intro))))
    conv => whnf
    (refine acall [] (by kernel_rfl) (hA2) rfl ?_ ?_; (focus (repeat' (first | rfl | trivial | apply And.intro))))
    conv => whnf
    refine vif_split (fun h5 => ?_) (fun h5 => ?_)
    · exfalso
      rw [sEqD] at h5
      simp at h5
    conv => whnf
    refine vif_split (fun h6 => ?_) (fun h6 => ?_)
    · exfalso
      cases kb <;> simp at h6
    conv => whnf
    (repeat' (first | (refine And.intro ?_ ?_ <;> (conv => whnf)) | (refine vif_split (fun h => ?_) (fun h => ?_) <;> (try simp only [bl] at h) <;> (conv => whnf)) | (refine AAr.i64 (by first | omega | ((try simp only [List.length_map] at *); omega)) ?_; conv => whnf) | (refine AIn.mk' _ rfl (by first | omega | (simp only [ln]; omega) | (simp only [ln] at *; omega)) ?_; conv => whnf) | (refine ARd.mapAt (by assumption) ?_; conv => whnf) | (refine ARd.set (by (try simp only [ln] at *); omega) ?_; conv => whnf) | (refine ARd.map (by first | omega | (simp only [List.length_map] at *; omega)) ?_; conv => whnf) | (refine VReq.mk (by first | decide | omega) ?_; conv => whnf) | (refine AEq.mk (by kernel_rfl) rfl rfl ?_; conv => whnf) | (refine VReq.mk (app_ok (by (try simp only [ln] at *); omega) (by kernel_rfl)) ?_; conv => whnf)))
    (refine aback (i + 1) [] [] ?_ ?_ ?_ ?_ ?_; (focus rfl); rotate_left 2; (focus (repeat' (first | rfl | trivial | apply And.intro))); (focus (repeat' (first | rfl | trivial | apply And.intro))))
    all_goals omega
  · have hi2 : i = 2 := by simp at h4; omega
    subst hi2
    have hO1 := of1W (W := W) s t (by omega) (by omega)
    have hO2 := of2W (W := W) s t (by omega) (by omega)
    have hor := of_range s t
    obtain ⟨b, hb⟩ : ∃ b, b = ofI s t := ⟨_, rfl⟩
    rw [← hb] at hO1 hO2 hor
    conv => whnf
    (refine acall [] (by kernel_rfl) (hO1) rfl ?_ ?_; (focus (repeat' (first | rfl | trivial | apply And.intro))))
    conv => whnf
    (refine acall [] (by kernel_rfl) (hO2) rfl ?_ ?_; (focus (repeat' (first | rfl | trivial | apply And.intro))))
    conv => whnf
    rw [show (b == b) = true by simp]
    conv => whnf
    refine vif_split (fun h7 => ?_) (fun h7 => ?_)
    · conv => whnf
      refine aret [] (congrArg Value.bool ?_)
      simp [hor.2]
    · exfalso
      simp at h7
      omega
end Go.Proofs.YthnncehddnfjmaaDoor.Dw
