/- The law BucketSubjects: it answers true. Conditions: what the card lays, sizes of an argument. -/
import Derived.Test.YthnncehddnfjmaaDoorHd6
set_option linter.unusedVariables false
set_option linter.unusedSimpArgs false
namespace Go.Proofs.YthnncehddnfjmaaDoor.Dw
open Go Go.RowKit Go.Proofs.YthnncehddnfjmaaDoor.Vc Go.Proofs.YthnncehddnfjmaaDoor.Dg Go.Proofs.YthnncehddnfjmaaDoor.Ax Go.Proofs.YthnncehddnfjmaaDoor.Bk
attribute [local irreducible] loadVar storeVar Instr.indexAt Instr.index Instr.sliceAt Instr.makeSlice Instr.lookup Instr.mapUpdate Instr.range Instr.next Instr.entry Instr.makeMap Builtin.append_ Builtin.copy_ Builtin.len_ Builtin.min_ Builtin.max_ Builtin.cap_ Builtin.delete_ Builtin.clear_ convert binOp eqGuard Op.unary Calls
attribute [local irreducible] ofI keyT keyB itT dcl
/-- both answers for a subject's attribute -/
theorem subjs {W : World} (hW : Lw W) (s : List Cx) (hs : SOk s) (kind name salt : ByteArray) (hsl : salt.size ≤ 400) : ∃ (r : Int) (b : Bool),
    AFn Tryd.prog (GW W) 34 [sjA s, .v (.string kind), .v (.string name), .v (.string salt)] 0 [] (Is (.tup [iw r, bw b])) ∧
    AFn Tryd.prog (GW W) 35 [sjA s, .v (.string kind), .v (.string name), .v (.string salt)] 0 [] (Is (.tup [iw r, bw b])) :=
  ⟨_, _, subj1A hW s hs kind name salt hsl, subj2A hW s hs kind name salt hsl⟩
set_option maxHeartbeats 4000000 in
set_option maxRecDepth 100000 in
theorem lawSubjectsW {W : World} (hW : Lw W) (codes : List UInt8) (s0 : List Cx) (hs0 : SOk s0) (kind by_ salt : ByteArray) :
    AFn Tryd.prog (GW W) 9 [bsw codes, sjA s0, .v (.string kind), .v (.string by_), .v (.string salt)] 0 [] (Is (bw true)) := by
  refine afn_of Tryd.func9 rfl mixedW (by kernel_rfl) ?_
  conv => whnf
  (refine acall [] (by kernel_rfl) (awakeW hW) rfl ?_ ?_; (focus (repeat' (first | rfl | trivial | apply And.intro))))
  conv => whnf
  refine vif_split (fun h1 => ?_) (fun h1 => ?_)
  · conv => whnf
    exact aret [] rfl
  conv => whnf
  refine vif_split (fun h2 => ?_) (fun h2 => ?_)
  · conv => whnf
    exact aret [] rfl
  have hsl : salt.size ≤ 400 := by simp at h2; omega
  conv => whnf
  refine acallF [] (by kernel_rfl) (newW _ codes 60 (by decide)) ?_ ?_
  focus (repeat' (first | rfl | trivial | apply And.intro))
  rintro _ _ _ ⟨L, hL, rfl, rfl, rfl⟩
  conv => whnf
  refine acallM [1] [] (by kernel_rfl) (subjectW hW.ld (L := L) (at_ := 0) (Nat.zero_le _) (by omega)) rfl (by repeat' (first | rfl | trivial | apply And.intro)) (by repeat' (first | rfl | trivial | apply And.intro)) ?_
  rintro _ _ _ ⟨⟨x, hx, rfl⟩, rfl, a1, ha1, rfl⟩
  refine ⟨rfl, ?_⟩
  conv => whnf
  (refine acallF [] (by kernel_rfl) (declA _) ?_ ?_; (focus ((repeat' (first | rfl | trivial | apply And.intro)); done)); rintro _ _ _ ⟨rfl, rfl, rfl⟩; (conv => whnf))
  refine aloopH ws9_1 [13] (fun i : Nat => [(13, iw i)]) (fun i => i ≤ 8) (fun i => 8 - i) 0 (by kernel_rfl) (fun _ => rfl) (by kernel_rfl) (Nat.zero_le _) (by repeat' (first | rfl | trivial | apply And.intro)) (by repeat' (first | rfl | trivial | apply And.intro)) ?_
  intro i hi
  conv => whnf
  refine vif_split (fun h4 => ?_) (fun h4 => ?_)
  · have hlt : i < 8 := by rw [List.length_map, dcl_len] at h4; have := of_decide_eq_true h4; omega
    have hlt2 : i < dcl.length := by rw [dcl_len]; exact hlt
    obtain ⟨⟨dk, dn, dt⟩, hd⟩ : ∃ d, dcl[i]? = some d := ⟨_, List.getElem?_eq_getElem hlt2⟩
    obtain ⟨r, b, hA1, hA2⟩ := subjs hW x hx dk dn salt hsl
    conv => whnf
    (refine adraw pln9 [] (by kernel_rfl) ?_; conv => whnf)
    repeat' (first
      | (refine And.intro ?_ ?_ <;> (conv => whnf))
      | (refine AIn.mk' i rfl (by rw [List.length_map]; exact hlt2) ?_; conv => whnf)
      | (refine ARd.mapAt hd ?_; conv => whnf))
    (refine acall [] (by kernel_rfl) (hA1) rfl ?_ ?_; (focus (repeat' (first | rfl | trivial | apply And.intro))))
    conv => whnf
    (refine adraw pln9 [] (by kernel_rfl) ?_; conv => whnf)
    repeat' (first
      | (refine And.intro ?_ ?_ <;> (conv => whnf))
      | (refine AIn.mk' i rfl (by rw [List.length_map]; exact hlt2) ?_; conv => whnf)
      | (refine ARd.mapAt hd ?_; conv => whnf))
    (refine acall [] (by kernel_rfl) (hA2) rfl ?_ ?_; (focus (repeat' (first | rfl | trivial | apply And.intro))))
    conv => whnf
    refine vif_split (fun h5 => ?_) (fun h5 => ?_)
    · exfalso
      simp at h5
    conv => whnf
    refine vif_split (fun h6 => ?_) (fun h6 => ?_)
    · exfalso
      cases b <;> simp at h6
    conv => whnf
    (repeat' (first | (refine And.intro ?_ ?_ <;> (conv => whnf)) | (refine vif_split (fun h => ?_) (fun h => ?_) <;> (try simp only [bl] at h) <;> (conv => whnf)) | (refine AAr.i64 (by first | omega | ((try simp only [List.length_map] at *); omega)) ?_; conv => whnf) | (refine AIn.mk' _ rfl (by first | omega | (simp only [ln]; omega) | (simp only [ln] at *; omega)) ?_; conv => whnf) | (refine ARd.mapAt (by assumption) ?_; conv => whnf) | (refine ARd.set (by (try simp only [ln] at *); omega) ?_; conv => whnf) | (refine ARd.map (by first | omega | (simp only [List.length_map] at *; omega)) ?_; conv => whnf) | (refine VReq.mk (by first | decide | omega) ?_; conv => whnf) | (refine AEq.mk (by kernel_rfl) rfl rfl ?_; conv => whnf) | (refine VReq.mk (app_ok (by (try simp only [ln] at *); omega) (by kernel_rfl)) ?_; conv => whnf)))
    (refine aback (i + 1) [] [] ?_ ?_ ?_ ?_ ?_; (focus rfl); rotate_left 2; (focus (repeat' (first | rfl | trivial | apply And.intro))); (focus (repeat' (first | rfl | trivial | apply And.intro))))
    all_goals omega
  · have hi8 : i = 8 := by rw [List.length_map, dcl_len] at h4; simp at h4; omega
    subst hi8
    conv => whnf
    refine aloopH ws9_2 [93] (fun i : Nat => [(93, iw i)]) (fun i => i ≤ 2) (fun i => 2 - i) 0 (by kernel_rfl) (fun _ => rfl) (by kernel_rfl) (Nat.zero_le _) (by repeat' (first | rfl | trivial | apply And.intro)) (by repeat' (first | rfl | trivial | apply And.intro)) ?_
    intro i hi
    conv => whnf
    refine vif_split (fun h4 => ?_) (fun h4 => ?_)
    · have hlt : i < 2 := by simp at h4; omega
      obtain ⟨y, hy, hys⟩ : ∃ y : List Cx, [[FV.lst 3 (x.map enCx)], [FV.lst 3 (s0.map enCx)]][i]? = some [.lst 3 (y.map enCx)] ∧ SOk y := by
        match i, hlt with
        | 0, _ => exact ⟨x, rfl, hx⟩
        | 1, _ => exact ⟨s0, rfl, hs0⟩
      obtain ⟨r, b, hA1, hA2⟩ := subjs hW y hys kind by_ salt hsl
      obtain ⟨r2, b2, hB1, hB2⟩ := subjs hW y hys usrT selfT salt hsl
      conv => whnf
      refine AIn.mk' i rfl hlt ?_
      conv => whnf
      refine ARd.at hy ?_
      conv => whnf
      (refine acall [] (by kernel_rfl) (hA1) rfl ?_ ?_; (focus (repeat' (first | rfl | trivial | apply And.intro))))
      conv => whnf
      (refine acall [] (by kernel_rfl) (hA2) rfl ?_ ?_; (focus (repeat' (first | rfl | trivial | apply And.intro))))
      conv => whnf
      (refine acall [] (by kernel_rfl) (hB1) rfl ?_ ?_; (focus (repeat' (first | rfl | trivial | apply And.intro))))
      conv => whnf
      (refine acall [] (by kernel_rfl) (hB2) rfl ?_ ?_; (focus (repeat' (first | rfl | trivial | apply And.intro))))
      conv => whnf
      refine vif_split (fun h5 => ?_) (fun h5 => ?_)
      · exfalso
        simp at h5
      conv => whnf
      refine vif_split (fun h6 => ?_) (fun h6 => ?_)
      · exfalso
        cases b <;> simp at h6
      conv => whnf
      refine vif_split (fun h5 => ?_) (fun h5 => ?_)
      · exfalso
        simp at h5
      conv => whnf
      refine vif_split (fun h6 => ?_) (fun h6 => ?_)
      · exfalso
        cases b2 <;> simp at h6
      conv => whnf
      (repeat' (first | (refine And.intro ?_ ?_ <;> (conv => whnf)) | (refine vif_split (fun h => ?_) (fun h => ?_) <;> (try simp only [bl] at h) <;> (conv => whnf)) | (refine AAr.i64 (by first | omega | ((try simp only [List.length_map] at *); omega)) ?_; conv => whnf) | (refine AIn.mk' _ rfl (by first | omega | (simp only [ln]; omega) | (simp only [ln] at *; omega)) ?_; conv => whnf) | (refine ARd.mapAt (by assumption) ?_; conv => whnf) | (refine ARd.set (by (try simp only [ln] at *); omega) ?_; conv => whnf) | (refine ARd.map (by first | omega | (simp only [List.length_map] at *; omega)) ?_; conv => whnf) | (refine VReq.mk (by first | decide | omega) ?_; conv => whnf) | (refine AEq.mk (by kernel_rfl) rfl rfl ?_; conv => whnf) | (refine VReq.mk (app_ok (by (try simp only [ln] at *); omega) (by kernel_rfl)) ?_; conv => whnf)))
      (refine aback (i + 1) [] [] ?_ ?_ ?_ ?_ ?_; (focus rfl); rotate_left 2; (focus (repeat' (first | rfl | trivial | apply And.intro))); (focus (repeat' (first | rfl | trivial | apply And.intro))))
      all_goals omega
    · conv => whnf
      exact aret [] rfl
end Go.Proofs.YthnncehddnfjmaaDoor.Dw
