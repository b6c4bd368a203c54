/- Joined parts of the proof. The walk of the law GuardChecks -/
import Derived.Test.YtgfgndaoocfpdaaGreatDoorPz
import Derived.Test.YtgfgndaoocfpdaaGreatDoorQk20
set_option linter.unusedVariables false
set_option linter.unusedSimpArgs false
set_option maxRecDepth 100000
set_option maxHeartbeats 16000000
namespace Go.Proofs.YtgfgndaoocfpdaaGreatDoor.Cl
open Go Go.RowKit Go.Proofs Go.Proofs.YtgfgndaoocfpdaaGreatDoor.Vc Go.Proofs.YtgfgndaoocfpdaaGreatDoor.Ax Go.Proofs.YtgfgndaoocfpdaaGreatDoor.Ky Go.Proofs.YtgfgndaoocfpdaaGreatDoor.Id
attribute [local irreducible] loadVar storeVar Instr.indexAt Instr.index Instr.sliceAt Instr.makeSlice Instr.lookup Instr.mapUpdate Instr.range Instr.next Instr.entry Instr.makeMap Builtin.append_ Builtin.copy_ Builtin.len_ Builtin.min_ Builtin.max_ Builtin.cap_ Builtin.delete_ Builtin.clear_ convert binOp eqGuard Op.unary Calls
section
attribute [local irreducible] pnC lngS
theorem gch1 (e : By) (x1 x2 x3 x4 : Int) (h : List Hl) (hz : PnZ ⟨e, x1, x2, x3, x4, h⟩) : AFn Tryz.prog GS 12 [.agg [tv e, iv x1, iv x2, iv x3, iv x4, hlL h]] 0 [] (Is (iv (pnC ⟨e, x1, x2, x3, x4, h⟩))) := gcheckA _ hz
theorem gch2 (e : By) (x1 x2 x3 x4 : Int) (h : List Hl) (hz : PnZ ⟨e, x1, x2, x3, x4, h⟩) : AFn Tryz.prog GS 13 [.agg [tv e, iv x1, iv x2, iv x3, iv x4, hlL h]] 0 [] (Is (iv (pnC ⟨e, x1, x2, x3, x4, h⟩))) := gcheck2A _ hz
theorem mset (l : List Hl) (i : Nat) (x : Hl) (r : List FV) (h : r = hlF x) : (l.map hlF).set i r = (l.set i x).map hlF := by rw [h, List.map_set]
theorem mset2 (l : List Hl) (i : Nat) (x : Hl) (r0 r : List FV) (h : r = hlF x) : ((l.map hlF).set i r0).set i r = (l.set i x).map hlF := by rw [List.set_set]; exact mset l i x r h
theorem setZ {p : Pn} (hz : PnZ p) (i : Nat) (x : Hl) (h1 : x.m.name.length ≤ 140737488355328) (h2 : x.m.below.length ≤ 140737488355328) : PnZ ⟨p.exp, p.stages, p.needed, p.hold, p.level, p.health.set i x⟩ := ⟨hz.exp, by show (p.health.set i x).length ≤ _; rw [List.length_set]; exact hz.hl, fun h hh => by
 rcases List.mem_or_eq_of_mem_set hh with hh | rfl
 ·exact hz.m _ hh
 ·exact ⟨h1, h2⟩⟩
def pl35 (_ : Nat) : Plan := (.take 0 (.take 1 (.take 2 (.take 3 (.take 4 (.take 7 (.take 8 (.take 9 (.two 5 (.take 6 (.one 10 (.take 11 (.take 12 (.one 13 (.take 14 (.take 15 (.post 16 .done)))))))) 10 (.one 5 (.take 6 (.take 11 (.take 12 (.one 13 (.take 14 (.take 15 (.post 16 .done)))))))))))))))))
theorem lawChecksA (q : Pn) (P : LP) (f a : Nat) (n : Int) (s : By) (hq : q.exp.length ≤ 140737488355328 ∧ ∀ h ∈ q.health, h.m.name.length ≤ 140737488355328 ∧ h.m.below.length ≤ 140737488355328) (hz : LpZ P) (hf : f < 256) (ha : a < 256) (hn : I64 n) :
  AFn Tryz.prog GS 3 [pnA q, lpA P, u8v f, u8v a, iv n, tv s] 0 [] (Is (bv true)) := by
 refine afn_of Tryz.func3 rfl mixed (by kernel_rfl) ?_
 conv=>whnf
 (refine acall [] (by kernel_rfl) (gawakeA) rfl ?_ ?_; (focus trivial))
 conv=>whnf
 (refine acall [] (by kernel_rfl) (longA P [] hz.l) rfl ?_ ?_; (focus trivial))
 conv=>whnf
 repeat' (apply vif_split <;> intro h <;> (conv=>whnf))
 all_goals (first | (exact aret [] (by trivial)) | skip)
 rename_i h1 h2
 have hs : s.length ≤ 100 := by
  have h3 : ¬ ((s.length : Nat) : Int) > 100 := of_decide_eq_false h2
  omega
 have hqz : PnZ q := ⟨hq.1, by simp at h; omega, hq.2⟩
 have hk1 := gcheckA q hqz
 have hk2 := gcheck2A q hqz
 refine acallF [] (by kernel_rfl) (rolloutA P hz) ?_ ?_
 ·trivial
 rintro _ _ _ ⟨p, hp, rfl, rfl, rfl⟩
 conv=>whnf
 have hpz := hp.z
 have hpc := hp.ok
 have k1 := gcheckA p hpz
 rw [hpc] at k1
 (refine adraw pln3 [] (by kernel_rfl) ?_; conv=>whnf)
 refine acall [2] (by kernel_rfl) k1 rfl ?_ ?_
 ·trivial
 conv=>whnf
 repeat' (first
  | (refine And.intro ?_ ?_ <;> (conv=>whnf))
  | ((refine acall [] (by kernel_rfl) (hk1) rfl ?_ ?_; (focus (trivial; done)); (conv=>whnf)))
  | ((refine acall [] (by kernel_rfl) (hk2) rfl ?_ ?_; (focus (trivial; done)); (conv=>whnf))))
 refine vif_split (fun h9 => ?_) (fun h9 => ?_)
 ·exfalso; simp at h9
 conv=>whnf
 repeat' (first
  | (refine And.intro ?_ ?_ <;> (conv=>whnf))
  | (refine VReq.mk (by decide) ?_; conv=>whnf)
  | (refine AAr.i64 (by first | omega | decide) ?_; conv=>whnf))
 clear hk1 hk2 k1
 have ha10 : a % 10 < 10 := Nat.mod_lt _ (by decide)
 refine AIn.mk' (a % 10) rfl ha10 ?_
 obtain ⟨m, hm⟩ : ∃ m : Int, [[iF n], [iF (n.tmod 12)], [iF 0], [iF (-1)], [iF 999], [iF 1000], [iF 512], [iF 513], [iF 68719476736], [iF 68719476737]][a % 10]? = some [iF m] := by
  have : ∀ j < 10, ∃ m : Int, [[iF n], [iF (n.tmod 12)], [iF 0], [iF (-1)], [iF 999], [iF 1000], [iF 512], [iF 513], [iF 68719476736], [iF 68719476737]][j]? = some [iF m] := by
   intro j hj
   match j, hj with
   | 0, _ | 1, _ | 2, _ | 3, _ | 4, _ | 5, _ | 6, _ | 7, _ | 8, _ | 9, _ => exact ⟨_, rfl⟩
  exact this _ ha10
 conv=>whnf
 refine ARd.at hm ?_
 conv=>whnf
 obtain ⟨c, hc12, hcc⟩ : ∃ c : Nat, c < 12 ∧ (f : Int).tmod 12 = c := ⟨f % 12, Nat.mod_lt _ (by decide), rfl⟩
 refine VReq.mk (by decide) ?_
 conv=>whnf
 rw [hcc]
 rcases (show c = 0 ∨ c = 1 ∨ c = 2 ∨ c = 3 ∨ c = 4 ∨ c = 5 ∨ c = 6 ∨ c = 7 ∨ c = 8 ∨ c = 9 ∨ c = 10 ∨ c = 11 by omega) with rfl | rfl | rfl | rfl | rfl | rfl | rfl | rfl | rfl | rfl | rfl | rfl
 ·skip
  conv=>whnf
  refine vif_split (fun h8 => ?_) (fun h8 => ?_)
  ·conv=>whnf
   have hlp : 0 < p.health.length := by simp at h8; omega
   have hil : a % p.health.length < p.health.length := Nat.mod_lt _ hlp
   (refine adraw pln3 [] (by kernel_rfl) ?_; conv=>whnf)
   refine AAr.i64 (by omega) ?_
   conv=>whnf
   refine VReq.mk (by (try simp only [List.length_map, ne_eq]); omega) ?_
   conv=>whnf
   refine AIn.mk' (a % p.health.length) (by first | rfl | (rw [List.length_map]; rfl)) (by first | exact hil | (rw [List.length_map]; exact hil)) ?_
   conv=>whnf
   refine VReq.mk (by decide) ?_
   conv=>whnf
   rw [hcc]
   conv=>whnf
   refine adraw pln3 [2] (by kernel_rfl) ?_
   conv=>whnf
   have e1 := gch1 (s) (p.stages) (p.needed) (p.hold) (p.level) (p.health) ⟨by show s.length ≤ _; omega, hpz.hl, hpz.m⟩
   have e2 := gch2 (s) (p.stages) (p.needed) (p.hold) (p.level) (p.health) ⟨by show s.length ≤ _; omega, hpz.hl, hpz.m⟩
   refine acall [2] (by kernel_rfl) e1 rfl ?_ ?_
   ·trivial
   conv=>whnf
   refine acall [2] (by kernel_rfl) e2 rfl ?_ ?_
   ·trivial
   conv=>whnf
   exact aret [] (congrArg Value.bool (by simp))
  ·conv=>whnf
   refine adraw pln3 [2] (by kernel_rfl) ?_
   conv=>whnf
   have e1 := gch1 (s) (p.stages) (p.needed) (p.hold) (p.level) (p.health) ⟨by show s.length ≤ _; omega, hpz.hl, hpz.m⟩
   have e2 := gch2 (s) (p.stages) (p.needed) (p.hold) (p.level) (p.health) ⟨by show s.length ≤ _; omega, hpz.hl, hpz.m⟩
   refine acall [2] (by kernel_rfl) e1 rfl ?_ ?_
   ·trivial
   conv=>whnf
   refine acall [2] (by kernel_rfl) e2 rfl ?_ ?_
   ·trivial
   conv=>whnf
   exact aret [] (congrArg Value.bool (by simp))
 ·skip
  conv=>whnf
  refine vif_split (fun h8 => ?_) (fun h8 => ?_)
  ·conv=>whnf
   have hlp : 0 < p.health.length := by simp at h8; omega
   have hil : a % p.health.length < p.health.length := Nat.mod_lt _ hlp
   (refine adraw pln3 [] (by kernel_rfl) ?_; conv=>whnf)
   refine AAr.i64 (by omega) ?_
   conv=>whnf
   refine VReq.mk (by (try simp only [List.length_map, ne_eq]); omega) ?_
   conv=>whnf
   refine AIn.mk' (a % p.health.length) (by first | rfl | (rw [List.length_map]; rfl)) (by first | exact hil | (rw [List.length_map]; exact hil)) ?_
   conv=>whnf
   refine VReq.mk (by decide) ?_
   conv=>whnf
   rw [hcc]
   conv=>whnf
   refine adraw pln3 [2] (by kernel_rfl) ?_
   conv=>whnf
   have e1 := gch1 (p.exp) (m) (p.needed) (p.hold) (p.level) (p.health) ⟨hpz.exp, hpz.hl, hpz.m⟩
   have e2 := gch2 (p.exp) (m) (p.needed) (p.hold) (p.level) (p.health) ⟨hpz.exp, hpz.hl, hpz.m⟩
   refine acall [2] (by kernel_rfl) e1 rfl ?_ ?_
   ·trivial
   conv=>whnf
   refine acall [2] (by kernel_rfl) e2 rfl ?_ ?_
   ·trivial
   conv=>whnf
   exact aret [] (congrArg Value.bool (by simp))
  ·conv=>whnf
   refine adraw pln3 [2] (by kernel_rfl) ?_
   conv=>whnf
   have e1 := gch1 (p.exp) (m) (p.needed) (p.hold) (p.level) (p.health) ⟨hpz.exp, hpz.hl, hpz.m⟩
   have e2 := gch2 (p.exp) (m) (p.needed) (p.hold) (p.level) (p.health) ⟨hpz.exp, hpz.hl, hpz.m⟩
   refine acall [2] (by kernel_rfl) e1 rfl ?_ ?_
   ·trivial
   conv=>whnf
   refine acall [2] (by kernel_rfl) e2 rfl ?_ ?_
   ·trivial
   conv=>whnf
   exact aret [] (congrArg Value.bool (by simp))
 ·skip
  conv=>whnf
  refine vif_split (fun h8 => ?_) (fun h8 => ?_)
  ·conv=>whnf
   have hlp : 0 < p.health.length := by simp at h8; omega
   have hil : a % p.health.length < p.health.length := Nat.mod_lt _ hlp
   (refine adraw pln3 [] (by kernel_rfl) ?_; conv=>whnf)
   refine AAr.i64 (by omega) ?_
   conv=>whnf
   refine VReq.mk (by (try simp only [List.length_map, ne_eq]); omega) ?_
   conv=>whnf
   refine AIn.mk' (a % p.health.length) (by first | rfl | (rw [List.length_map]; rfl)) (by first | exact hil | (rw [List.length_map]; exact hil)) ?_
   conv=>whnf
   refine VReq.mk (by decide) ?_
   conv=>whnf
   rw [hcc]
   conv=>whnf
   refine adraw pln3 [2] (by kernel_rfl) ?_
   conv=>whnf
   have e1 := gch1 (p.exp) (p.stages) (m) (p.hold) (p.level) (p.health) ⟨hpz.exp, hpz.hl, hpz.m⟩
   have e2 := gch2 (p.exp) (p.stages) (m) (p.hold) (p.level) (p.health) ⟨hpz.exp, hpz.hl, hpz.m⟩
   refine acall [2] (by kernel_rfl) e1 rfl ?_ ?_
   ·trivial
   conv=>whnf
   refine acall [2] (by kernel_rfl) e2 rfl ?_ ?_
   ·trivial
   conv=>whnf
   exact aret [] (congrArg Value.bool (by simp))
  ·conv=>whnf
   refine adraw pln3 [2] (by kernel_rfl) ?_
   conv=>whnf
   have e1 := gch1 (p.exp) (p.stages) (m) (p.hold) (p.level) (p.health) ⟨hpz.exp, hpz.hl, hpz.m⟩
   have e2 := gch2 (p.exp) (p.stages) (m) (p.hold) (p.level) (p.health) ⟨hpz.exp, hpz.hl, hpz.m⟩
   refine acall [2] (by kernel_rfl) e1 rfl ?_ ?_
   ·trivial
   conv=>whnf
   refine acall [2] (by kernel_rfl) e2 rfl ?_ ?_
   ·trivial
   conv=>whnf
   exact aret [] (congrArg Value.bool (by simp))
 ·skip
  conv=>whnf
  refine vif_split (fun h8 => ?_) (fun h8 => ?_)
  ·conv=>whnf
   have hlp : 0 < p.health.length := by simp at h8; omega
   have hil : a % p.health.length < p.health.length := Nat.mod_lt _ hlp
   (refine adraw pln3 [] (by kernel_rfl) ?_; conv=>whnf)
   refine AAr.i64 (by omega) ?_
   conv=>whnf
   refine VReq.mk (by (try simp only [List.length_map, ne_eq]); omega) ?_
   conv=>whnf
   refine AIn.mk' (a % p.health.length) (by first | rfl | (rw [List.length_map]; rfl)) (by first | exact hil | (rw [List.length_map]; exact hil)) ?_
   conv=>whnf
   refine VReq.mk (by decide) ?_
   conv=>whnf
   rw [hcc]
   conv=>whnf
   refine adraw pln3 [2] (by kernel_rfl) ?_
   conv=>whnf
   have e1 := gch1 (p.exp) (p.stages) (p.needed) (m) (p.level) (p.health) ⟨hpz.exp, hpz.hl, hpz.m⟩
   have e2 := gch2 (p.exp) (p.stages) (p.needed) (m) (p.level) (p.health) ⟨hpz.exp, hpz.hl, hpz.m⟩
   refine acall [2] (by kernel_rfl) e1 rfl ?_ ?_
   ·trivial
   conv=>whnf
   refine acall [2] (by kernel_rfl) e2 rfl ?_ ?_
   ·trivial
   conv=>whnf
   exact aret [] (congrArg Value.bool (by simp))
  ·conv=>whnf
   refine adraw pln3 [2] (by kernel_rfl) ?_
   conv=>whnf
   have e1 := gch1 (p.exp) (p.stages) (p.needed) (m) (p.level) (p.health) ⟨hpz.exp, hpz.hl, hpz.m⟩
   have e2 := gch2 (p.exp) (p.stages) (p.needed) (m) (p.level) (p.health) ⟨hpz.exp, hpz.hl, hpz.m⟩
   refine acall [2] (by kernel_rfl) e1 rfl ?_ ?_
   ·trivial
   conv=>whnf
   refine acall [2] (by kernel_rfl) e2 rfl ?_ ?_
   ·trivial
   conv=>whnf
   exact aret [] (congrArg Value.bool (by simp))
 ·skip
  conv=>whnf
  refine vif_split (fun h8 => ?_) (fun h8 => ?_)
  ·conv=>whnf
   have hlp : 0 < p.health.length := by simp at h8; omega
   have hil : a % p.health.length < p.health.length := Nat.mod_lt _ hlp
   (refine adraw pln3 [] (by kernel_rfl) ?_; conv=>whnf)
   refine AAr.i64 (by omega) ?_
   conv=>whnf
   refine VReq.mk (by (try simp only [List.length_map, ne_eq]); omega) ?_
   conv=>whnf
   refine AIn.mk' (a % p.health.length) (by first | rfl | (rw [List.length_map]; rfl)) (by first | exact hil | (rw [List.length_map]; exact hil)) ?_
   conv=>whnf
   refine VReq.mk (by decide) ?_
   conv=>whnf
   rw [hcc]
   conv=>whnf
   refine adraw pln3 [2] (by kernel_rfl) ?_
   conv=>whnf
   have e1 := gch1 (p.exp) (p.stages) (p.needed) (p.hold) (m) (p.health) ⟨hpz.exp, hpz.hl, hpz.m⟩
   have e2 := gch2 (p.exp) (p.stages) (p.needed) (p.hold) (m) (p.health) ⟨hpz.exp, hpz.hl, hpz.m⟩
   refine acall [2] (by kernel_rfl) e1 rfl ?_ ?_
   ·trivial
   conv=>whnf
   refine acall [2] (by kernel_rfl) e2 rfl ?_ ?_
   ·trivial
   conv=>whnf
   exact aret [] (congrArg Value.bool (by simp))
  ·conv=>whnf
   refine adraw pln3 [2] (by kernel_rfl) ?_
   conv=>whnf
   have e1 := gch1 (p.exp) (p.stages) (p.needed) (p.hold) (m) (p.health) ⟨hpz.exp, hpz.hl, hpz.m⟩
   have e2 := gch2 (p.exp) (p.stages) (p.needed) (p.hold) (m) (p.health) ⟨hpz.exp, hpz.hl, hpz.m⟩
   refine acall [2] (by kernel_rfl) e1 rfl ?_ ?_
   ·trivial
   conv=>whnf
   refine acall [2] (by kernel_rfl) e2 rfl ?_ ?_
   ·trivial
   conv=>whnf
   exact aret [] (congrArg Value.bool (by simp))
 ·conv=>whnf
  refine aloop ws3_1 6 [] (fun _ : List Hl => []) (fun hs => [(5, .rows 37 9 (hs.map hlF)), (3, .var 24 [tv p.exp, iv p.stages, iv p.needed, iv p.hold, iv p.level, .own 5])]) (fun hs => hs.length ≤ 6 ∧ ∀ h ∈ hs, h.m.name.length ≤ 140737488355328 ∧ h.m.below.length ≤ 140737488355328) (fun hs => 6 - hs.length) [(5, .lab 2)] [] p.health (by kernel_rfl) (fun _ => rfl) rfl ⟨by have := hp.hl; omega, hpz.m⟩ (by trivial) (by trivial) ?_
  rintro hs ⟨hsl, hsm⟩
  have ha6 : a % 6 < 6 := Nat.mod_lt _ (by decide)
  conv=>whnf
  refine AAr.i64 (by omega) ?_
  conv=>whnf
  refine VReq.mk (by decide) ?_
  conv=>whnf
  refine vif_split (fun h7 => ?_) (fun h7 => ?_)
  ·have hl5 : hs.length ≤ a % 6 := by
    rw [List.length_map] at h7
    have h6 : (hs.length : Int) ≤ ((a % 6 : Nat) : Int) := of_decide_eq_true h7
    omega
   conv=>whnf
   refine VReq.mk (app_ok (by simp only [List.length_map, List.length_cons, List.length_nil]; omega) (by kernel_rfl)) ?_
   conv=>whnf
   exact aback (hs ++ [⟨⟨3, [98, 117, 121], [], 1, 1, 0, 0⟩, 0, 0⟩]) [(5, .lab 7)] [] rfl (by show 6 - (hs ++ [_]).length < 6 - hs.length; rw [List.length_append]; show 6 - (hs.length + 1) < _; omega) ⟨by rw [List.length_append]; show hs.length + 1 ≤ 6; omega, fun h hh => by
    rcases List.mem_append.1 hh with hh | hh
    ·exact hsm h hh
    ·rw [List.mem_singleton.1 hh]; exact ⟨by show 3 ≤ 140737488355328; decide, by show 0 ≤ 140737488355328; decide⟩⟩ ⟨⟨rfl, rfl, by rw [List.map_append]; rfl⟩, (by trivial), trivial⟩ (by trivial)
  conv=>whnf
  refine vif_split (fun h8 => ?_) (fun h8 => ?_)
  ·conv=>whnf
   have hlp : 0 < hs.length := by simp at h8; omega
   have hil : a % hs.length < hs.length := Nat.mod_lt _ hlp
   (refine adraw pln3 [] (by kernel_rfl) ?_; conv=>whnf)
   refine AAr.i64 (by omega) ?_
   conv=>whnf
   refine VReq.mk (by (try simp only [List.length_map, ne_eq]); omega) ?_
   conv=>whnf
   refine AIn.mk' (a % hs.length) (by first | rfl | (rw [List.length_map]; rfl)) (by first | exact hil | (rw [List.length_map]; exact hil)) ?_
   conv=>whnf
   refine VReq.mk (by decide) ?_
   conv=>whnf
   rw [hcc]
   conv=>whnf
   refine adraw pln3 [5] (by kernel_rfl) ?_
   conv=>whnf
   have e1 := gch1 p.exp p.stages p.needed p.hold p.level hs ⟨hpz.exp, by show hs.length ≤ _; omega, hsm⟩
   have e2 := gch2 p.exp p.stages p.needed p.hold p.level hs ⟨hpz.exp, by show hs.length ≤ _; omega, hsm⟩
   refine acall [5] (by kernel_rfl) e1 rfl ?_ ?_
   ·trivial
   conv=>whnf
   refine acall [5] (by kernel_rfl) e2 rfl ?_ ?_
   ·trivial
   conv=>whnf
   exact aret [] (congrArg Value.bool (by simp))
  ·conv=>whnf
   refine adraw pln3 [5] (by kernel_rfl) ?_
   conv=>whnf
   have e1 := gch1 p.exp p.stages p.needed p.hold p.level hs ⟨hpz.exp, by show hs.length ≤ _; omega, hsm⟩
   have e2 := gch2 p.exp p.stages p.needed p.hold p.level hs ⟨hpz.exp, by show hs.length ≤ _; omega, hsm⟩
   refine acall [5] (by kernel_rfl) e1 rfl ?_ ?_
   ·trivial
   conv=>whnf
   refine acall [5] (by kernel_rfl) e2 rfl ?_ ?_
   ·trivial
   conv=>whnf
   exact aret [] (congrArg Value.bool (by simp))
 ·skip
  conv=>whnf
  refine vif_split (fun h8 => ?_) (fun h8 => ?_)
  rotate_left 1
  ·conv=>whnf
   refine adraw pln3 [2] (by kernel_rfl) ?_
   conv=>whnf
   have e1 := gch1 p.exp p.stages p.needed p.hold p.level p.health hpz
   have e2 := gch2 p.exp p.stages p.needed p.hold p.level p.health hpz
   refine acall [2] (by kernel_rfl) e1 rfl ?_ ?_
   ·trivial
   conv=>whnf
   refine acall [2] (by kernel_rfl) e2 rfl ?_ ?_
   ·trivial
   conv=>whnf
   exact aret [] (congrArg Value.bool (by simp))
  conv=>whnf
  have hlp : 0 < p.health.length := by simp at h8; omega
  have hil : a % p.health.length < p.health.length := Nat.mod_lt _ hlp
  (refine adraw pln3 [] (by kernel_rfl) ?_; conv=>whnf)
  refine AAr.i64 (by omega) ?_
  conv=>whnf
  refine VReq.mk (by (try simp only [List.length_map, ne_eq]); omega) ?_
  conv=>whnf
  refine AIn.mk' (a % p.health.length) (by first | rfl | (rw [List.length_map]; rfl)) (by first | exact hil | (rw [List.length_map]; exact hil)) ?_
  conv=>whnf
  refine VReq.mk (by decide) ?_
  conv=>whnf
  rw [hcc]
  conv=>whnf
  have hg := List.getElem?_eq_getElem hil
  have hxm := hpz.m _ (List.getElem_mem hil)
  have hxr := (hp.all _ (List.getElem_mem hil)).r
  generalize p.health[a % p.health.length] = x at *
  generalize a % p.health.length = i at *
  repeat' (first
   | (refine And.intro ?_ ?_ <;> (conv=>whnf))
   | (refine adraw pln3 [] (by kernel_rfl) ?_; conv=>whnf; done)
   | (refine ARd.mapAt hg ?_; conv=>whnf)
   | (refine ARd.set (lmZ hil) ?_; conv=>whnf)
   | (refine AAr.i64 (by omega) ?_; conv=>whnf))
  have e1 := gch1 p.exp p.stages p.needed p.hold p.level (p.health.set i ⟨⟨x.m.kind, x.m.name, x.m.below, m, x.m.cap, x.m.least, x.m.before⟩, x.lo, x.hi⟩) (setZ hpz i _ hxm.1 hxm.2)
  have e2 := gch2 p.exp p.stages p.needed p.hold p.level (p.health.set i ⟨⟨x.m.kind, x.m.name, x.m.below, m, x.m.cap, x.m.least, x.m.before⟩, x.lo, x.hi⟩) (setZ hpz i _ hxm.1 hxm.2)
  refine adraw pln3 [2] (by kernel_rfl) ?_
  conv=>whnf
  refine acall [2] (by kernel_rfl) e1 rfl ?_ ?_
  ·refine ⟨⟨rfl, rfl, rfl, rfl, rfl, ?_, trivial⟩, trivial⟩
   conv=>whnf
   exact ⟨rfl, rfl, by first | exact mset _ _ _ _ rfl | exact mset2 _ _ _ _ _ rfl⟩
  conv=>whnf
  refine acall [2] (by kernel_rfl) e2 rfl ?_ ?_
  ·refine ⟨⟨rfl, rfl, rfl, rfl, rfl, ?_, trivial⟩, trivial⟩
   conv=>whnf
   exact ⟨rfl, rfl, by first | exact mset _ _ _ _ rfl | exact mset2 _ _ _ _ _ rfl⟩
  conv=>whnf
  exact aret [] (congrArg Value.bool (by simp))
 ·skip
  conv=>whnf
  refine vif_split (fun h8 => ?_) (fun h8 => ?_)
  rotate_left 1
  ·conv=>whnf
   refine adraw pln3 [2] (by kernel_rfl) ?_
   conv=>whnf
   have e1 := gch1 p.exp p.stages p.needed p.hold p.level p.health hpz
   have e2 := gch2 p.exp p.stages p.needed p.hold p.level p.health hpz
   refine acall [2] (by kernel_rfl) e1 rfl ?_ ?_
   ·trivial
   conv=>whnf
   refine acall [2] (by kernel_rfl) e2 rfl ?_ ?_
   ·trivial
   conv=>whnf
   exact aret [] (congrArg Value.bool (by simp))
  conv=>whnf
  have hlp : 0 < p.health.length := by simp at h8; omega
  have hil : a % p.health.length < p.health.length := Nat.mod_lt _ hlp
  (refine adraw pln3 [] (by kernel_rfl) ?_; conv=>whnf)
  refine AAr.i64 (by omega) ?_
  conv=>whnf
  refine VReq.mk (by (try simp only [List.length_map, ne_eq]); omega) ?_
  conv=>whnf
  refine AIn.mk' (a % p.health.length) (by first | rfl | (rw [List.length_map]; rfl)) (by first | exact hil | (rw [List.length_map]; exact hil)) ?_
  conv=>whnf
  refine VReq.mk (by decide) ?_
  conv=>whnf
  rw [hcc]
  conv=>whnf
  have hg := List.getElem?_eq_getElem hil
  have hxm := hpz.m _ (List.getElem_mem hil)
  have hxr := (hp.all _ (List.getElem_mem hil)).r
  generalize p.health[a % p.health.length] = x at *
  generalize a % p.health.length = i at *
  repeat' (first
   | (refine And.intro ?_ ?_ <;> (conv=>whnf))
   | (refine adraw pln3 [] (by kernel_rfl) ?_; conv=>whnf; done)
   | (refine ARd.mapAt hg ?_; conv=>whnf)
   | (refine ARd.set (lmZ hil) ?_; conv=>whnf)
   | (refine AAr.i64 (by omega) ?_; conv=>whnf))
  have e1 := gch1 p.exp p.stages p.needed p.hold p.level (p.health.set i ⟨⟨4, x.m.name, [118, 105, 115, 105, 116], x.m.window, x.m.cap, x.m.least, x.m.before⟩, x.lo, x.hi⟩) (setZ hpz i _ hxm.1 (by show 5 ≤ 140737488355328; decide))
  have e2 := gch2 p.exp p.stages p.needed p.hold p.level (p.health.set i ⟨⟨4, x.m.name, [118, 105, 115, 105, 116], x.m.window, x.m.cap, x.m.least, x.m.before⟩, x.lo, x.hi⟩) (setZ hpz i _ hxm.1 (by show 5 ≤ 140737488355328; decide))
  refine adraw pln3 [2] (by kernel_rfl) ?_
  conv=>whnf
  refine acall [2] (by kernel_rfl) e1 rfl ?_ ?_
  ·refine ⟨⟨rfl, rfl, rfl, rfl, rfl, ?_, trivial⟩, trivial⟩
   conv=>whnf
   exact ⟨rfl, rfl, by first | exact mset _ _ _ _ rfl | exact mset2 _ _ _ _ _ rfl⟩
  conv=>whnf
  refine acall [2] (by kernel_rfl) e2 rfl ?_ ?_
  ·refine ⟨⟨rfl, rfl, rfl, rfl, rfl, ?_, trivial⟩, trivial⟩
   conv=>whnf
   exact ⟨rfl, rfl, by first | exact mset _ _ _ _ rfl | exact mset2 _ _ _ _ _ rfl⟩
  conv=>whnf
  exact aret [] (congrArg Value.bool (by simp))
 ·skip
  conv=>whnf
  refine vif_split (fun h8 => ?_) (fun h8 => ?_)
  rotate_left 1
  ·conv=>whnf
   refine adraw pln3 [2] (by kernel_rfl) ?_
   conv=>whnf
   have e1 := gch1 p.exp p.stages p.needed p.hold p.level p.health hpz
   have e2 := gch2 p.exp p.stages p.needed p.hold p.level p.health hpz
   refine acall [2] (by kernel_rfl) e1 rfl ?_ ?_
   ·trivial
   conv=>whnf
   refine acall [2] (by kernel_rfl) e2 rfl ?_ ?_
   ·trivial
   conv=>whnf
   exact aret [] (congrArg Value.bool (by simp))
  conv=>whnf
  have hlp : 0 < p.health.length := by simp at h8; omega
  have hil : a % p.health.length < p.health.length := Nat.mod_lt _ hlp
  (refine adraw pln3 [] (by kernel_rfl) ?_; conv=>whnf)
  refine AAr.i64 (by omega) ?_
  conv=>whnf
  refine VReq.mk (by (try simp only [List.length_map, ne_eq]); omega) ?_
  conv=>whnf
  refine AIn.mk' (a % p.health.length) (by first | rfl | (rw [List.length_map]; rfl)) (by first | exact hil | (rw [List.length_map]; exact hil)) ?_
  conv=>whnf
  refine VReq.mk (by decide) ?_
  conv=>whnf
  rw [hcc]
  conv=>whnf
  have hg := List.getElem?_eq_getElem hil
  have hxm := hpz.m _ (List.getElem_mem hil)
  have hxr := (hp.all _ (List.getElem_mem hil)).r
  generalize p.health[a % p.health.length] = x at *
  generalize a % p.health.length = i at *
  repeat' (first
   | (refine And.intro ?_ ?_ <;> (conv=>whnf))
   | (refine adraw pln3 [] (by kernel_rfl) ?_; conv=>whnf; done)
   | (refine ARd.mapAt hg ?_; conv=>whnf)
   | (refine ARd.set (lmZ hil) ?_; conv=>whnf)
   | (refine AAr.i64 (by omega) ?_; conv=>whnf))
  have e1 := gch1 p.exp p.stages p.needed p.hold p.level (p.health.set i ⟨x.m, m, x.hi⟩) (setZ hpz i _ hxm.1 hxm.2)
  have e2 := gch2 p.exp p.stages p.needed p.hold p.level (p.health.set i ⟨x.m, m, x.hi⟩) (setZ hpz i _ hxm.1 hxm.2)
  refine adraw pln3 [2] (by kernel_rfl) ?_
  conv=>whnf
  refine acall [2] (by kernel_rfl) e1 rfl ?_ ?_
  ·refine ⟨⟨rfl, rfl, rfl, rfl, rfl, ?_, trivial⟩, trivial⟩
   conv=>whnf
   exact ⟨rfl, rfl, by first | exact mset _ _ _ _ rfl | exact mset2 _ _ _ _ _ rfl⟩
  conv=>whnf
  refine acall [2] (by kernel_rfl) e2 rfl ?_ ?_
  ·refine ⟨⟨rfl, rfl, rfl, rfl, rfl, ?_, trivial⟩, trivial⟩
   conv=>whnf
   exact ⟨rfl, rfl, by first | exact mset _ _ _ _ rfl | exact mset2 _ _ _ _ _ rfl⟩
  conv=>whnf
  exact aret [] (congrArg Value.bool (by simp))
 ·skip
  conv=>whnf
  refine vif_split (fun h8 => ?_) (fun h8 => ?_)
  rotate_left 1
  ·conv=>whnf
   refine adraw pln3 [2] (by kernel_rfl) ?_
   conv=>whnf
   have e1 := gch1 p.exp p.stages p.needed p.hold p.level p.health hpz
   have e2 := gch2 p.exp p.stages p.needed p.hold p.level p.health hpz
   refine acall [2] (by kernel_rfl) e1 rfl ?_ ?_
   ·trivial
   conv=>whnf
   refine acall [2] (by kernel_rfl) e2 rfl ?_ ?_
   ·trivial
   conv=>whnf
   exact aret [] (congrArg Value.bool (by simp))
  conv=>whnf
  have hlp : 0 < p.health.length := by simp at h8; omega
  have hil : a % p.health.length < p.health.length := Nat.mod_lt _ hlp
  (refine adraw pln3 [] (by kernel_rfl) ?_; conv=>whnf)
  refine AAr.i64 (by omega) ?_
  conv=>whnf
  refine VReq.mk (by (try simp only [List.length_map, ne_eq]); omega) ?_
  conv=>whnf
  refine AIn.mk' (a % p.health.length) (by first | rfl | (rw [List.length_map]; rfl)) (by first | exact hil | (rw [List.length_map]; exact hil)) ?_
  conv=>whnf
  refine VReq.mk (by decide) ?_
  conv=>whnf
  rw [hcc]
  conv=>whnf
  have hg := List.getElem?_eq_getElem hil
  have hxm := hpz.m _ (List.getElem_mem hil)
  have hxr := (hp.all _ (List.getElem_mem hil)).r
  generalize p.health[a % p.health.length] = x at *
  generalize a % p.health.length = i at *
  repeat' (first
   | (refine And.intro ?_ ?_ <;> (conv=>whnf))
   | (refine adraw pln3 [] (by kernel_rfl) ?_; conv=>whnf; done)
   | (refine ARd.mapAt hg ?_; conv=>whnf)
   | (refine ARd.set (lmZ hil) ?_; conv=>whnf)
   | (refine AAr.i64 (by omega) ?_; conv=>whnf))
  have e1 := gch1 p.exp p.stages p.needed p.hold p.level (p.health.set i ⟨x.m, x.lo, m⟩) (setZ hpz i _ hxm.1 hxm.2)
  have e2 := gch2 p.exp p.stages p.needed p.hold p.level (p.health.set i ⟨x.m, x.lo, m⟩) (setZ hpz i _ hxm.1 hxm.2)
  refine adraw pln3 [2] (by kernel_rfl) ?_
  conv=>whnf
  refine acall [2] (by kernel_rfl) e1 rfl ?_ ?_
  ·refine ⟨⟨rfl, rfl, rfl, rfl, rfl, ?_, trivial⟩, trivial⟩
   conv=>whnf
   exact ⟨rfl, rfl, by first | exact mset _ _ _ _ rfl | exact mset2 _ _ _ _ _ rfl⟩
  conv=>whnf
  refine acall [2] (by kernel_rfl) e2 rfl ?_ ?_
  ·refine ⟨⟨rfl, rfl, rfl, rfl, rfl, ?_, trivial⟩, trivial⟩
   conv=>whnf
   exact ⟨rfl, rfl, by first | exact mset _ _ _ _ rfl | exact mset2 _ _ _ _ _ rfl⟩
  conv=>whnf
  exact aret [] (congrArg Value.bool (by simp))
 ·skip
  conv=>whnf
  refine vif_split (fun h8 => ?_) (fun h8 => ?_)
  rotate_left 1
  ·conv=>whnf
   refine adraw pln3 [2] (by kernel_rfl) ?_
   conv=>whnf
   have e1 := gch1 p.exp p.stages p.needed p.hold p.level p.health hpz
   have e2 := gch2 p.exp p.stages p.needed p.hold p.level p.health hpz
   refine acall [2] (by kernel_rfl) e1 rfl ?_ ?_
   ·trivial
   conv=>whnf
   refine acall [2] (by kernel_rfl) e2 rfl ?_ ?_
   ·trivial
   conv=>whnf
   exact aret [] (congrArg Value.bool (by simp))
  conv=>whnf
  have hlp : 0 < p.health.length := by simp at h8; omega
  have hil : a % p.health.length < p.health.length := Nat.mod_lt _ hlp
  (refine adraw pln3 [] (by kernel_rfl) ?_; conv=>whnf)
  refine AAr.i64 (by omega) ?_
  conv=>whnf
  refine VReq.mk (by (try simp only [List.length_map, ne_eq]); omega) ?_
  conv=>whnf
  refine AIn.mk' (a % p.health.length) (by first | rfl | (rw [List.length_map]; rfl)) (by first | exact hil | (rw [List.length_map]; exact hil)) ?_
  conv=>whnf
  refine VReq.mk (by decide) ?_
  conv=>whnf
  rw [hcc]
  conv=>whnf
  have hg := List.getElem?_eq_getElem hil
  have hxm := hpz.m _ (List.getElem_mem hil)
  have hxr := (hp.all _ (List.getElem_mem hil)).r
  generalize p.health[a % p.health.length] = x at *
  generalize a % p.health.length = i at *
  refine adraw pl35 [2] (by kernel_rfl) ?_
  conv=>whnf
  repeat' (first
   | (refine And.intro ?_ ?_ <;> (conv=>whnf))
   | (refine ARd.mapAt hg ?_; conv=>whnf)
   | (refine ARd.set (lmZ hil) ?_; conv=>whnf)
   | (refine AAr.i64 (by omega) ?_; conv=>whnf))
  all_goals
   have e1 := gch1 p.exp p.stages p.needed p.hold p.level (p.health.set i ⟨x.m, x.hi + 1, x.lo⟩) (setZ hpz i _ hxm.1 hxm.2)
   have e2 := gch2 p.exp p.stages p.needed p.hold p.level (p.health.set i ⟨x.m, x.hi + 1, x.lo⟩) (setZ hpz i _ hxm.1 hxm.2)
   refine adraw pln3 [2] (by kernel_rfl) ?_
   conv=>whnf
   refine acall [2] (by kernel_rfl) e1 rfl ?_ ?_
   ·refine ⟨⟨rfl, rfl, rfl, rfl, rfl, ?_, trivial⟩, trivial⟩
    conv=>whnf
    exact ⟨rfl, rfl, by first | exact mset _ _ _ _ rfl | exact mset2 _ _ _ _ _ rfl⟩
   conv=>whnf
   refine acall [2] (by kernel_rfl) e2 rfl ?_ ?_
   ·refine ⟨⟨rfl, rfl, rfl, rfl, rfl, ?_, trivial⟩, trivial⟩
    conv=>whnf
    exact ⟨rfl, rfl, by first | exact mset _ _ _ _ rfl | exact mset2 _ _ _ _ _ rfl⟩
   conv=>whnf
   exact aret [] (congrArg Value.bool (by simp))
 ·skip
  conv=>whnf
  refine vif_split (fun h8 => ?_) (fun h8 => ?_)
  rotate_left 1
  ·conv=>whnf
   refine adraw pln3 [2] (by kernel_rfl) ?_
   conv=>whnf
   have e1 := gch1 p.exp p.stages p.needed p.hold p.level p.health hpz
   have e2 := gch2 p.exp p.stages p.needed p.hold p.level p.health hpz
   refine acall [2] (by kernel_rfl) e1 rfl ?_ ?_
   ·trivial
   conv=>whnf
   refine acall [2] (by kernel_rfl) e2 rfl ?_ ?_
   ·trivial
   conv=>whnf
   exact aret [] (congrArg Value.bool (by simp))
  conv=>whnf
  have hlp : 0 < p.health.length := by simp at h8; omega
  have hil : a % p.health.length < p.health.length := Nat.mod_lt _ hlp
  (refine adraw pln3 [] (by kernel_rfl) ?_; conv=>whnf)
  refine AAr.i64 (by omega) ?_
  conv=>whnf
  refine VReq.mk (by (try simp only [List.length_map, ne_eq]); omega) ?_
  conv=>whnf
  refine AIn.mk' (a % p.health.length) (by first | rfl | (rw [List.length_map]; rfl)) (by first | exact hil | (rw [List.length_map]; exact hil)) ?_
  conv=>whnf
  refine VReq.mk (by decide) ?_
  conv=>whnf
  rw [hcc]
  conv=>whnf
  have hg := List.getElem?_eq_getElem hil
  have hxm := hpz.m _ (List.getElem_mem hil)
  have hxr := (hp.all _ (List.getElem_mem hil)).r
  generalize p.health[a % p.health.length] = x at *
  generalize a % p.health.length = i at *
  repeat' (first
   | (refine And.intro ?_ ?_ <;> (conv=>whnf))
   | (refine adraw pln3 [] (by kernel_rfl) ?_; conv=>whnf; done)
   | (refine ARd.mapAt hg ?_; conv=>whnf)
   | (refine ARd.set (lmZ hil) ?_; conv=>whnf)
   | (refine AAr.i64 (by omega) ?_; conv=>whnf))
  have e1 := gch1 p.exp p.stages p.needed p.hold p.level (p.health.set i ⟨⟨x.m.kind, s, x.m.below, x.m.window, x.m.cap, x.m.least, x.m.before⟩, x.lo, x.hi⟩) (setZ hpz i _ (by show s.length ≤ _; omega) hxm.2)
  have e2 := gch2 p.exp p.stages p.needed p.hold p.level (p.health.set i ⟨⟨x.m.kind, s, x.m.below, x.m.window, x.m.cap, x.m.least, x.m.before⟩, x.lo, x.hi⟩) (setZ hpz i _ (by show s.length ≤ _; omega) hxm.2)
  refine adraw pln3 [2] (by kernel_rfl) ?_
  conv=>whnf
  refine acall [2] (by kernel_rfl) e1 rfl ?_ ?_
  ·refine ⟨⟨rfl, rfl, rfl, rfl, rfl, ?_, trivial⟩, trivial⟩
   conv=>whnf
   exact ⟨rfl, rfl, by first | exact mset _ _ _ _ rfl | exact mset2 _ _ _ _ _ rfl⟩
  conv=>whnf
  refine acall [2] (by kernel_rfl) e2 rfl ?_ ?_
  ·refine ⟨⟨rfl, rfl, rfl, rfl, rfl, ?_, trivial⟩, trivial⟩
   conv=>whnf
   exact ⟨rfl, rfl, by first | exact mset _ _ _ _ rfl | exact mset2 _ _ _ _ _ rfl⟩
  conv=>whnf
  exact aret [] (congrArg Value.bool (by simp))
end
end Go.Proofs.YtgfgndaoocfpdaaGreatDoor.Cl
