/- Joined parts of the proof. The walks of the reference's New, of the laws' empty disk and of the chapter's example; the laws of Sectors and of long  -/
import Derived.Test.YtocckceefcmeaaaGreatDoorPk19
import Derived.Test.YtocckceefcmeaaaGreatDoorCards
import Derived.Test.YtocckceefcmeaaaGreatDoorTie
import Derived.Test.YtocckceefcmeaaaGreatDoorPk11
import Derived.ProofKit
import Derived.SevenTiedAt
set_option linter.unusedVariables false
set_option linter.unusedSimpArgs false
set_option maxRecDepth 100000
set_option maxHeartbeats 16000000
namespace Go.Proofs.YtocckceefcmeaaaGreatDoor.Cl
open Go Go.RowKit Go.Proofs Go.Proofs.YtocckceefcmeaaaGreatDoor.Vc Go.Proofs.YtocckceefcmeaaaGreatDoor.Ax Go.Proofs.YtocckceefcmeaaaGreatDoor.Ky
attribute [local irreducible] loadVar storeVar Instr.indexAt Instr.index Instr.sliceAt Instr.makeSlice Instr.lookup Instr.mapUpdate Instr.range Instr.next Instr.entry Instr.makeMap Builtin.append_ Builtin.copy_ Builtin.len_ Builtin.min_ Builtin.max_ Builtin.cap_ Builtin.delete_ Builtin.clear_ convert binOp eqGuard Op.unary Calls
def z64 : By := List.replicate 64 0
def dk0 (n : Nat) : Dk := ⟨List.replicate n z64, List.replicate n z64, -1, 0, false⟩
theorem s64_rep (n : Nat) : s64 (List.replicate n z64) := fun s hs => by rw [(List.mem_replicate.1 hs).2]; rfl
theorem dk0_ok {n : Nat} (h1 : n % 2 = 0) (h2 : 8 ≤ n) (h3 : n ≤ 256) : (dk0 n).ok := by
 refine ⟨?_, ?_, ?_, rfl, ⟨Int.le_refl (-1), by show (-1 : Int) ≤ 9223372036854775807; decide⟩, ⟨Int.le_refl 0, by show (0 : Int) ≤ 4611686018427387904; decide⟩, s64_rep n, s64_rep n⟩ <;> simp [dk0] <;> omega
theorem rep_snoc {α : Type} (n : Nat) (a : α) : List.replicate (n + 1) a = List.replicate n a ++ [a] := List.replicate_succ'
theorem newDA (n : Nat) (h1 : n % 2 = 0) (h2 : 8 ≤ n) (h3 : n ≤ 256) : AFn Tryz.prog GS 46 [iv n] 0 [] (Is (.tup [dkA (dk0 n), iv 0])) := by
 have hm : ((n : Int)).tmod 2 = ((n % 2 : Nat) : Int) := rfl
 refine afn_of Tryz.func46 rfl mixed (by kernel_rfl) ?_
 conv=>whnf
 apply vif_split <;> intro h
 ·exfalso; simp at h; omega
 conv=>whnf
 apply vif_split <;> intro h
 ·exfalso; simp at h; omega
 conv=>whnf
 refine VReq.mk (by decide) ?_
 rw [hm, h1]
 conv=>whnf
 refine aloop ws46_1 4 [5] (fun i : Nat => [(5, iv i)]) (fun i => [(0, .var 40 [.v (.slice none 0 0), .v (.slice none 0 0), iv 0, iv 0, bv false]), (1, .var 40 [.own 2, .own 3, iv (-1), iv 0, bv false]), (2, .rows 22 1 ((List.replicate i z64).map enS)), (3, .rows 22 1 ((List.replicate i z64).map enS))]) (fun i => i ≤ n) (fun i => n - i) [(2, .nil), (3, .nil)] [] 0 (by kernel_rfl) (fun _ => rfl) rfl (Nat.zero_le _) (by trivial) (by trivial) ?_
 intro i hi
 conv=>whnf
 apply vif_split <;> intro h
 rotate_left 1
 ·have hie : i = n := by simp at h; omega
  subst hie
  conv=>whnf
  exact aret [2, 3] (by trivial)
 have hlt : i < n := by simp at h; omega
 conv=>whnf
 (refine adraw pln46 [2, 4, 5] (by kernel_rfl) ?_; conv=>whnf)
 refine AMk.mk' 64 rfl rfl ⟨by decide, by decide⟩ ?_
 conv=>whnf
 refine VReq.mk (app_ok (by simp only [List.length_map, List.length_replicate, List.length_cons, List.length_nil]; omega) (by kernel_rfl)) ?_
 conv=>whnf
 (refine adraw pln46 [3, 7, 8] (by kernel_rfl) ?_; conv=>whnf)
 refine AMk.mk' 64 rfl rfl ⟨by decide, by decide⟩ ?_
 conv=>whnf
 refine VReq.mk (app_ok (by simp only [List.length_map, List.length_replicate, List.length_cons, List.length_nil]; omega) (by kernel_rfl)) ?_
 conv=>whnf
 refine AAr.i64 (by omega) ?_
 conv=>whnf
 have e : ∀ i, List.map enS (List.replicate (i + 1) z64) = List.map enS (List.replicate i z64) ++ [[FV.lst 1 (List.replicate 64 [FV.v (Value.int .u8 0)])]] := fun i => by rw [rep_snoc, List.map_append]; rfl
 refine aback (i + 1) [(2, .lab 6), (3, .lab 9)] [] rfl (by show n - (i + 1) < n - i; omega) hlt ?_ ⟨rfl, trivial⟩
 simp only [e]
 trivial
theorem emptyA (k : Nat) (hk : k < 256) : AFn Tryz.prog GS 17 [u8v k] 0 [] (Is (dkA (dk0 (8 + 2 * k % 60)))) := by
 have hm : ((2 * k : Nat) : Int).tmod 60 = ((2 * k % 60 : Nat) : Int) := rfl
 refine afn_of Tryz.func17 rfl mixed (by kernel_rfl) ?_
 conv=>whnf
 refine AAr.i64 (by omega) ?_
 conv=>whnf
 refine AAr.to (y := ((2 * k : Nat) : Int)) (by rw [IntWalk.i64_in _ (by omega)]; omega) ?_
 conv=>whnf
 refine VReq.mk (by decide) ?_
 rw [hm]
 conv=>whnf
 refine AAr.to (y := ((8 + 2 * k % 60 : Nat) : Int)) (by rw [IntWalk.i64_in _ (by omega)]; omega) ?_
 conv=>whnf
 refine acallF [] (by kernel_rfl) (newDA (8 + 2 * k % 60) (by omega) (by omega) (by omega)) (by trivial) ?_
 rintro _ _ _ ⟨rfl, rfl, rfl⟩
 conv=>whnf
 exact aret [] (by trivial)
theorem rOk_z : rOk z64 = false := by
 have h : hG z64 = 0 := by decide
 unfold rOk
 rw [h]; simp
theorem nxt_z (n : Nat) : nxt (List.replicate n z64) = nxZ := by
 cases n with
 | zero => rfl
 | succ n => exact nxt_bad (by simp) (by simp [rOk_z])
theorem isL_z (n : Nat) : isL (List.replicate n z64) = false := by rw [isL_def, nxt_z]; rfl
theorem grt_z (n : Nat) : grt 0 (List.replicate n z64) = 0 := by
 induction n with
 | zero => rfl
 | succ n ih =>
  unfold grt at ih ⊢
  rw [List.replicate_succ, List.foldl_cons, rOk_z]
  exact ih
theorem tab_nil : tab [] = [0] := by decide
theorem opn_new {n : Nat} (h2 : 8 ≤ n) : ∃ d : Dk, opnT (dk0 n) = (⟨d, 1, 0, 1, 1, []⟩, 0) ∧ d.ops = 2 := by
 have hl : (dk0 n).now.length = n := by simp [dk0]
 have e1 : hlf ((dk0 n).now.take ((dk0 n).now.length / 2)) ((dk0 n).now.drop ((dk0 n).now.length / 2)) = (1, []) := by
  have ta : (dk0 n).now.take ((dk0 n).now.length / 2) = List.replicate (n / 2) z64 := by
   rw [hl]; show (List.replicate n z64).take (n / 2) = _
   rw [List.take_replicate, Nat.min_eq_left (by omega)]
  have tb : (dk0 n).now.drop ((dk0 n).now.length / 2) = List.replicate (n - n / 2) z64 := by
   rw [hl]; show (List.replicate n z64).drop (n / 2) = _
   rw [List.drop_replicate]
  rw [ta, tb]
  unfold hlf
  rw [isL_z, isL_z]
  rfl
 have e2 : opnT (dk0 n) = cmpT ⟨dk0 n, 0, 1, 0, 0, []⟩ := by
  unfold opnT
  rw [if_neg (show ¬ ((dk0 n).dead = true) by show ¬ (false = true); decide), e1]
 have e3 : grt 0 (dk0 n).now = 0 := grt_z n
 have e4 : nS (tab []) = 1 := by rw [tab_nil]; decide
 have e5 : scE 1 0 (tab []) = 0 := by rw [tab_nil]; decide
 have e6 : scL 1 0 (tab []) = [sec 1 0 0 1 (prt (tab []) 0)] := by
  unfold scL; rw [if_pos e5]; unfold secs secA; rw [e4]; rfl
 refine ⟨((dk0 n).put 0 (sec 1 0 0 1 (prt (tab []) 0))).flush, ?_, rfl⟩
 rw [e2]
 have hc := cmpT_go (s := ⟨dk0 n, 0, 1, 0, 0, []⟩) (d := ((dk0 n).put 0 (sec 1 0 0 1 (prt (tab []) 0))).flush) (e := 0) (by
  simp only [e3, hl, e4]
  rw [show (0 : Int) + 1 = 1 from rfl, e5]
  omega) (by
  simp only [e3]
  rw [show (0 : Int) + 1 = 1 from rfl, e6]
  show dWr (dk0 n) (0 * _) _ = _
  rw [Nat.zero_mul]
  rfl)
 rw [hc]
 simp only [e3, e4]
 rfl
theorem sawakeA : AFn Tryz.prog GS 9 [] 0 [] (Is (bv true)) := by
 have hO := openSA (dk0 8) (dk0_ok (by decide) (by decide) (by decide))
 obtain ⟨d, e1, e2⟩ := opn_new (n := 8) (by decide)
 rw [e1] at hO
 obtain ⟨now, safe, fuse, ops, dead⟩ := d
 simp only at e2
 subst e2
 refine afn_of Tryz.func9 rfl mixed (by kernel_rfl) ?_
 conv=>whnf
 refine acallF [] (by kernel_rfl) (emptyA 0 (by decide)) (by trivial) ?_
 rintro _ _ _ ⟨rfl, rfl, rfl⟩
 conv=>whnf
 refine acallF [] (by kernel_rfl) hO (by trivial) ?_
 rintro _ _ _ ⟨rfl, rfl, rfl⟩
 conv=>whnf
 exact aret [] rfl
section
attribute [local irreducible] num hsh byt rOk
theorem lit4 {a b c d : Int} {i : Nat} (hi : i < 4) (P : Int → Prop) (ha : P a) (hb : P b) (hc : P c) (hd : P d) : ∃ g, P g ∧ ([[iF a], [iF b], [iF c], [iF d]] : List (List FV))[i]? = some [iF g] := by
 match i, hi with
 | 0, _ => exact ⟨a, ha, rfl⟩
 | 1, _ => exact ⟨b, hb, rfl⟩
 | 2, _ => exact ⟨c, hc, rfl⟩
 | 3, _ => exact ⟨d, hd, rfl⟩
theorem lawSectorsA (gen frame : Int) (small : Nat) (b : By) (hg : I64 gen) (hf : I64 frame) (hs : small < 256) : AFn Tryz.prog GS 3 [iv gen, iv frame, u8v small, bs b] 0 [] (Is (bv true)) := by
 refine afn_of Tryz.func3 rfl mixed (by kernel_rfl) ?_
 conv=>whnf
 (refine acall [] (by kernel_rfl) (sawakeA) rfl ?_ ?_; (focus trivial))
 conv=>whnf
 apply vif_split <;> intro h
 ·conv=>whnf
  exact aret [] rfl
 have hbl : b.length ≤ 2000 := by rw [List.length_map] at h; simp at h; omega
 conv=>whnf
 refine aloopH ws3_1 [9] (fun i : Nat => [(9, iv i)]) (fun i => i ≤ 4) (fun i => 4 - i) 0 (by kernel_rfl) (fun _ => rfl) (by kernel_rfl) (Nat.zero_le _) (by trivial) (by trivial) ?_
 intro i hi
 conv=>whnf
 apply vif_split <;> intro h
 rotate_left 1
 ·conv=>whnf
  exact aret [] rfl
 have hlt : i < 4 := by simp at h; omega
 conv=>whnf
 refine AAr.i64 (by omega) ?_
 conv=>whnf
 refine AAr.i64 (by omega) ?_
 conv=>whnf
 refine AIn.mk' i rfl hlt ?_
 conv=>whnf
 obtain ⟨g, hgi, hgl⟩ := lit4 (a := gen) (b := 1 + (small : Int)) (c := 4294967295) (d := 4294967296) hlt I64 hg (by unfold I64; omega) (by unfold I64; omega) (by unfold I64; omega)
 refine ARd.at hgl ?_
 conv=>whnf
 refine AAr.i64 (by omega) ?_
 conv=>whnf
 refine AIn.mk' i rfl hlt ?_
 conv=>whnf
 obtain ⟨f, hfi, hfl⟩ := lit4 (a := frame) (b := (small : Int)) (c := 65535) (d := 0) hlt I64 hf (by unfold I64; omega) (by unfold I64; omega) (by unfold I64; omega)
 refine ARd.at hfl ?_
 conv=>whnf
 refine acallF [] (by kernel_rfl) (sectorsA GS g f b (by omega)) (by trivial) ?_
 rintro _ _ _ ⟨rfl, rfl, rfl⟩
 conv=>whnf
 refine acallF [] (by kernel_rfl) (sectors2A GS g f b (by omega)) (by trivial) ?_
 rintro _ _ _ ⟨rfl, rfl, rfl⟩
 have hn2 : (scL g f b).length ≤ 1000 ∧ (scE g f b = 0 → IsF (scL g f b) g.toNat f.toNat b ∧ ((g.toNat : Nat) : Int) = g ∧ ((f.toNat : Nat) : Int) = f) := by
  by_cases he : scE g f b = 0
  ·have h5 := scE_0 he
   have e1 : ((g.toNat : Nat) : Int) = g := by omega
   have e2 : ((f.toNat : Nat) : Int) = f := by omega
   refine ⟨by rw [(scL_len he).1]; omega, fun _ => ⟨⟨by rw [e1, e2]; exact he, by unfold scL; rw [if_pos he]⟩, e1, e2⟩⟩
  ·have : scL g f b = [] := by unfold scL; rw [if_neg he]
   rw [this]
   exact ⟨Nat.zero_le _, fun h => absurd h he⟩
 conv=>whnf
 apply vif_split <;> intro h
 ·exfalso; simp at h
 conv=>whnf
 (refine acall [] (by kernel_rfl) (sameSecA GS (scL g f b) (scL g f b) (by omega)) rfl ?_ ?_; (focus trivial))
 conv=>whnf
 apply vif_split <;> intro h
 ·exfalso; simp at h
 conv=>whnf
 apply vif_split <;> intro h
 ·conv=>whnf
  refine AAr.i64 (by omega) ?_
  conv=>whnf
  exact aback (i + 1) [] [] rfl (by show 4 - (i + 1) < 4 - i; omega) hlt (by trivial) ⟨rfl, trivial⟩
 have he : scE g f b = 0 := by simpa using h
 obtain ⟨hIs, eg, ef⟩ := hn2.2 he
 have hB := bytesA GS (scL g f b) hn2.1
 rw [bytV_of hIs, eg, ef] at hB
 conv=>whnf
 refine acallF [] (by kernel_rfl) hB (by trivial) ?_
 rintro _ _ _ ⟨rfl, rfl, rfl⟩
 conv=>whnf
 apply vif_split <;> intro h
 ·exfalso; simp at h
 conv=>whnf
 apply vif_split <;> intro h
 ·exfalso; simp at h
 conv=>whnf
 refine ABy.of ?_
 conv=>whnf
 refine ABy.of ?_
 conv=>whnf
 apply vif_split <;> intro h
 ·exfalso; rw [sEq_tx] at h; simp at h
 conv=>whnf
 refine AAr.i64 (by omega) ?_
 conv=>whnf
 exact aback (i + 1) [] [] rfl (by show 4 - (i + 1) < 4 - i; omega) hlt (by trivial) ⟨rfl, trivial⟩
theorem num3 {n : Nat} (h : n < 8) : (num ((12234 + n : Nat) : Int)).length = 3 := by
 match n, h with
 | 0, _ => decide +kernel
 | 1, _ => decide +kernel
 | 2, _ => decide +kernel
 | 3, _ => decide +kernel
 | 4, _ => decide +kernel
 | 5, _ => decide +kernel
 | 6, _ => decide +kernel
 | 7, _ => decide +kernel
def flT (c : UInt8) (z i : Nat) : By := List.replicate i c ++ List.replicate (z - i) 0
theorem flT_zero (c : UInt8) (z : Nat) : flT c z 0 = List.replicate z 0 := by simp [flT]
theorem flT_all (c : UInt8) (z : Nat) : flT c z z = List.replicate z c := by simp [flT]
theorem flT_len {c : UInt8} {z i : Nat} (h : i ≤ z) : (flT c z i).length = z := by simp [flT]; omega
theorem flT_set {c : UInt8} {z i : Nat} (h : i < z) : (flT c z i).set i c = flT c z (i + 1) := by
 unfold flT
 rw [List.set_append_right _ _ (by simp), List.length_replicate, Nat.sub_self, show z - i = (z - (i + 1)) + 1 by omega, List.replicate_succ, List.set_cons_zero, rep_snoc, List.append_assoc]
 rfl
theorem nS_long {b : By} {n : Nat} (hn : n < 8) (h : b.length = 12234 + n) : nS b = if 12237 < b.length then 256 else 255 := by
 have h3 := num3 hn
 have hd : (dat b).length = 3 + b.length := by unfold dat; rw [List.length_append, h, h3]
 unfold nS
 rw [hd]
 split <;> omega
theorem lawLongA (n : Nat) (c : UInt8) (hn : n < 65536) : AFn Tryz.prog GS 4 [.v (.int .u16 n), u8v c.toNat] 0 [] (Is (bv true)) := by
 have hm : ((n : Int)).tmod 8 = ((n % 8 : Nat) : Int) := rfl
 have hn8 : n % 8 < 8 := Nat.mod_lt _ (by decide)
 refine afn_of Tryz.func4 rfl mixed (by kernel_rfl) ?_
 conv=>whnf
 (refine acall [] (by kernel_rfl) (sawakeA) rfl ?_ ?_; (focus trivial))
 conv=>whnf
 refine AAr.i64 (by omega) ?_
 conv=>whnf
 refine VReq.mk (by decide) ?_
 rw [hm]
 conv=>whnf
 refine AAr.i64 (by omega) ?_
 conv=>whnf
 obtain ⟨z, hz⟩ : ∃ z : Nat, z = 12234 + n % 8 := ⟨_, rfl⟩
 refine AAr.to (y := (z : Int)) (by rw [IntWalk.i64_in _ (by omega)]; omega) ?_
 conv=>whnf
 refine AMk.mk' z rfl rfl ⟨by show 1 * z ≤ _; omega, by unfold maxLen; omega⟩ ?_
 conv=>whnf
 refine aloop ws4_1 1 [7] (fun i : Nat => [(7, iv i)]) (fun i => [(0, .rows 5 1 ((flT c z i).map enB))]) (fun i => i ≤ z) (fun i => z - i) [] [] 0 (by kernel_rfl) (fun _ => rfl) rfl (Nat.zero_le _) ⟨⟨rfl, rfl, by rw [flT_zero, List.map_replicate]; rfl⟩, trivial⟩ ⟨rfl, trivial⟩ ?_
 intro i hi
 conv=>whnf
 apply vif_split <;> intro h
 ·have hlt : i < z := by simp at h; omega
  conv=>whnf
  refine AIn.mk' i rfl (by rw [List.length_map, flT_len hi]; exact hlt) ?_
  conv=>whnf
  refine ARd.map (by rw [flT_len hi]; exact hlt) ?_
  conv=>whnf
  refine AAr.i64 (by omega) ?_
  conv=>whnf
  refine aback (i + 1) [] [] rfl (by show z - (i + 1) < z - i; omega) hlt ⟨⟨rfl, rfl, ?_⟩, trivial⟩ ⟨rfl, trivial⟩
  rw [← flT_set hlt, List.map_set]; rfl
 have hie : i = z := by simp at h; omega
 subst hie
 rw [flT_all]
 have hbl : (List.replicate i c).length = i := List.length_replicate
 have hnS := nS_long (b := List.replicate i c) hn8 (by rw [hbl]; exact hz)
 rw [hbl] at hnS
 have hS := sectorsA GS 1 0 (List.replicate i c) (by rw [hbl]; omega)
 generalize List.replicate i c = b at *
 conv=>whnf
 refine acallF [0] (by kernel_rfl) hS (by trivial) ?_
 rintro _ _ _ ⟨rfl, rfl, rfl⟩
 conv=>whnf
 apply vif_split <;> intro h
 ·have hg : 12237 < i := by simp at h; omega
  rw [if_pos hg] at hnS
  obtain ⟨q1, q2⟩ := scE_4 (g := 1) (f := 0) (b := b) (by omega) (by omega)
  rw [q1, q2]
  conv=>whnf
  exact aret [] rfl
 ·have hg : ¬ 12237 < i := by simp at h; omega
  rw [if_neg hg] at hnS
  obtain ⟨q1, _⟩ := scE_ok (g := 1) (f := 0) (b := b) (by omega) (by omega)
  obtain ⟨q2, _⟩ := scL_len q1
  rw [hnS] at q2
  rw [q1]
  conv=>whnf
  exact aret [] (congrArg Value.bool (by rw [List.length_map, q2]; rfl))
theorem lawLongN (n c : Nat) (hn : n < 65536) (hc : c < 256) : AFn Tryz.prog GS 4 [.v (.int .u16 n), u8v c] 0 [] (Is (bv true)) := by
 have h := lawLongA n (UInt8.ofNat c) hn
 rwa [toNat_ofNat hc] at h
end
end Go.Proofs.YtocckceefcmeaaaGreatDoor.Cl
namespace Go.Proofs.YtocckceefcmeaaaGreatDoor
open Go Go.RowKit Go.ChangeShapes Go.WideShapes Go.ChangeAt Go.Proofs.YtocckceefcmeaaaGreatDoor.Vc
theorem storeLong_own : ownKnob Tryz.prog.godebug = none := by kernel_rfl
theorem storeLong_laid : laidOutB Tryz.prog = true := by kernel_rfl
theorem storeLong_rd : (Tryz.f4.params.toList.all fun t => Tryz.prog.readableRec t && Nat.blt t Tryz.prog.types.size) = true := by kernel_rfl
theorem storeLong_met (os : Os) (args : Array Value) : laidMetH Tryz.prog Rows.storeLongRow.laid ((World.doorLaid Tryz.prog 400 os).forCall (fun _ _ => 0) ⟨#[], args, []⟩).memory :=
 laidMetH_of_parts3 (fuel := 8) (laidMet_of_run' 8 (by kernel_rfl) (by kernel_rfl)) (by kernel_rfl) (by kernel_rfl)
theorem storeLong_lifted (os : Os) (started : os.Started) (H : Type) (enc : TypeId × Value → H) :
  ReturnsInHanded {} Tryz.checked os 4 .any (fun w args => (Rows.storeLongSpec.pre enc Tryz.prog Tryz.f4 [] false w args ∧ laidMetH Tryz.prog Rows.storeLongRow.laid w) ∧ sizedMet enc Tryz.prog Tryz.f4 (OpenSpec.ofChange Rows.storeLongSpec) false w args)
   (Rows.storeLongSpec.post enc Tryz.prog Tryz.f4 false true false false) := by
 refine returnsInHanded_of_change_and (C := Tryz.checked) (X := fun w _ => laidMetH Tryz.prog Rows.storeLongRow.laid w) (fun _ _ _ hh h => h.of_heap hh) storeLong_own started (by kernel_rfl) Tryz.func4
  (ChangeSpec.witness_shaped (enc := enc) (C := Tryz.checked) (os := os) (X := fun w _ => laidMetH Tryz.prog Rows.storeLongRow.laid w) false (World.doorLaid Tryz.prog 400 os) #[.int .u16 0, .int .u8 0] 8 rfl (World.shaped_of_RefB (by kernel_rfl) (by kernel_rfl)) (by kernel_rfl) (by kernel_rfl) (by kernel_rfl) (storeLong_met os _)) ?_
 intro W base args ds gs before hval0 hW _ hwt hL _
 have hval : ∀ (j : Nat) t v, Tryz.f4.params[j]? = some t → args[j]? = some v → Value.okWide Tryz.prog W .any base t v := hval0
 obtain ⟨p, q, hA0, hV, hpq, hfz, hnd⟩ := id hW
 have hA : DataW.TrodAll enc Tryz.prog W 0 (fun _ => true) true Tryz.f4.params.toList args.toList ds p := hA0
 rw [Tryz.params4] at hA hval
 obtain ⟨v0, v1, d0, d1, p0, p1, rfl, rfl, rfl, h0, h1⟩ := trodAll_two hA
 obtain ⟨k0, rfl, _, _, w0⟩ := open_int (k := .u16) rfl (hval 0 33 v0 rfl rfl) h0
 obtain ⟨n0, rfl, b0⟩ := Cl.u16_of w0
 obtain ⟨k1, rfl, _, _, w1⟩ := open_int (k := .u8) rfl (hval 1 5 v1 rfl rfl) h1
 obtain ⟨n1, rfl, b1⟩ := Cl.u8_of w1
 refine Calls.mono (Ax.ret_of_afn (Cl.lawLongN n0 n1 b0 b1) W (Cl.gs_of hL) _ ⟨.v _, .v _, trivial⟩) ?_
 rintro e W' ⟨v, rfl, rfl, hB⟩
 exact ⟨_, rfl, law_post storeLong_laid storeLong_rd rfl rfl rfl (fun ds h => by
  match ds, h with
  | [_, _], _ => rfl) hW hB⟩
theorem storeLong_holds0 : Rows.StoreLongSaid :=
 OpenClaim.holds_of_wide 4 Tryz.f4 rfl rfl rfl rfl rfl rfl rfl ⟨rfl, rfl, rfl, rfl, rfl⟩ rfl rfl rfl rfl rfl (by kernel_rfl) Tryz.func4 (by kernel_rfl)
  (of_decide_eq_true (by kernel_rfl)) (by unfold Func.isWrapper; first | (rw [if_pos (by decide +kernel)]; kernel_rfl) | (rw [if_neg (by decide +kernel)]; exact ⟨rfl, rfl⟩))
  (fun os started H enc _ => storeLong_lifted os started H enc)
theorem storeLong_holds : Rows.StoreLongCardSaid :=
 Claim7.holds_tied_plain_at .later [] Rows.storeLongCard.laidKinds true Rows.storeLongCard.stood.harness false
  storeLong_holds0 (fun _ h => by cases h) (by kernel_rfl) (fun _ h => by cases h) storeLong_row_tie rfl ⟨rfl, rfl⟩ (by kernel_rfl) rfl
  (fun f fn hf hfn => by
   obtain rfl : f = 4 := Option.some.inj ((show Tryz.prog.funcNamed "flagstone/flagstonelaw33.StoreLong" = some 4 by kernel_rfl).symm.trans hf) |>.symm
   obtain rfl : fn = Tryz.f4 := (Option.some.inj (Tryz.func4.symm.trans hfn)).symm
   exact ⟨by kernel_rfl, fun j t ht => by
    have hm : t ∈ Tryz.f4.params.toList := by simpa using Array.mem_of_getElem? ht
    have hall : (Tryz.f4.params.toList.all fun u => !Tryz.prog.wantsStandIn u) = true := by kernel_rfl
    exact (show Tryz.prog.wantsStandIn t = false by simpa using List.all_eq_true.1 hall t hm)⟩)
  (by kernel_rfl)
end Go.Proofs.YtocckceefcmeaaaGreatDoor
