/- Subjects that were drawn. Conditions: what is laid for the draws. -/
import Derived.Test.YthnncehddnfjmaaDoorHd5
set_option linter.unusedVariables false
set_option linter.unusedSimpArgs false
namespace Go.Proofs.YthnncehddnfjmaaDoor.Dw
open Go Go.RowKit Go.Proofs.YthnncehddnfjmaaDoor.Vc Go.Proofs.YthnncehddnfjmaaDoor.Dg Go.Proofs.YthnncehddnfjmaaDoor.Ax Go.Proofs.YthnncehddnfjmaaDoor.Bk
attribute [local irreducible] loadVar storeVar Instr.indexAt Instr.index Instr.sliceAt Instr.makeSlice Instr.lookup Instr.mapUpdate Instr.range Instr.next Instr.entry Instr.makeMap Builtin.append_ Builtin.copy_ Builtin.len_ Builtin.min_ Builtin.max_ Builtin.cap_ Builtin.delete_ Builtin.clear_ convert binOp eqGuard Op.unary Calls
attribute [local irreducible] ofI keyT keyB itT
set_option maxRecDepth 100000 in
theorem keyW {W : World} {L : List UInt8} {at_ : Nat} (hat : at_ ≤ L.length) (hL : L.length ≤ 65536) :
    AFn Tryd.prog (GW W) 61 [.ptr 0 0] 1 [(0, drB L at_)] (fun a m H => (∃ s : ByteArray, a = .v (.string s) ∧ s.size ≤ 100) ∧ Drs L m H) := by
  refine afn_of Tryd.func61 rfl mixedW (by kernel_rfl) ?_
  conv => whnf
  refine acallM [0] [] (by kernel_rfl) (nextW hat hL 10 (by decide) (by decide)) rfl (by repeat' (first | rfl | trivial | apply And.intro)) (by repeat' (first | rfl | trivial | apply And.intro)) ?_
  rintro _ _ _ ⟨⟨x, rfl, hx⟩, rfl, a1, ha1, rfl⟩
  refine ⟨rfl, ?_⟩
  conv => whnf
  refine aar_to (y := (48 : Int) + (x : Int)) (IntWalk.i64_in _ (by omega)) ?_
  conv => whnf
  refine aar_to (w32 _ hx) ?_
  conv => whnf
  refine VReq.mk (by rw [enc_dig _ hx]; show ((1 + 1 : Nat) : Int) ≤ 9223372036854775807; decide) ?_
  conv => whnf
  exact aend (.v (.string (⟨#[107]⟩ ++ Utf8.encode ((48 : Int) + (x : Int))))) 1 [(0, drB L a1)] [] [] ⟨⟨_, rfl, by rw [enc_dig _ hx, show (⟨#[107]⟩ ++ ⟨#[UInt8.ofNat (48 + x)]⟩ : ByteArray) = _ from ba_app [107] [UInt8.ofNat (48 + x)]]; show 2 ≤ 100; decide⟩, rfl, a1, ha1, rfl⟩ rfl (by repeat' (first | rfl | trivial | apply And.intro)) (by repeat' (first | rfl | trivial | apply And.intro))
structure Dcl where
  kd : ByteArray
  nm : ByteArray
  ty : Int
def enD (d : Dcl) : List FV := [.v (.string d.kd), .v (.string d.nm), .v (.int .i64 d.ty)]
def devT : ByteArray := ⟨#[100, 101, 118, 105, 99, 101]⟩
def usrT : ByteArray := ⟨#[117, 115, 101, 114]⟩
def dcl : List Dcl := [⟨devT, ⟨#[99, 111, 114, 101, 115]⟩, 2⟩, ⟨devT, ⟨#[111, 115]⟩, 3⟩, ⟨usrT, ⟨#[97, 103, 101]⟩, 2⟩, ⟨usrT, ⟨#[97, 112, 112]⟩, 4⟩, ⟨usrT, ⟨#[98, 101, 116, 97]⟩, 1⟩, ⟨usrT, ⟨#[99, 111, 117, 110, 116, 114, 121]⟩, 3⟩, ⟨usrT, ⟨#[112, 108, 97, 110]⟩, 3⟩, ⟨usrT, ⟨#[116, 97, 103, 115]⟩, 5⟩]
set_option maxRecDepth 100000 in
theorem declA (G : Glob) : AFn Tryd.prog G 33 [] 0 [] (Is (.lst 3 (dcl.map enD))) := by
  refine afn_of Tryd.func33 rfl mixedW (by kernel_rfl) ?_
  conv => whnf
  exact aret [0] (by repeat' (first | rfl | trivial | apply And.intro))
theorem dcl_len : dcl.length = 8 := rfl
attribute [local irreducible] dcl
structure CX where
  i : Nat
  a : Nat
  al : List Atr
set_option maxHeartbeats 4000000 in
set_option maxRecDepth 100000 in
theorem contextW {W : World} (hW : Ld W) {L : List UInt8} {at_ : Nat} (hat : at_ ≤ L.length) (hL : L.length ≤ 65536) (kind : ByteArray) :
    AFn Tryd.prog (GW W) 50 [.ptr 0 0, .v (.string kind)] 1 [(0, drB L at_)] (fun a m H => (∃ c : Cx, c.ok ∧ a = .agg [.v (.string c.kd), .v (.string c.ky), .lst 5 (c.al.map enAt)]) ∧ Drs L m H) := by
  refine afn_of Tryd.func50 rfl mixedW (by kernel_rfl) ?_
  conv => whnf
  refine acallM [0] [] (by kernel_rfl) (keyW hat hL) rfl (by repeat' (first | rfl | trivial | apply And.intro)) (by repeat' (first | rfl | trivial | apply And.intro)) ?_
  rintro _ _ _ ⟨⟨ky, rfl, hky⟩, rfl, a1, ha1, rfl⟩
  refine ⟨rfl, ?_⟩
  conv => whnf
  refine acallF [] (by kernel_rfl) (declA _) ?_ ?_
  focus (repeat' (first | rfl | trivial | apply And.intro))
  rintro _ _ _ ⟨rfl, rfl, rfl⟩
  conv => whnf
  refine aloop ws50_1 4 [7] (fun x : CX => [(7, iw x.i)]) (fun x => [(0, drB L x.a), (2, .var 85 [.v (.string kind), .v (.string ky), .own 3]), (3, .rows 98 5 (x.al.map enAt)), (1, .var 85 [.v (.string ⟨#[]⟩), .v (.string ⟨#[]⟩), .v (.slice none 0 0)])])
    (fun x => x.i ≤ 8 ∧ x.a ≤ L.length ∧ x.al.length ≤ x.i ∧ ∀ y ∈ x.al, y.ok) (fun x => 8 - x.i) [(3, .nil)] [] ⟨0, a1, []⟩ (by kernel_rfl) (fun _ => rfl) rfl ⟨Nat.zero_le _, ha1, Nat.zero_le _, fun y h => by cases h⟩ (by repeat' (first | rfl | trivial | apply And.intro)) (by repeat' (first | rfl | trivial | apply And.intro)) ?_
  rintro ⟨i, a, al⟩ ⟨hi, ha, hal, hok⟩
  dsimp only at hi ha hal hok
  conv => whnf
  refine vif_split (fun h => ?_) (fun h => ?_)
  · have hlt : i < 8 := by rw [List.length_map, dcl_len] at h; have := of_decide_eq_true h; dsimp only at this; omega
    have hlt2 : i < dcl.length := by rw [dcl_len]; exact hlt
    have hrow := List.getElem?_eq_getElem hlt2
    obtain ⟨⟨dk, dn, dt⟩, hd⟩ : ∃ d, dcl[i]? = some d := ⟨_, hrow⟩
    conv => whnf
    refine AIn.mk' i rfl (by rw [List.length_map]; exact hlt2) ?_
    conv => whnf
    refine ARd.mapAt hd ?_
    conv => whnf
    refine vif_split (fun h3 => ?_) (fun h3 => ?_)
    · conv => whnf
      refine acallM [0] [] (by kernel_rfl) (nextW ha hL 4 (by decide) (by decide)) rfl (by repeat' (first | rfl | trivial | apply And.intro)) (by repeat' (first | rfl | trivial | apply And.intro)) ?_
      rintro _ _ _ ⟨⟨z, rfl, hz⟩, rfl, a2, ha2, rfl⟩
      refine ⟨rfl, ?_⟩
      conv => whnf
      refine vif_split (fun h4 => ?_) (fun h4 => ?_)
      · conv => whnf
        (refine adraw pln50 [0] (by kernel_rfl) ?_; conv => whnf)
        repeat' (first
          | (refine And.intro ?_ ?_ <;> (conv => whnf))
          | (refine AIn.mk' i rfl (by rw [List.length_map]; exact hlt2) ?_; conv => whnf)
          | (refine ARd.mapAt hd ?_; conv => whnf))
        refine acallM [0] [] (by kernel_rfl) (valueW hW ha2 hL dt) rfl (by repeat' (first | rfl | trivial | apply And.intro)) (by repeat' (first | rfl | trivial | apply And.intro)) ?_
        rintro _ _ _ ⟨⟨k, n, t, ts, rfl, hn, ht, hl3⟩, rfl, a3, ha3, rfl⟩
        refine ⟨rfl, ?_⟩
        conv => whnf
        refine VReq.mk (app_ok (by rw [List.length_map]; show al.length + 1 ≤ 4194304; omega) (by kernel_rfl)) ?_
        conv => whnf
        (repeat' (first | (refine And.intro ?_ ?_ <;> (conv => whnf)) | (refine vif_split (fun h => ?_) (fun h => ?_) <;> (try simp only [bl] at h) <;> (conv => whnf)) | (refine AAr.i64 (by first | omega | ((try simp only [List.length_map] at *); omega)) ?_; conv => whnf) | (refine AIn.mk' _ rfl (by first | omega | (simp only [ln]; omega) | (simp only [ln] at *; omega)) ?_; conv => whnf) | (refine ARd.mapAt (by assumption) ?_; conv => whnf) | (refine ARd.set (by (try simp only [ln] at *); omega) ?_; conv => whnf) | (refine ARd.map (by first | omega | (simp only [List.length_map] at *; omega)) ?_; conv => whnf) | (refine VReq.mk (by first | decide | omega) ?_; conv => whnf) | (refine AEq.mk (by kernel_rfl) rfl rfl ?_; conv => whnf) | (refine VReq.mk (app_ok (by (try simp only [ln] at *); omega) (by kernel_rfl)) ?_; conv => whnf)))
        refine aback (CX.mk (i + 1) a3 (al ++ [⟨dn, k, n, t, ts.map enS⟩])) [(3, .lab 5)] [] rfl ?_ ?_ ?_ ?_
        · show 8 - (i + 1) < 8 - i; omega
        · refine ⟨hlt, ha3, ?_, fun y hy => ?_⟩
          · dsimp only; rw [List.length_append]; show al.length + 1 ≤ i + 1; omega
          · rcases List.mem_append.1 hy with hy | hy
            · exact hok y hy
            · rw [List.mem_singleton.1 hy]
              exact ⟨hn, by dsimp only; omega, by dsimp only; rw [List.length_map]; omega⟩
        · dsimp only
          rw [List.map_append]
          repeat' (first | rfl | trivial | apply And.intro)
        · repeat' (first | rfl | trivial | apply And.intro)
      · conv => whnf
        (repeat' (first | (refine And.intro ?_ ?_ <;> (conv => whnf)) | (refine vif_split (fun h => ?_) (fun h => ?_) <;> (try simp only [bl] at h) <;> (conv => whnf)) | (refine AAr.i64 (by first | omega | ((try simp only [List.length_map] at *); omega)) ?_; conv => whnf) | (refine AIn.mk' _ rfl (by first | omega | (simp only [ln]; omega) | (simp only [ln] at *; omega)) ?_; conv => whnf) | (refine ARd.mapAt (by assumption) ?_; conv => whnf) | (refine ARd.set (by (try simp only [ln] at *); omega) ?_; conv => whnf) | (refine ARd.map (by first | omega | (simp only [List.length_map] at *; omega)) ?_; conv => whnf) | (refine VReq.mk (by first | decide | omega) ?_; conv => whnf) | (refine AEq.mk (by kernel_rfl) rfl rfl ?_; conv => whnf) | (refine VReq.mk (app_ok (by (try simp only [ln] at *); omega) (by kernel_rfl)) ?_; conv => whnf)))
        (refine aback (CX.mk (i + 1) a2 al) [(3, .lab 3)] [] ?_ ?_ ?_ ?_ ?_; (focus rfl); rotate_left 2; (focus (repeat' (first | rfl | trivial | apply And.intro))); (focus (repeat' (first | rfl | trivial | apply And.intro))))
        · show 8 - (i + 1) < 8 - i; omega
        · exact ⟨hlt, ha2, by dsimp only; omega, hok⟩
    · conv => whnf
      (repeat' (first | (refine And.intro ?_ ?_ <;> (conv => whnf)) | (refine vif_split (fun h => ?_) (fun h => ?_) <;> (try simp only [bl] at h) <;> (conv => whnf)) | (refine AAr.i64 (by first | omega | ((try simp only [List.length_map] at *); omega)) ?_; conv => whnf) | (refine AIn.mk' _ rfl (by first | omega | (simp only [ln]; omega) | (simp only [ln] at *; omega)) ?_; conv => whnf) | (refine ARd.mapAt (by assumption) ?_; conv => whnf) | (refine ARd.set (by (try simp only [ln] at *); omega) ?_; conv => whnf) | (refine ARd.map (by first | omega | (simp only [List.length_map] at *; omega)) ?_; conv => whnf) | (refine VReq.mk (by first | decide | omega) ?_; conv => whnf) | (refine AEq.mk (by kernel_rfl) rfl rfl ?_; conv => whnf) | (refine VReq.mk (app_ok (by (try simp only [ln] at *); omega) (by kernel_rfl)) ?_; conv => whnf)))
      (refine aback (CX.mk (i + 1) a al) [(3, .lab 3)] [] ?_ ?_ ?_ ?_ ?_; (focus rfl); rotate_left 2; (focus (repeat' (first | rfl | trivial | apply And.intro))); (focus (repeat' (first | rfl | trivial | apply And.intro))))
      · show 8 - (i + 1) < 8 - i; omega
      · exact ⟨hlt, ha, by dsimp only; omega, hok⟩
  · have h8 : i = 8 := by rw [List.length_map, dcl_len] at h; simp at h; omega
    conv => whnf
    exact aend (.agg [.v (.string kind), .v (.string ky), .lst 5 (al.map enAt)]) 1 [(0, drB L a)] [] [3] ⟨⟨⟨kind, ky, al⟩, ⟨by dsimp only; omega, hok, by unfold maxLen; dsimp only; omega⟩, rfl⟩, rfl, a, ha, rfl⟩ rfl (by repeat' (first | rfl | trivial | apply And.intro)) (by repeat' (first | rfl | trivial | apply And.intro))
theorem SOk.nil : SOk [] := ⟨(fun c h => by cases h), Nat.zero_le _⟩
theorem SOk.one {c : Cx} (h : c.ok) : SOk [c] := ⟨fun x hx => by rw [List.mem_singleton.1 hx]; exact h, by show 1 ≤ maxLen; unfold maxLen; decide⟩
theorem SOk.two {c d : Cx} (h : c.ok) (h2 : d.ok) : SOk [c, d] := ⟨fun x hx => by
  rcases List.mem_cons.1 hx with rfl | hx
  · exact h
  · rw [List.mem_singleton.1 hx]; exact h2, by show 2 ≤ maxLen; unfold maxLen; decide⟩
set_option maxHeartbeats 4000000 in
set_option maxRecDepth 100000 in
theorem subjectW {W : World} (hW : Ld W) {L : List UInt8} {at_ : Nat} (hat : at_ ≤ L.length) (hL : L.length ≤ 65536) :
    AFn Tryd.prog (GW W) 32 [.ptr 0 0] 1 [(0, drB L at_)] (fun a m H => (∃ s : List Cx, SOk s ∧ a = sjA s) ∧ Drs L m H) := by
  refine afn_of Tryd.func32 rfl mixedW (by kernel_rfl) ?_
  conv => whnf
  refine acallM [0] [] (by kernel_rfl) (nextW hat hL 6 (by decide) (by decide)) rfl (by repeat' (first | rfl | trivial | apply And.intro)) (by repeat' (first | rfl | trivial | apply And.intro)) ?_
  rintro _ _ _ ⟨⟨x, rfl, hx⟩, rfl, a1, ha1, rfl⟩
  refine ⟨rfl, ?_⟩
  match x, hx with
  | 0, _ =>
    conv => whnf
    (refine adraw pln32 [0] (by kernel_rfl) ?_; conv => whnf)
    refine acallM [0] [] (by kernel_rfl) (contextW hW ha1 hL usrT) rfl (by repeat' (first | rfl | trivial | apply And.intro)) (by repeat' (first | rfl | trivial | apply And.intro)) ?_
    rintro _ _ _ ⟨⟨c, hc, rfl⟩, rfl, ac, hac, rfl⟩
    refine ⟨rfl, ?_⟩
    conv => whnf
    refine VReq.mk (app_ok (Nat.le_of_ble_eq_true rfl) (by kernel_rfl)) ?_
    conv => whnf
    exact aend (sjA [c]) 1 [(0, drB L ac)] [] [4] ⟨⟨[c], .one hc, rfl⟩, rfl, ac, hac, rfl⟩ rfl (by repeat' (first | rfl | trivial | apply And.intro)) (by repeat' (first | rfl | trivial | apply And.intro))
  | 1, _ =>
    conv => whnf
    (refine adraw pln32 [0] (by kernel_rfl) ?_; conv => whnf)
    refine acallM [0] [] (by kernel_rfl) (contextW hW ha1 hL devT) rfl (by repeat' (first | rfl | trivial | apply And.intro)) (by repeat' (first | rfl | trivial | apply And.intro)) ?_
    rintro _ _ _ ⟨⟨c, hc, rfl⟩, rfl, ac, hac, rfl⟩
    refine ⟨rfl, ?_⟩
    conv => whnf
    refine VReq.mk (app_ok (Nat.le_of_ble_eq_true rfl) (by kernel_rfl)) ?_
    conv => whnf
    exact aend (sjA [c]) 1 [(0, drB L ac)] [] [4] ⟨⟨[c], .one hc, rfl⟩, rfl, ac, hac, rfl⟩ rfl (by repeat' (first | rfl | trivial | apply And.intro)) (by repeat' (first | rfl | trivial | apply And.intro))
  | 2, _ =>
    conv => whnf
    (refine adraw pln32 [0] (by kernel_rfl) ?_; conv => whnf)
    refine acallM [0] [] (by kernel_rfl) (contextW hW ha1 hL devT) rfl (by repeat' (first | rfl | trivial | apply And.intro)) (by repeat' (first | rfl | trivial | apply And.intro)) ?_
    rintro _ _ _ ⟨⟨c, hc, rfl⟩, rfl, ac, hac, rfl⟩
    refine ⟨rfl, ?_⟩
    conv => whnf
    refine VReq.mk (app_ok (Nat.le_of_ble_eq_true rfl) (by kernel_rfl)) ?_
    conv => whnf
    (refine adraw pln32 [0] (by kernel_rfl) ?_; conv => whnf)
    refine acallM [0] [] (by kernel_rfl) (contextW hW hac hL usrT) rfl (by repeat' (first | rfl | trivial | apply And.intro)) (by repeat' (first | rfl | trivial | apply And.intro)) ?_
    rintro _ _ _ ⟨⟨d, hd, rfl⟩, rfl, ad, had, rfl⟩
    refine ⟨rfl, ?_⟩
    conv => whnf
    refine VReq.mk (app_ok (Nat.le_of_ble_eq_true rfl) (by kernel_rfl)) ?_
    conv => whnf
    exact aend (sjA [c, d]) 1 [(0, drB L ad)] [] [6] ⟨⟨[c, d], .two hc hd, rfl⟩, rfl, ad, had, rfl⟩ rfl (by repeat' (first | rfl | trivial | apply And.intro)) (by repeat' (first | rfl | trivial | apply And.intro))
  | 3, _ =>
    conv => whnf
    (refine adraw pln32 [0] (by kernel_rfl) ?_; conv => whnf)
    refine acallM [0] [] (by kernel_rfl) (contextW hW ha1 hL usrT) rfl (by repeat' (first | rfl | trivial | apply And.intro)) (by repeat' (first | rfl | trivial | apply And.intro)) ?_
    rintro _ _ _ ⟨⟨c, hc, rfl⟩, rfl, ac, hac, rfl⟩
    refine ⟨rfl, ?_⟩
    conv => whnf
    refine VReq.mk (app_ok (Nat.le_of_ble_eq_true rfl) (by kernel_rfl)) ?_
    conv => whnf
    exact aend (sjA [c]) 1 [(0, drB L ac)] [] [4] ⟨⟨[c], .one hc, rfl⟩, rfl, ac, hac, rfl⟩ rfl (by repeat' (first | rfl | trivial | apply And.intro)) (by repeat' (first | rfl | trivial | apply And.intro))
  | 4, _ =>
    conv => whnf
    (refine adraw pln32 [0] (by kernel_rfl) ?_; conv => whnf)
    refine acallM [0] [] (by kernel_rfl) (contextW hW ha1 hL devT) rfl (by repeat' (first | rfl | trivial | apply And.intro)) (by repeat' (first | rfl | trivial | apply And.intro)) ?_
    rintro _ _ _ ⟨⟨c, hc, rfl⟩, rfl, ac, hac, rfl⟩
    refine ⟨rfl, ?_⟩
    conv => whnf
    refine VReq.mk (app_ok (Nat.le_of_ble_eq_true rfl) (by kernel_rfl)) ?_
    conv => whnf
    (refine adraw pln32 [0] (by kernel_rfl) ?_; conv => whnf)
    refine acallM [0] [] (by kernel_rfl) (contextW hW hac hL usrT) rfl (by repeat' (first | rfl | trivial | apply And.intro)) (by repeat' (first | rfl | trivial | apply And.intro)) ?_
    rintro _ _ _ ⟨⟨d, hd, rfl⟩, rfl, ad, had, rfl⟩
    refine ⟨rfl, ?_⟩
    conv => whnf
    refine VReq.mk (app_ok (Nat.le_of_ble_eq_true rfl) (by kernel_rfl)) ?_
    conv => whnf
    exact aend (sjA [c, d]) 1 [(0, drB L ad)] [] [6] ⟨⟨[c, d], .two hc hd, rfl⟩, rfl, ad, had, rfl⟩ rfl (by repeat' (first | rfl | trivial | apply And.intro)) (by repeat' (first | rfl | trivial | apply And.intro))
  | 5, _ =>
    conv => whnf
    exact aend (sjA []) 1 [(0, drB L a1)] [] [] ⟨⟨[], .nil, rfl⟩, rfl, a1, ha1, rfl⟩ rfl (by repeat' (first | rfl | trivial | apply And.intro)) (by repeat' (first | rfl | trivial | apply And.intro))
end Go.Proofs.YthnncehddnfjmaaDoor.Dw
