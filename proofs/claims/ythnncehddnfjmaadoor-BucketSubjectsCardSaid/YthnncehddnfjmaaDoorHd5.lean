/- Looking up an attribute of a subject, by both; its bucket, by both. Conditions: sizes of an argument. -/
import Derived.Test.YthnncehddnfjmaaDoorHd4
set_option linter.unusedVariables false
set_option linter.unusedSimpArgs false
namespace Go.Proofs.YthnncehddnfjmaaDoor.Dw
open Go Go.RowKit Go.Proofs.YthnncehddnfjmaaDoor.Vc Go.Proofs.YthnncehddnfjmaaDoor.Dg Go.Proofs.YthnncehddnfjmaaDoor.Ax Go.Proofs.YthnncehddnfjmaaDoor.Bk
attribute [local irreducible] loadVar storeVar Instr.indexAt Instr.index Instr.sliceAt Instr.makeSlice Instr.lookup Instr.mapUpdate Instr.range Instr.next Instr.entry Instr.makeMap Builtin.append_ Builtin.copy_ Builtin.len_ Builtin.min_ Builtin.max_ Builtin.cap_ Builtin.delete_ Builtin.clear_ convert binOp eqGuard Op.unary Calls
attribute [local irreducible] ofI keyT keyB itT
structure Atr where
  nm : ByteArray
  k : Int
  n : Int
  t : ByteArray
  x : List (List FV)
structure Cx where
  kd : ByteArray
  ky : ByteArray
  al : List Atr
def enAt (a : Atr) : List FV := [.v (.string a.nm), .v (.int .i64 a.k), .v (.int .i64 a.n), .v (.string a.t), .lst 1 a.x]
def enCx (c : Cx) : List FV := [.v (.string c.kd), .v (.string c.ky), .lst 5 (c.al.map enAt)]
abbrev sjA (s : List Cx) : AV := .agg [.lst 3 (s.map enCx)]
structure Atr.ok (a : Atr) : Prop where
  n : -9223372036854775808 ≤ a.n ∧ a.n ≤ 9223372036854775807
  t : a.t.size ≤ 140737488351232
  x : a.x.length * 16 ≤ 140737488351232
structure Cx.ok (c : Cx) : Prop where
  ky : c.ky.size ≤ 140737488351232
  al : ∀ a ∈ c.al, a.ok
  l : c.al.length ≤ maxLen
structure SOk (s : List Cx) : Prop where
  c : ∀ c ∈ s, c.ok
  l : s.length ≤ maxLen
theorem find_step {α : Type} {p : α → Bool} {l : List α} {i : Nat} (h : i < l.length) (hI : l.find? p = (l.drop i).find? p) : (p l[i] = true → l.find? p = some l[i]) ∧ (p l[i] = false → l.find? p = (l.drop (i + 1)).find? p) := by
  rw [List.drop_eq_getElem_cons h, List.find?_cons] at hI
  refine ⟨fun hp => ?_, fun hp => ?_⟩
  · rw [hp] at hI; exact hI
  · rw [hp] at hI; exact hI
theorem find_end {α : Type} {p : α → Bool} {l : List α} (hI : l.find? p = (l.drop l.length).find? p) : l.find? p = none := by
  rw [hI, List.drop_length]; rfl
abbrev fcx (s : List Cx) (kind : ByteArray) : Option Cx := s.find? fun c => decide (c.kd = kind)
abbrev fat (l : List Atr) (name : ByteArray) : Option Atr := l.find? fun a => decide (a.nm = name)
def KB (kind : ByteArray) : ABlk := .var 9 [.v (.string kind)]
set_option maxRecDepth 100000 in
theorem cloA (G : Glob) (c : Cx) (kind : ByteArray) : AFn Tryd.prog G 70 [.agg [.v (.string c.kd), .v (.string c.ky), .lst 5 (c.al.map enAt)], .ptr 0 0] 1 [(0, KB kind)] (fun a m H => a = bw (decide (c.kd = kind)) ∧ m = 1 ∧ H = [(0, KB kind)]) := by
  refine afn_of Tryd.func70 rfl mixedW (by kernel_rfl) ?_
  conv => whnf
  exact aend (bw (decide (c.kd = kind))) 1 [(0, KB kind)] [] [] ⟨rfl, rfl, rfl⟩ rfl (by repeat' (first | rfl | trivial | apply And.intro)) (congrArg Value.bool (sEqD _ _))
theorem maxLen_lt {n : Nat} (h : n ≤ maxLen) : n ≤ 9223372036854775807 := by have e : maxLen = 9223372036854775807 := rfl; omega
set_option maxHeartbeats 4000000 in
set_option maxRecDepth 100000 in
theorem idxfA (G : Glob) (s : List Cx) (hs : SOk s) (kind : ByteArray) : AFn Tryd.prog G 69 [.lst 3 (s.map enCx), .fn (.func 70) [] [.ptr 0 0]] 1 [(0, KB kind)]
    (fun a m H => ((a = iw (-1) ∧ fcx s kind = none) ∨ ∃ (i : Nat) (h : i < s.length), a = iw i ∧ fcx s kind = some s[i]) ∧ m = 1 ∧ H = [(0, KB kind)]) := by
  have hl := maxLen_lt hs.l
  refine afn_of Tryd.func69 rfl mixedW (by kernel_rfl) ?_
  conv => whnf
  refine aloopH ws69_1 [8] (fun i : Nat => [(8, iw i)]) (fun i => i ≤ s.length ∧ fcx s kind = (s.drop i).find? fun c => decide (c.kd = kind)) (fun i => s.length - i) 0 (by kernel_rfl) (fun _ => rfl) (by kernel_rfl) ⟨Nat.zero_le _, rfl⟩ (by repeat' (first | rfl | trivial | apply And.intro)) (by repeat' (first | rfl | trivial | apply And.intro)) ?_
  rintro i ⟨hi, hI⟩
  conv => whnf
  refine vif_split (fun h => ?_) (fun h => ?_)
  · have hlt : i < s.length := by simpa using h
    obtain ⟨h1, h2⟩ := find_step hlt hI
    conv => whnf
    refine AIn.mk' i rfl (by rw [List.length_map]; exact hlt) ?_
    conv => whnf
    refine ARd.mapAt (List.getElem?_eq_getElem hlt) ?_
    conv => whnf
    refine acallM [0] [] (by kernel_rfl) (cloA G s[i] kind) rfl (by repeat' (first | rfl | trivial | apply And.intro)) (by repeat' (first | rfl | trivial | apply And.intro)) ?_
    rintro _ _ _ ⟨rfl, rfl, rfl⟩
    refine ⟨rfl, ?_⟩
    conv => whnf
    refine vif_split (fun h3 => ?_) (fun h3 => ?_)
    · conv => whnf
      exact aend (iw i) 1 [(0, KB kind)] [] [] ⟨.inr ⟨i, hlt, rfl, h1 h3⟩, rfl, rfl⟩ rfl (by repeat' (first | rfl | trivial | apply And.intro)) (by repeat' (first | rfl | trivial | apply And.intro))
    · conv => whnf
      (repeat' (first | (refine And.intro ?_ ?_ <;> (conv => whnf)) | (refine vif_split (fun h => ?_) (fun h => ?_) <;> (try simp only [bl] at h) <;> (conv => whnf)) | (refine AAr.i64 (by first | omega | ((try simp only [List.length_map] at *); omega)) ?_; conv => whnf) | (refine AIn.mk' _ rfl (by first | omega | (simp only [ln]; omega) | (simp only [ln] at *; omega)) ?_; conv => whnf) | (refine ARd.mapAt (by assumption) ?_; conv => whnf) | (refine ARd.set (by (try simp only [ln] at *); omega) ?_; conv => whnf) | (refine ARd.map (by first | omega | (simp only [List.length_map] at *; omega)) ?_; conv => whnf) | (refine VReq.mk (by first | decide | omega) ?_; conv => whnf) | (refine AEq.mk (by kernel_rfl) rfl rfl ?_; conv => whnf) | (refine VReq.mk (app_ok (by (try simp only [ln] at *); omega) (by kernel_rfl)) ?_; conv => whnf)))
      (refine aback (i + 1) [] [] ?_ ?_ ?_ ?_ ?_; (focus rfl); rotate_left 2; (focus (repeat' (first | rfl | trivial | apply And.intro))); (focus (repeat' (first | rfl | trivial | apply And.intro))))
      · show s.length - (i + 1) < s.length - i; omega
      · exact ⟨hlt, h2 h3⟩
  · have hge : i = s.length := by simp at h; omega
    subst hge
    conv => whnf
    exact aend (iw (-1)) 1 [(0, KB kind)] [] [] ⟨.inl ⟨rfl, find_end hI⟩, rfl, rfl⟩ rfl (by repeat' (first | rfl | trivial | apply And.intro)) (by repeat' (first | rfl | trivial | apply And.intro))
set_option maxRecDepth 100000 in
theorem indexA (G : Glob) (s : List Cx) (hs : SOk s) (kind : ByteArray) : AFn Tryd.prog G 62 [sjA s, .v (.string kind)] 0 [] (fun a m H => ((a = iw (-1) ∧ fcx s kind = none) ∨ ∃ (i : Nat) (h : i < s.length), a = iw i ∧ fcx s kind = some s[i]) ∧ m = 0 ∧ H = []) := by
  refine afn_of Tryd.func62 rfl mixedW (by kernel_rfl) ?_
  conv => whnf
  refine acallM [1] [] (by kernel_rfl) (idxfA G s hs kind) rfl (by repeat' (first | rfl | trivial | apply And.intro)) (by repeat' (first | rfl | trivial | apply And.intro)) ?_
  rintro _ _ _ ⟨h | ⟨i, hi, h⟩, rfl, rfl⟩
  · obtain ⟨rfl, h⟩ := h
    refine ⟨rfl, ?_⟩
    conv => whnf
    exact aend (iw (-1)) 0 [] [] [] ⟨.inl ⟨rfl, h⟩, rfl, rfl⟩ rfl (by repeat' (first | rfl | trivial | apply And.intro)) (by repeat' (first | rfl | trivial | apply And.intro))
  · obtain ⟨rfl, h⟩ := h
    refine ⟨rfl, ?_⟩
    conv => whnf
    exact aend (iw i) 0 [] [] [] ⟨.inr ⟨i, hi, rfl, h⟩, rfl, rfl⟩ rfl (by repeat' (first | rfl | trivial | apply And.intro)) (by repeat' (first | rfl | trivial | apply And.intro))
set_option maxRecDepth 100000 in
theorem cloneTA (G : Glob) (x : List (List FV)) (hx : x.length * 16 ≤ 140737488351232) : AFn Tryd.prog G 71 [.lst 1 x] 0 [] (Is (.lst 1 x)) := by
  refine afn_of Tryd.func71 rfl mixedW (by kernel_rfl) ?_
  conv => whnf
  refine ⟨fun b hb => ?_⟩
  cases b with
  | true =>
    have h0 : x = [] := by
      cases x with
      | nil => rfl
      | cons a r => have := hb (by simp); cases this
    subst h0
    conv => whnf
    exact aret [] rfl
  | false =>
    conv => whnf
    have e : maxLen = 9223372036854775807 := rfl
    refine VReq.mk ⟨by show (0 + x.length) * 16 ≤ _; omega, by show 0 + x.length ≤ _; omega⟩ ?_
    conv => whnf
    exact aret [1] (by repeat' (first | rfl | trivial | apply And.intro))
abbrev vlA (k n : Int) (t : ByteArray) (x : List (List FV)) : AV := .agg [iw k, iw n, .v (.string t), .lst 1 x]
set_option maxRecDepth 100000 in
theorem cloneVA (G : Glob) (k n : Int) (t : ByteArray) (x : List (List FV)) (hx : x.length * 16 ≤ 140737488351232) : AFn Tryd.prog G 63 [vlA k n t x] 0 [] (Is (vlA k n t x)) := by
  refine afn_of Tryd.func63 rfl mixedW (by kernel_rfl) ?_
  conv => whnf
  (refine acallF [] (by kernel_rfl) (cloneTA G x hx) ?_ ?_; (focus ((repeat' (first | rfl | trivial | apply And.intro)); done)); rintro _ _ _ ⟨rfl, rfl, rfl⟩; (conv => whnf))
  exact aret [] (by repeat' (first | rfl | trivial | apply And.intro))
/-- what Lookup answers -/
structure Fd where
  k : Int
  n : Int
  t : ByteArray
  x : List (List FV)
def selfT : ByteArray := ⟨#[107, 101, 121]⟩
def lkp1 (o : Option Cx) (name : ByteArray) : Option Fd :=
  match o with
  | none => none
  | some c => if name = selfT then some ⟨3, 0, c.ky, []⟩ else match fat c.al name with
    | none => none
    | some a => some ⟨a.k, a.n, a.t, a.x⟩
def lkp (s : List Cx) (kind name : ByteArray) : Option Fd := lkp1 (fcx s kind) name
def rsA (o : Option Fd) : AV := match o with
  | none => .tup [vlA 0 0 ⟨#[]⟩ [], bw false]
  | some f => .tup [vlA f.k f.n f.t f.x, bw true]
theorem fcx_ok {s : List Cx} (hs : SOk s) {kind : ByteArray} {c : Cx} (h : fcx s kind = some c) : c.ok := hs.c c (List.mem_of_find?_eq_some h)
set_option maxHeartbeats 4000000 in
set_option maxRecDepth 100000 in
theorem look1A (G : Glob) (s : List Cx) (hs : SOk s) (kind name : ByteArray) : AFn Tryd.prog G 51 [sjA s, .v (.string kind), .v (.string name)] 0 [] (Is (rsA (lkp s kind name))) := by
  refine afn_of Tryd.func51 rfl mixedW (by kernel_rfl) ?_
  conv => whnf
  refine acallF [] (by kernel_rfl) (indexA G s hs kind) ?_ ?_
  focus (repeat' (first | rfl | trivial | apply And.intro))
  rintro _ _ _ ⟨h | ⟨i, hi, h⟩, rfl, rfl⟩
  · obtain ⟨rfl, h⟩ := h
    conv => whnf
    refine aret [] ?_
    unfold lkp
    rw [h]
    unfold lkp1
    repeat' (first | rfl | trivial | apply And.intro)
  · obtain ⟨rfl, h⟩ := h
    have hc := fcx_ok hs h
    have hlk : lkp s kind name = if name = selfT then some ⟨3, 0, s[i].ky, []⟩ else match fat s[i].al name with
      | none => none
      | some a => some ⟨a.k, a.n, a.t, a.x⟩ := by unfold lkp; rw [h]; rfl
    rw [hlk]
    obtain ⟨o, ho⟩ : ∃ o, o = lkp s kind name := ⟨_, rfl⟩
    rw [hlk] at ho
    rw [← hlk, ← show o = lkp s kind name by rw [ho, hlk]]
    obtain ⟨c, hcc⟩ : ∃ c, c = s[i] := ⟨_, rfl⟩
    rw [← hcc] at hc ho
    have hll := maxLen_lt hc.l
    conv => whnf
    refine AIn.mk' i rfl (by rw [List.length_map]; exact hi) ?_
    conv => whnf
    refine ARd.mapAt (a := c) (by rw [hcc]; exact List.getElem?_eq_getElem hi) ?_
    conv => whnf
    refine vif_split (fun h3 => ?_) (fun h3 => ?_)
    · have h3 : name = selfT := by rw [sEqD] at h3; exact of_decide_eq_true h3
      rw [if_pos h3] at ho
      subst ho
      conv => whnf
      exact aret [] (by repeat' (first | rfl | trivial | apply And.intro))
    · have h3 : ¬ name = selfT := by rw [sEqD] at h3; exact of_decide_eq_false h3
      rw [if_neg h3] at ho
      conv => whnf
      refine aloopH ws51_1 [31] (fun i : Nat => [(31, iw i)]) (fun i => i ≤ c.al.length ∧ fat c.al name = (c.al.drop i).find? fun a => decide (a.nm = name)) (fun i => c.al.length - i) 0 (by kernel_rfl) (fun _ => rfl) (by kernel_rfl) ⟨Nat.zero_le _, rfl⟩ (by repeat' (first | rfl | trivial | apply And.intro)) (by repeat' (first | rfl | trivial | apply And.intro)) ?_
      rintro j ⟨hj, hI⟩
      conv => whnf
      refine vif_split (fun h4 => ?_) (fun h4 => ?_)
      · have hlt : j < c.al.length := by simpa using h4
        obtain ⟨h1, h2⟩ := find_step hlt hI
        conv => whnf
        refine AIn.mk' j rfl (by rw [List.length_map]; exact hlt) ?_
        conv => whnf
        refine ARd.mapAt (List.getElem?_eq_getElem hlt) ?_
        conv => whnf
        refine vif_split (fun h5 => ?_) (fun h5 => ?_)
        · have h6 := h1 (by rw [sEqD] at h5; exact h5)
          rw [show fat c.al name = some c.al[j] from h6] at ho
          have hx := (hc.al _ (List.getElem_mem hlt)).x
          subst ho
          conv => whnf
          (refine acallF [] (by kernel_rfl) (cloneVA G c.al[j].k c.al[j].n c.al[j].t c.al[j].x hx) ?_ ?_; (focus ((repeat' (first | rfl | trivial | apply And.intro)); done)); rintro _ _ _ ⟨rfl, rfl, rfl⟩; (conv => whnf))
          exact aret [] (by repeat' (first | rfl | trivial | apply And.intro))
        · have h6 := h2 (by rw [sEqD] at h5; exact h5)
          conv => whnf
          (repeat' (first | (refine And.intro ?_ ?_ <;> (conv => whnf)) | (refine vif_split (fun h => ?_) (fun h => ?_) <;> (try simp only [bl] at h) <;> (conv => whnf)) | (refine AAr.i64 (by first | omega | ((try simp only [List.length_map] at *); omega)) ?_; conv => whnf) | (refine AIn.mk' _ rfl (by first | omega | (simp only [ln]; omega) | (simp only [ln] at *; omega)) ?_; conv => whnf) | (refine ARd.mapAt (by assumption) ?_; conv => whnf) | (refine ARd.set (by (try simp only [ln] at *); omega) ?_; conv => whnf) | (refine ARd.map (by first | omega | (simp only [List.length_map] at *; omega)) ?_; conv => whnf) | (refine VReq.mk (by first | decide | omega) ?_; conv => whnf) | (refine AEq.mk (by kernel_rfl) rfl rfl ?_; conv => whnf) | (refine VReq.mk (app_ok (by (try simp only [ln] at *); omega) (by kernel_rfl)) ?_; conv => whnf)))
          (refine aback (j + 1) [] [] ?_ ?_ ?_ ?_ ?_; (focus rfl); rotate_left 2; (focus (repeat' (first | rfl | trivial | apply And.intro))); (focus (repeat' (first | rfl | trivial | apply And.intro))))
          · show c.al.length - (j + 1) < c.al.length - j; omega
          · exact ⟨hlt, h6⟩
      · have hge : j = c.al.length := by simp at h4; omega
        subst hge
        have h6 := find_end hI
        rw [show fat c.al name = none from h6] at ho
        subst ho
        conv => whnf
        exact aret [] (by repeat' (first | rfl | trivial | apply And.intro))
def cxA (o : Option Cx) : AV := match o with
  | none => .tup [.agg [.v (.string ⟨#[]⟩), .v (.string ⟨#[]⟩), .lst 5 []], bw false]
  | some c => .tup [.agg [.v (.string c.kd), .v (.string c.ky), .lst 5 (c.al.map enAt)], bw true]
set_option maxHeartbeats 4000000 in
set_option maxRecDepth 100000 in
theorem find2A (G : Glob) (s : List Cx) (hs : SOk s) (kind : ByteArray) : AFn Tryd.prog G 64 [sjA s, .v (.string kind)] 0 [] (Is (cxA (fcx s kind))) := by
  have hl := maxLen_lt hs.l
  refine afn_of Tryd.func64 rfl mixedW (by kernel_rfl) ?_
  conv => whnf
  refine aloopH ws64_1 [6] (fun i : Nat => [(6, iw i)]) (fun i => i ≤ s.length ∧ fcx s kind = (s.drop i).find? fun c => decide (c.kd = kind)) (fun i => s.length - i) 0 (by kernel_rfl) (fun _ => rfl) (by kernel_rfl) ⟨Nat.zero_le _, rfl⟩ (by repeat' (first | rfl | trivial | apply And.intro)) (by repeat' (first | rfl | trivial | apply And.intro)) ?_
  rintro i ⟨hi, hI⟩
  conv => whnf
  refine vif_split (fun h => ?_) (fun h => ?_)
  · have hlt : i < s.length := by simpa using h
    obtain ⟨h1, h2⟩ := find_step hlt hI
    have hrow := List.getElem?_eq_getElem hlt
    conv => whnf
    refine AIn.mk' i rfl (by rw [List.length_map]; exact hlt) ?_
    conv => whnf
    refine ARd.mapAt hrow ?_
    conv => whnf
    refine vif_split (fun h3 => ?_) (fun h3 => ?_)
    · have h4 := h1 (by rw [sEqD] at h3; exact h3)
      rw [show fcx s kind = some s[i] from h4]
      conv => whnf
      refine AIn.mk' i rfl (by rw [List.length_map]; exact hlt) ?_
      conv => whnf
      refine ARd.mapAt hrow ?_
      conv => whnf
      exact aret [] (by repeat' (first | rfl | trivial | apply And.intro))
    · have h4 := h2 (by rw [sEqD] at h3; exact h3)
      conv => whnf
      (repeat' (first | (refine And.intro ?_ ?_ <;> (conv => whnf)) | (refine vif_split (fun h => ?_) (fun h => ?_) <;> (try simp only [bl] at h) <;> (conv => whnf)) | (refine AAr.i64 (by first | omega | ((try simp only [List.length_map] at *); omega)) ?_; conv => whnf) | (refine AIn.mk' _ rfl (by first | omega | (simp only [ln]; omega) | (simp only [ln] at *; omega)) ?_; conv => whnf) | (refine ARd.mapAt (by assumption) ?_; conv => whnf) | (refine ARd.set (by (try simp only [ln] at *); omega) ?_; conv => whnf) | (refine ARd.map (by first | omega | (simp only [List.length_map] at *; omega)) ?_; conv => whnf) | (refine VReq.mk (by first | decide | omega) ?_; conv => whnf) | (refine AEq.mk (by kernel_rfl) rfl rfl ?_; conv => whnf) | (refine VReq.mk (app_ok (by (try simp only [ln] at *); omega) (by kernel_rfl)) ?_; conv => whnf)))
      (refine aback (i + 1) [] [] ?_ ?_ ?_ ?_ ?_; (focus rfl); rotate_left 2; (focus (repeat' (first | rfl | trivial | apply And.intro))); (focus (repeat' (first | rfl | trivial | apply And.intro))))
      · show s.length - (i + 1) < s.length - i; omega
      · exact ⟨hlt, h4⟩
  · have hge : i = s.length := by simp at h; omega
    subst hge
    rw [show fcx s kind = none from find_end hI]
    conv => whnf
    exact aret [] (by repeat' (first | rfl | trivial | apply And.intro))
set_option maxHeartbeats 4000000 in
set_option maxRecDepth 100000 in
theorem look2A (G : Glob) (s : List Cx) (hs : SOk s) (kind name : ByteArray) : AFn Tryd.prog G 52 [sjA s, .v (.string kind), .v (.string name)] 0 [] (Is (rsA (lkp s kind name))) := by
  have hA := find2A G s hs kind
  obtain ⟨f, hf⟩ : ∃ f, f = fcx s kind := ⟨_, rfl⟩
  have hlk : lkp s kind name = lkp1 f name := by rw [hf]; rfl
  rw [← hf] at hA
  rw [hlk]
  refine afn_of Tryd.func52 rfl mixedW (by kernel_rfl) ?_
  conv => whnf
  cases f with
  | none =>
    (refine acallF [] (by kernel_rfl) (hA) ?_ ?_; (focus ((repeat' (first | rfl | trivial | apply And.intro)); done)); rintro _ _ _ ⟨rfl, rfl, rfl⟩; (conv => whnf))
    exact aret [] (by repeat' (first | rfl | trivial | apply And.intro))
  | some c =>
    have hc := fcx_ok hs hf.symm
    have hll := maxLen_lt hc.l
    clear hlk
    obtain ⟨o, ho⟩ : ∃ o, o = (if name = selfT then some (⟨3, 0, c.ky, []⟩ : Fd) else match fat c.al name with
        | none => none
        | some a => some ⟨a.k, a.n, a.t, a.x⟩) := ⟨_, rfl⟩
    rw [show lkp1 (some c) name = o by rw [ho]; rfl]
    (refine acallF [] (by kernel_rfl) (hA) ?_ ?_; (focus ((repeat' (first | rfl | trivial | apply And.intro)); done)); rintro _ _ _ ⟨rfl, rfl, rfl⟩; (conv => whnf))
    refine vif_split (fun h3 => ?_) (fun h3 => ?_)
    · have h3 : name = selfT := by rw [sEqD] at h3; exact of_decide_eq_true h3
      rw [if_pos h3] at ho
      subst ho
      conv => whnf
      exact aret [] (by repeat' (first | rfl | trivial | apply And.intro))
    · have h3 : ¬ name = selfT := by rw [sEqD] at h3; exact of_decide_eq_false h3
      rw [if_neg h3] at ho
      conv => whnf
      refine aloopH ws52_1 [10] (fun i : Nat => [(10, iw i)]) (fun i => i ≤ c.al.length ∧ fat c.al name = (c.al.drop i).find? fun a => decide (a.nm = name)) (fun i => c.al.length - i) 0 (by kernel_rfl) (fun _ => rfl) (by kernel_rfl) ⟨Nat.zero_le _, rfl⟩ (by repeat' (first | rfl | trivial | apply And.intro)) (by repeat' (first | rfl | trivial | apply And.intro)) ?_
      rintro j ⟨hj, hI⟩
      conv => whnf
      refine vif_split (fun h4 => ?_) (fun h4 => ?_)
      · have hlt : j < c.al.length := by simpa using h4
        obtain ⟨h1, h2⟩ := find_step hlt hI
        have hrow := List.getElem?_eq_getElem hlt
        conv => whnf
        refine AIn.mk' j rfl (by rw [List.length_map]; exact hlt) ?_
        conv => whnf
        refine ARd.mapAt hrow ?_
        conv => whnf
        refine vif_split (fun h5 => ?_) (fun h5 => ?_)
        · have h6 := h1 (by rw [sEqD] at h5; exact h5)
          rw [show fat c.al name = some c.al[j] from h6] at ho
          subst ho
          conv => whnf
          refine AIn.mk' j rfl (by rw [List.length_map]; exact hlt) ?_
          conv => whnf
          refine ARd.mapAt hrow ?_
          conv => whnf
          exact aret [] (by repeat' (first | rfl | trivial | apply And.intro))
        · have h6 := h2 (by rw [sEqD] at h5; exact h5)
          conv => whnf
          (repeat' (first | (refine And.intro ?_ ?_ <;> (conv => whnf)) | (refine vif_split (fun h => ?_) (fun h => ?_) <;> (try simp only [bl] at h) <;> (conv => whnf)) | (refine AAr.i64 (by first | omega | ((try simp only [List.length_map] at *); omega)) ?_; conv => whnf) | (refine AIn.mk' _ rfl (by first | omega | (simp only [ln]; omega) | (simp only [ln] at *; omega)) ?_; conv => whnf) | (refine ARd.mapAt (by assumption) ?_; conv => whnf) | (refine ARd.set (by (try simp only [ln] at *); omega) ?_; conv => whnf) | (refine ARd.map (by first | omega | (simp only [List.length_map] at *; omega)) ?_; conv => whnf) | (refine VReq.mk (by first | decide | omega) ?_; conv => whnf) | (refine AEq.mk (by kernel_rfl) rfl rfl ?_; conv => whnf) | (refine VReq.mk (app_ok (by (try simp only [ln] at *); omega) (by kernel_rfl)) ?_; conv => whnf)))
          (refine aback (j + 1) [] [] ?_ ?_ ?_ ?_ ?_; (focus rfl); rotate_left 2; (focus (repeat' (first | rfl | trivial | apply And.intro))); (focus (repeat' (first | rfl | trivial | apply And.intro))))
          · show c.al.length - (j + 1) < c.al.length - j; omega
          · exact ⟨hlt, h6⟩
      · have hge : j = c.al.length := by simp at h4; omega
        subst hge
        have h6 := find_end hI
        rw [show fat c.al name = none from h6] at ho
        subst ho
        conv => whnf
        exact aret [] (by repeat' (first | rfl | trivial | apply And.intro))
structure Fd.ok (f : Fd) : Prop where
  n : -9223372036854775808 ≤ f.n ∧ f.n ≤ 9223372036854775807
  t : f.t.size ≤ 140737488351232
theorem lkp_ok {s : List Cx} (hs : SOk s) {kind name : ByteArray} {f : Fd} (h : lkp s kind name = some f) : f.ok := by
  unfold lkp at h
  cases hc : fcx s kind with
  | none => rw [hc] at h; cases h
  | some c =>
    have ho := fcx_ok hs hc
    rw [hc] at h
    unfold lkp1 at h
    simp only at h
    split at h
    · injection h with h; subst h; exact ⟨by dsimp only; omega, ho.ky⟩
    · cases ha : fat c.al name with
      | none => rw [ha] at h; cases h
      | some a =>
        rw [ha] at h
        injection h with h
        have hk := ho.al a (List.mem_of_find?_eq_some ha)
        subst h
        exact ⟨hk.n, hk.t⟩
theorem itT_size (n : Int) (hn : -9223372036854775808 ≤ n ∧ n ≤ 9223372036854775807) : (itT n).size ≤ 65 := by
  have hd := dg_len 64 n.natAbs (by omega)
  rcases Int.lt_trichotomy n 0 with h | h | h
  · rw [itT_neg h]
    show (45 :: dg n.natAbs).toArray.size ≤ 65
    simp only [List.size_toArray, List.length_cons]; omega
  · subst h; rw [itT_zero]; decide
  · rw [itT_pos h]
    show (dg n.natAbs).toArray.size ≤ 65
    simp only [List.size_toArray]; omega
theorem keyT_size (k n : Int) (t : ByteArray) (hn : -9223372036854775808 ≤ n ∧ n ≤ 9223372036854775807) (ht : t.size ≤ 140737488351232) : (keyT k n t).size ≤ 140737488351232 := by
  have := itT_size n hn
  unfold keyT
  split
  · exact ht
  split
  · exact ht
  split
  · omega
  split
  · split <;> decide
  · decide
def sbjR (o : Option Fd) (salt : ByteArray) : Int × Bool := match o with
  | none => (0, false)
  | some f => if keyB f.k then (ofI salt (keyT f.k f.n f.t), true) else (0, false)
set_option maxHeartbeats 4000000 in
set_option maxRecDepth 100000 in
theorem subj1A {W : World} (hW : Lw W) (s : List Cx) (hs : SOk s) (kind name salt : ByteArray) (hsl : salt.size ≤ 400) :
    AFn Tryd.prog (GW W) 34 [sjA s, .v (.string kind), .v (.string name), .v (.string salt)] 0 [] (Is (.tup [iw (sbjR (lkp s kind name) salt).1, bw (sbjR (lkp s kind name) salt).2])) := by
  have hA := look1A (GW W) s hs kind name
  have hok := fun f => lkp_ok (s := s) hs (kind := kind) (name := name) (f := f)
  obtain ⟨o, ho⟩ : ∃ o, o = lkp s kind name := ⟨_, rfl⟩
  rw [← ho] at hA hok ⊢
  clear ho
  refine afn_of Tryd.func34 rfl mixedW (by kernel_rfl) ?_
  conv => whnf
  cases o with
  | none =>
    (refine acallF [] (by kernel_rfl) (hA) ?_ ?_; (focus ((repeat' (first | rfl | trivial | apply And.intro)); done)); rintro _ _ _ ⟨rfl, rfl, rfl⟩; (conv => whnf))
    exact aret [] (by repeat' (first | rfl | trivial | apply And.intro))
  | some f =>
    obtain ⟨hn, ht⟩ := hok f rfl
    have hK := key1W hW f.k f.n f.t f.x hn
    have hO := of1W (W := W) salt (keyT f.k f.n f.t) (by omega) (keyT_size _ _ _ hn ht)
    have hr : sbjR (some f) salt = if keyB f.k then (ofI salt (keyT f.k f.n f.t), true) else (0, false) := rfl
    obtain ⟨kt, hkt⟩ : ∃ kt, kt = keyT f.k f.n f.t := ⟨_, rfl⟩
    obtain ⟨kb, hkb⟩ : ∃ kb, kb = keyB f.k := ⟨_, rfl⟩
    obtain ⟨r, hrr⟩ : ∃ r, r = sbjR (some f) salt := ⟨_, rfl⟩
    rw [← hkt, ← hkb] at hK
    rw [← hkt] at hO
    rw [← hrr, ← hkb, ← hkt] at hr
    rw [← hrr]
    obtain ⟨ov, hov⟩ : ∃ ov, ov = ofI salt kt := ⟨_, rfl⟩
    rw [← hov] at hO hr
    (refine acallF [] (by kernel_rfl) (hA) ?_ ?_; (focus ((repeat' (first | rfl | trivial | apply And.intro)); done)); rintro _ _ _ ⟨rfl, rfl, rfl⟩; (conv => whnf))
    (refine acall [] (by kernel_rfl) (hK) rfl ?_ ?_; (focus (repeat' (first | rfl | trivial | apply And.intro))))
    conv => whnf
    cases kb with
    | false =>
      conv => whnf
      rw [if_neg (by decide)] at hr
      subst hr
      exact aret [] (by repeat' (first | rfl | trivial | apply And.intro))
    | true =>
      conv => whnf
      rw [if_pos rfl] at hr
      subst hr
      (refine acall [] (by kernel_rfl) (hO) rfl ?_ ?_; (focus (repeat' (first | rfl | trivial | apply And.intro))))
      conv => whnf
      exact aret [] (by repeat' (first | rfl | trivial | apply And.intro))
set_option maxHeartbeats 4000000 in
set_option maxRecDepth 100000 in
theorem subj2A {W : World} (hW : Lw W) (s : List Cx) (hs : SOk s) (kind name salt : ByteArray) (hsl : salt.size ≤ 400) :
    AFn Tryd.prog (GW W) 35 [sjA s, .v (.string kind), .v (.string name), .v (.string salt)] 0 [] (Is (.tup [iw (sbjR (lkp s kind name) salt).1, bw (sbjR (lkp s kind name) salt).2])) := by
  have hA := look2A (GW W) s hs kind name
  have hok := fun f => lkp_ok (s := s) hs (kind := kind) (name := name) (f := f)
  obtain ⟨o, ho⟩ : ∃ o, o = lkp s kind name := ⟨_, rfl⟩
  rw [← ho] at hA hok ⊢
  clear ho
  refine afn_of Tryd.func35 rfl mixedW (by kernel_rfl) ?_
  conv => whnf
  cases o with
  | none =>
    (refine acallF [] (by kernel_rfl) (hA) ?_ ?_; (focus ((repeat' (first | rfl | trivial | apply And.intro)); done)); rintro _ _ _ ⟨rfl, rfl, rfl⟩; (conv => whnf))
    exact aret [] (by repeat' (first | rfl | trivial | apply And.intro))
  | some f =>
    obtain ⟨hn, ht⟩ := hok f rfl
    have hK := key2W hW f.k f.n f.t f.x hn
    have hO := of2W (W := W) salt (keyT f.k f.n f.t) (by omega) (keyT_size _ _ _ hn ht)
    have hr : sbjR (some f) salt = if keyB f.k then (ofI salt (keyT f.k f.n f.t), true) else (0, false) := rfl
    obtain ⟨kt, hkt⟩ : ∃ kt, kt = keyT f.k f.n f.t := ⟨_, rfl⟩
    obtain ⟨kb, hkb⟩ : ∃ kb, kb = keyB f.k := ⟨_, rfl⟩
    obtain ⟨r, hrr⟩ : ∃ r, r = sbjR (some f) salt := ⟨_, rfl⟩
    rw [← hkt, ← hkb] at hK
    rw [← hkt] at hO
    rw [← hrr, ← hkb, ← hkt] at hr
    rw [← hrr]
    obtain ⟨ov, hov⟩ : ∃ ov, ov = ofI salt kt := ⟨_, rfl⟩
    rw [← hov] at hO hr
    (refine acallF [] (by kernel_rfl) (hA) ?_ ?_; (focus ((repeat' (first | rfl | trivial | apply And.intro)); done)); rintro _ _ _ ⟨rfl, rfl, rfl⟩; (conv => whnf))
    (refine acall [] (by kernel_rfl) (hK) rfl ?_ ?_; (focus (repeat' (first | rfl | trivial | apply And.intro))))
    conv => whnf
    cases kb with
    | false =>
      conv => whnf
      rw [if_neg (by decide)] at hr
      subst hr
      exact aret [] (by repeat' (first | rfl | trivial | apply And.intro))
    | true =>
      conv => whnf
      rw [if_pos rfl] at hr
      subst hr
      (refine acall [] (by kernel_rfl) (hO) rfl ?_ ?_; (focus (repeat' (first | rfl | trivial | apply And.intro))))
      conv => whnf
      exact aret [] (by repeat' (first | rfl | trivial | apply And.intro))
end Go.Proofs.YthnncehddnfjmaaDoor.Dw
