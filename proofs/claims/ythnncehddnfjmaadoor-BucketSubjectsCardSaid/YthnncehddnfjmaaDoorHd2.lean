/- The draws' functions over abstract values: a pointer to the choices is lent, and they stand somewhere else afterwards. Conditions: what is laid for the draws. -/
import Derived.Test.YthnncehddnfjmaaDoorHd1
import Derived.Test.YthnncehddnfjmaaDoorAx10
set_option linter.unusedVariables false
set_option linter.unusedSimpArgs false
namespace Go.Proofs.YthnncehddnfjmaaDoor.Dw
open Go Go.RowKit Go.Proofs.YthnncehddnfjmaaDoor.Vc Go.Proofs.YthnncehddnfjmaaDoor.Dg Go.Proofs.YthnncehddnfjmaaDoor.Ax
attribute [local irreducible] loadVar storeVar Instr.indexAt Instr.index Instr.sliceAt Instr.makeSlice Instr.lookup Instr.mapUpdate Instr.range Instr.next Instr.entry Instr.makeMap Builtin.append_ Builtin.copy_ Builtin.len_ Builtin.min_ Builtin.max_ Builtin.cap_ Builtin.delete_ Builtin.clear_ convert binOp eqGuard Op.unary Calls
abbrev iw (n : Int) : AV := .v (.int .i64 n)
abbrev bw (b : Bool) : AV := .v (.bool b)
abbrev bsw (l : List UInt8) : AV := .lst 1 (l.map enB)
def drB (L : List UInt8) (at_ : Nat) : ABlk := .var 71 [bsw L, iw at_]
/-- what is left behind: the choices, somewhere -/
def Drs (L : List UInt8) (m : Nat) (H : AHeap) : Prop := m = 1 ∧ ∃ a, a ≤ L.length ∧ H = [(0, drB L a)]
theorem dmap (b : List UInt8) : (bvals b).length = b.length := by simp [bvals]

/-- a function that draws, from the first engine -/
theorem afn_cod {W : World} {f : FuncId} {l : List Value} {L : List UInt8} {at_ : Nat} (hat : at_ ≤ L.length) (hL : L.length ≤ 65536) (Q : AV → Prop)
    (h : ∀ w b oa c, (GW W).holds w → W.heap.size ≤ b → CodS w w.heap.size b oa c L → Ret Tryd.prog f (.pointer (some ⟨b, 0, none⟩) :: l).toArray w fun v w' => Chg (fun x => x = b) w w' ∧ CodS w' w.heap.size b oa c L ∧
      ∃ a, Q a ∧ ∀ n σ (F : Nat → Prop), (∀ x, w.heap.size ≤ x → x < w'.heap.size → F x) → ARep n σ F w' a v) :
    AFn Tryd.prog (GW W) f (.ptr 0 0 :: l.map .v) 1 [(0, drB L at_)] (fun a m H => Q a ∧ Drs L m H) := by
  intro w σ F vs st r
  obtain ⟨v0, vs', rfl, r0, r1⟩ : ∃ v0 vs', vs = v0 :: vs' ∧ ARep 1 σ F w (.ptr 0 0) v0 ∧ RepL 1 σ F w (l.map .v) vs' := by
    match vs, r with
    | v0 :: vs', r => exact ⟨v0, vs', rfl, r.1, r.2⟩
  rw [map_v_eq r1]
  obtain ⟨b, hLb, rfl⟩ : ∃ b, (σ 0).b = some b ∧ v0 = .pointer (some ⟨b, 0, none⟩) := by
    cases r0 with
    | ptr _ _ b hl hb => exact ⟨b, hb, rfl⟩
  have hmu := st.mu 0 (drB L at_) b rfl rfl (.inl hLb)
  obtain ⟨g, us, hg, hblk, hrep, hone⟩ := st.blk 0 (drB L at_) rfl
  rw [hLb] at hg
  injection hg with hg
  subst hg
  obtain ⟨x, y, rfl, hx, hy⟩ : ∃ x y, us = [x, y] ∧ ARep 1 σ F w (bsw L) x ∧ ARep 1 σ F w (iw at_) y := by
    match us, hrep with
    | [x, y], hrep => exact ⟨x, y, rfl, hrep.1, hrep.2.1⟩
  have hy := hy.v_eq
  subst hy
  cases hx with
  | lst hx =>
  cases hx with
  | lst _ _ oa n c b' o hn hc hnil ho hsz hex hrp =>
  rw [List.length_map] at hn
  subst hn
  have hcell : ∀ j v, (bvals L)[j]? = some v → w.cell? ⟨b', o + j, none⟩ = some v := by
    intro j v hj
    have hjl : j < L.length := by have := (List.getElem?_eq_some_iff.1 hj).1; rwa [dmap] at this
    obtain ⟨u, hu, _⟩ := hex j 0 hjl (Nat.zero_lt_one)
    have hr := hrp j 0 (enB L[j]) (.v (.int .u8 (L[j].toNat : Int))) u (by rw [List.getElem?_map, List.getElem?_eq_getElem hjl]; rfl) rfl hu
    cases hr
    rw [bvals_get hjl] at hj
    injection hj with hj
    subst hj
    simpa using hu
  have hcod : CodS w w.heap.size b oa c L := by
    refine ⟨at_, hblk, ?_, hat, hL⟩
    by_cases h0 : L = []
    · exact .inl h0
    · have hp : 0 < L.length := List.length_pos_iff.2 h0
      obtain ⟨e, hF⟩ := ho hp
      exact .inr ⟨b', o, e, (st.fsub b' hF).1, fun e => hmu.1 (e ▸ hF), hcell⟩
  refine (h w b oa c st.glob hmu.2.1 hcod).mono fun v w' ⟨hchg, hcs, a, hQ, hA⟩ => ?_
  obtain ⟨a', hblk', _, ha', _⟩ := hcs
  have hFb : ∀ k, F k → k ≠ b := fun k hk e => hmu.1 (e ▸ hk)
  have hFs : ∀ k, F k → w'.heap[k]? = w.heap[k]? := fun k hk => hchg.block k (st.fsub k hk).1 (hFb k hk)
  have look1 : ∀ k blk, Ax.look [(0, drB L a')] k = some blk → k = 0 ∧ blk = drB L a' := by
    intro k blk hk
    simp only [Ax.look] at hk
    cases hb0 : Nat.beq 0 k with
    | true => rw [hb0, cond_true] at hk; injection hk with hk; exact ⟨(Nat.eq_of_beq_eq_true hb0).symm, hk.symm⟩
    | false => rw [hb0, cond_false] at hk; cases hk
  refine ⟨a, 1, σ, (fun x => F x ∨ (w.heap.size ≤ x ∧ x < w'.heap.size)), [(0, drB L a')], ⟨hQ, rfl, a', ha', rfl⟩, ⟨?_, ?_, ?_, ?_, ?_, ?_, ?_⟩, ⟨Nat.le_refl _, fun _ _ => rfl, fun k hk => ⟨.inl hk, hFs k hk⟩, hchg.size⟩, hA 1 σ _ fun x h1 h2 => .inr ⟨h1, h2⟩⟩
  · exact Glob.chg st.glob hchg.size fun k hk => hchg.block k (Nat.lt_of_lt_of_le hk st.glob.1) (by have := hmu.2.1; omega)
  · exact hchg.mono fun k _ hk => ⟨0, _, rfl, rfl, by rw [hk]; exact .inl hLb⟩
  · rintro k (hk | ⟨h1, h2⟩)
    · exact ⟨Nat.lt_of_lt_of_le (st.fsub k hk).1 hchg.size, .inl hk⟩
    · exact ⟨h2, .inr (.inl h1)⟩
  · intro k blk hk
    rw [(look1 k blk hk).1]; exact Nat.zero_lt_one
  · intro k blk g hk hm hg
    obtain ⟨rfl, rfl⟩ := look1 k blk hk
    have hg := hg.flat rfl
    rw [hLb] at hg
    injection hg with hg
    subst hg
    refine ⟨?_, hmu.2.1, Nat.lt_of_lt_of_le hmu.2.2.1 hchg.size, .inl ⟨0, _, rfl, rfl, .inl hLb⟩⟩
    rintro (hk | ⟨h1, _⟩)
    · exact hmu.1 hk
    · have := hmu.2.2.1; omega
  · intro k k' blk blk' g hk hk' _ _ _ _
    rw [(look1 k blk hk).1, (look1 k' blk' hk').1]
  · intro k blk hk
    obtain ⟨rfl, rfl⟩ := look1 k blk hk
    refine ⟨b, _, hLb, hblk', ⟨?_, .v _, trivial⟩, fun v hv => ?_⟩
    · refine .lst ((FRep.lst 1 (L.map enB) oa L.length c b' o (by rw [List.length_map]) hc hnil ho hsz hex hrp).mono fun k hk => ⟨.inl hk, hFs k hk⟩)
    · simp only [List.mem_cons, List.not_mem_nil, or_false] at hv
      rcases hv with rfl | rfl <;> rfl
theorem nextW {W : World} {L : List UInt8} {at_ : Nat} (hat : at_ ≤ L.length) (hL : L.length ≤ 65536) (k : Nat) (hk : 1 ≤ k) (hk2 : k ≤ 65536) :
    AFn Tryd.prog (GW W) 12 [.ptr 0 0, iw k] 1 [(0, drB L at_)] (fun a m H => (∃ x : Nat, a = iw x ∧ x < k) ∧ Drs L m H) :=
  afn_cod (l := [.int .i64 k]) hat hL _ fun w b oa c _ _ hc => (nextS_ok w.heap.size b k oa c L w hk hk2 hc (Nat.le_refl _)).mono fun v w' ⟨x, e, hx, hO, hC⟩ => ⟨Chg.ofOnly hO, hC, iw x, ⟨x, rfl, hx⟩, fun n σ F _ => by subst e; exact .v _⟩
theorem textW {W : World} (hW : Ld W) {L : List UInt8} {at_ : Nat} (hat : at_ ≤ L.length) (hL : L.length ≤ 65536) :
    AFn Tryd.prog (GW W) 55 [.ptr 0 0] 1 [(0, drB L at_)] (fun a m H => (∃ s : ByteArray, a = .v (.string s) ∧ s.size ≤ 100) ∧ Drs L m H) :=
  afn_cod (l := []) hat hL _ fun w b oa c hG hb hc => (textS_ok W hW w.heap.size b hb oa c L w hG hc (Nat.le_refl _)).mono fun v w' ⟨s, e, hs, hO, hC⟩ => ⟨Chg.ofOnly hO, hC, .v (.string s), ⟨s, rfl, hs⟩, fun n σ F _ => by subst e; exact .v _⟩
def enS (s : ByteArray) : List FV := [.v (.string s)]
theorem own_frep {w : World} {B E c : Nat} {oa : Option Addr} {ts : List ByteArray} (h : Own w B E 1 oa ts.length c (ts.map .string)) {F : Nat → Prop} (hF : ∀ x, B ≤ x → x < w.heap.size → F x) : FRep F w (.lst 1 (ts.map enS)) (.slice oa ts.length c) := by
  rcases Nat.eq_zero_or_pos ts.length with h0 | h0
  · have ht : ts = [] := List.eq_nil_of_length_eq_zero h0
    subst ht
    refine .lst 1 [] oa 0 c 0 0 rfl (Nat.zero_le _) (fun e => ?_) (fun h => absurd h (Nat.lt_irrefl 0)) (fun row hr => by cases hr) (fun i j hi => absurd hi (Nat.not_lt_zero i)) (fun i j row a v hi => by simp at hi)
    rcases h.2 with ⟨hv, _⟩ | ⟨g, cap, cur, hv, _⟩
    · injection hv
    · injection hv with h1; rw [e] at h1; cases h1
  · obtain ⟨g, cur, hg, _, hB, hle, _, hcl, htk⟩ := h.blk h0
    have hr := h.row
    obtain ⟨b, o, e, hb, hc⟩ := hr.get (by rw [List.length_map]; exact h0)
    rw [hg] at e
    injection e with e
    injection e with e1 e2
    subst e1; subst e2
    have cell : ∀ i, (hi : i < ts.length) → w.cell? ⟨g, 0 + (i * 1 + 0), none⟩ = some (.string ts[i]) := fun i hi => by
      have := hc i (.string ts[i]) (by rw [List.getElem?_map, List.getElem?_eq_getElem hi]; rfl)
      simpa using this
    refine .lst 1 (ts.map enS) oa ts.length c g 0 (by rw [List.length_map]) hle (fun e => by rw [hg] at e; cases e) (fun _ => ⟨hg, hF g (h.ge g (by rw [hg]; rfl)).1 hb⟩) (fun row hrow => by obtain ⟨s, _, rfl⟩ := List.mem_map.1 hrow; rfl) (fun i j hi hj => ?_) fun i j row a v hi hj hv => ?_
    · obtain rfl : j = 0 := by omega
      exact ⟨_, cell i hi, rfl⟩
    · rw [List.getElem?_map] at hi
      cases hl : ts[i]? with
      | none => rw [hl] at hi; cases hi
      | some s =>
        rw [hl] at hi
        simp only [Option.map_some, Option.some.injEq] at hi
        subst hi
        obtain ⟨hil, rfl⟩ := List.getElem?_eq_some_iff.1 hl
        have hj0 : j = 0 := by have := (List.getElem?_eq_some_iff.1 hj).1; simp [enS] at this; exact this
        subst hj0
        rw [cell i hil] at hv
        injection hv with hv
        subst hv
        injection hj with hj
        subst hj
        exact .v _
/-- a value that was drawn -/
def VW (a : AV) : Prop := ∃ (k n : Int) (t : ByteArray) (ts : List ByteArray), a = .agg [iw k, iw n, .v (.string t), .lst 1 (ts.map enS)] ∧ (-9223372036854775808 ≤ n ∧ n ≤ 9223372036854775807) ∧ t.size ≤ 100 ∧ ts.length ≤ 3
theorem valueW {W : World} (hW : Ld W) {L : List UInt8} {at_ : Nat} (hat : at_ ≤ L.length) (hL : L.length ≤ 65536) (k : Int) :
    AFn Tryd.prog (GW W) 45 [.ptr 0 0, iw k] 1 [(0, drB L at_)] (fun a m H => VW a ∧ Drs L m H) :=
  afn_cod (l := [.int .i64 k]) hat hL VW fun w b oa c hG hb hc => (valueS_ok W hW w.heap.size b hb oa c L k w hG hc (Nat.le_refl _)).mono fun v w' ⟨k', n, t, oa2, c2, ts, e, hn, ht, ho, hl3, hC, hcs⟩ => by
    subst e
    refine ⟨hC, hcs, .agg [iw k', iw n, .v (.string t), .lst 1 (ts.map enS)], ⟨k', n, t, ts, rfl, hn, ht, hl3⟩, fun m σ F hF => ?_⟩
    refine .agg _ [.int .i64 k', .int .i64 n, .string t, .slice oa2 ts.length c2] rfl fun j a v ha hv => ?_
    match j, ha, hv with
    | 0, ha, hv => injection ha with ha; injection hv with hv; subst ha; subst hv; exact .v _
    | 1, ha, hv => injection ha with ha; injection hv with hv; subst ha; subst hv; exact .v _
    | 2, ha, hv => injection ha with ha; injection hv with hv; subst ha; subst hv; exact .v _
    | 3, ha, hv => injection ha with ha; injection hv with hv; subst ha; subst hv; exact .lst (own_frep ho fun x h1 h2 => hF x (by omega) h2)
theorem mixedW : Tryd.prog.follows .mixedOrders = true := by kernel_rfl
set_option maxRecDepth 100000 in
theorem newW (G : Glob) (l : List UInt8) (m : Nat) (hm : m ≤ 65536) : AFn Tryd.prog G 11 [bsw l, iw m] 0 [] (fun a n H => ∃ L : List UInt8, L.length ≤ m ∧ a = .ptr 0 0 ∧ n = 1 ∧ H = [(0, drB L 0)]) := by
  refine afn_of Tryd.func11 rfl mixedW (by kernel_rfl) ?_
  conv => whnf
  refine vif_split (fun h => ?_) (fun h => ?_)
  · have h : m < l.length := by have := of_decide_eq_true h; rw [List.length_map] at this; omega
    conv => whnf
    refine ABd.mk' 0 m rfl rfl (by omega) (by rw [List.length_map]; omega) ?_
    conv => whnf
    refine aend (.ptr 0 0) 1 [(0, drB (l.take m) 0)] [(0, .lab 0)] [] ⟨l.take m, by rw [List.length_take]; omega, rfl, rfl, rfl⟩ rfl ?_ (by repeat' (first | rfl | trivial | apply And.intro))
    repeat' (first | rfl | trivial | exact List.map_take | exact List.map_take.symm | apply And.intro)
  · have h : l.length ≤ m := by have := of_decide_eq_false h; rw [List.length_map] at this; omega
    conv => whnf
    exact aend (.ptr 0 0) 1 [(0, drB l 0)] [(0, .lab 0)] [] ⟨l, h, rfl, rfl, rfl⟩ rfl (by repeat' (first | rfl | trivial | apply And.intro)) (by repeat' (first | rfl | trivial | apply And.intro))
set_option maxRecDepth 100000 in
theorem anyW {W : World} (hW : Ld W) {L : List UInt8} {at_ : Nat} (hat : at_ ≤ L.length) (hL : L.length ≤ 65536) :
    AFn Tryd.prog (GW W) 27 [.ptr 0 0] 1 [(0, drB L at_)] (fun a m H => VW a ∧ Drs L m H) := by
  refine afn_of Tryd.func27 rfl mixedW (by kernel_rfl) ?_
  conv => whnf
  refine acallM [0] [] (by kernel_rfl) (nextW hat hL 5 (by decide) (by decide)) rfl (by repeat' (first | rfl | trivial | apply And.intro)) (by repeat' (first | rfl | trivial | apply And.intro)) ?_
  rintro _ _ _ ⟨⟨x, rfl, hx⟩, rfl, a1, ha1, rfl⟩
  refine ⟨rfl, ?_⟩
  conv => whnf
  refine AAr.i64 (by omega) ?_
  conv => whnf
  refine acallM [0] [] (by kernel_rfl) (valueW hW ha1 hL _) rfl (by repeat' (first | rfl | trivial | apply And.intro)) (by repeat' (first | rfl | trivial | apply And.intro)) ?_
  rintro _ _ _ ⟨⟨k, n, t, ts, rfl, hn, ht, hl3⟩, rfl, a2, ha2, rfl⟩
  refine ⟨rfl, ?_⟩
  conv => whnf
  exact aend (.agg [iw k, iw n, .v (.string t), .lst 1 (ts.map enS)]) 1 [(0, drB L a2)] [] [] ⟨⟨k, n, t, ts, rfl, hn, ht, hl3⟩, rfl, a2, ha2, rfl⟩ rfl (by repeat' (first | rfl | trivial | apply And.intro)) (by repeat' (first | rfl | trivial | apply And.intro))
end Go.Proofs.YthnncehddnfjmaaDoor.Dw
