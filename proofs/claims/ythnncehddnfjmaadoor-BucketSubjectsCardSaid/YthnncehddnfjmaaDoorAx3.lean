/- The soundness of the operations that only read. No condition. -/
import Derived.Laws.Runes
import Derived.Test.YthnncehddnfjmaaDoorAx2
set_option linter.unusedVariables false
set_option linter.unusedSimpArgs false
namespace Go.Proofs.YthnncehddnfjmaaDoor.Ax
open Go Go.RowKit Go.Proofs.YthnncehddnfjmaaDoor.Vc

def HRep (n : Nat) (σ : Nat → Loc) (F : Nat → Prop) (w : World) (H : AHeap) : Prop := ∀ ell blk, look H ell = some blk → BRep n σ F w (σ ell) blk
/-- another world that agrees with w where a reading may look -/
structure Sees (σ : Nat → Loc) (F : Nat → Prop) (H : AHeap) (w u : World) : Prop where
  f : ∀ b, F b → u.heap[b]? = w.heap[b]?
  h : ∀ ell blk g, look H ell = some blk → blk.own = true → Occ w (σ ell) blk g → u.heap[g]? = w.heap[g]?
theorem Sees.refl (σ : Nat → Loc) (F : Nat → Prop) (H : AHeap) (w : World) : Sees σ F H w w := ⟨fun _ _ => rfl, fun _ _ _ _ _ _ => rfl⟩
theorem wr_ok {q : Bool} {u : World} {K : Value → World → Prop} {v : Value} (h : K v u) : wr q u K v u := by
  cases q with
  | false => exact h
  | true => exact ⟨rfl, h⟩
theorem ARep.v_eq {n : Nat} {σ : Nat → Loc} {F : Nat → Prop} {w : World} {x v : Value} (h : ARep n σ F w (.v x) v) : v = x := by cases h; rfl
theorem ofV_rep {n : Nat} {σ : Nat → Loc} {F : Nat → Prop} {w : World} (v : Value) : ARep n σ F w (ofV v) v := by
  have key : ∀ (cs : List Value), RepL n σ F w (cs.map .v) cs := fun cs => .of (by simp) fun j a v h1 h2 => by
    rw [List.getElem?_map, h2] at h1
    simp only [Option.map_some, Option.some.injEq] at h1
    rw [← h1]; exact .v _
  cases v with
  | agg cs => have := (key cs.toList).agg; rw [Array.toArray_toList] at this; exact this
  | tuple cs => have := (key cs.toList).tup; rw [Array.toArray_toList] at this; exact this
  | _ => exact .v _

/-- what a reading answers, in every world that looks so -/
def Ans (n : Nat) (σ : Nat → Loc) (F : Nat → Prop) (w : World) (K : AV → Prop) (S : World → Prop) (X : World → Bool → (Value → World → Prop) → Prop) : Prop :=
  ∃ a v, K a ∧ ARep n σ F w a v ∧ ∀ u q (Kv : Value → World → Prop), S u → Kv v u → X u q Kv

section
variable {P : Program} {n : Nat} {σ : Nat → Loc} {F : Nat → Prop} {w : World} {H : AHeap} {ρa : ARegs} {ρ : Regs} {K : AV → Prop} {S : World → Prop}
theorem opd_rep (hr : ∀ s, ARep n σ F w (ρa s) (ρ s)) (x : Operand) : ARep n σ F w (aopd ρa x) (opd ρ x) := by
  cases x with
  | tmp t => exact hr t
  | const v => exact ofV_rep v
  | global g => exact .v _
  | func f => exact .v _
theorem opds_rep (hr : ∀ s, ARep n σ F w (ρa s) (ρ s)) (xs : List Operand) : RepL n σ F w (xs.map (aopd ρa)) (xs.map (opd ρ)) := by
  induction xs with
  | nil => trivial
  | cons x r ih => exact ⟨opd_rep hr x, ih⟩
theorem parts_rep (hr : ∀ s, ARep n σ F w (ρa s) (ρ s)) (xs : List (Nat × Operand)) : RepL n σ F w (xs.map fun p => aopd ρa p.2) (xs.map fun p => opd ρ p.2) := by
  induction xs with
  | nil => trivial
  | cons x r ih => exact ⟨opd_rep hr x.2, ih⟩

theorem aInt_sound {op : BinOp} {k : IntKind} {a b : Int} (h : aInt op k a b K) : Ans n σ F w K S fun u _ Kv => vInt op k a b u Kv := by
  cases op <;> simp only [aInt] at h
  case add => exact ⟨_, _, h.ex, .v _, fun u q Kv _ hk => hk⟩
  case sub => exact ⟨_, _, h.ex, .v _, fun u q Kv _ hk => hk⟩
  case mul => exact ⟨_, _, h.ex, .v _, fun u q Kv _ hk => hk⟩
  case quo => exact ⟨_, _, h.go.ex, .v _, fun u q Kv _ hk => ⟨h.req, hk⟩⟩
  case rem => exact ⟨_, _, h.go, .v _, fun u q Kv _ hk => ⟨h.req, hk⟩⟩
  case shl => exact ⟨_, _, h.go.ex, .v _, fun u q Kv _ hk => ⟨h.req, hk⟩⟩
  case shr => exact ⟨_, _, h.go, .v _, fun u q Kv _ hk => ⟨h.req, hk⟩⟩
  all_goals exact ⟨_, _, h, .v _, fun u q Kv _ hk => hk⟩
theorem aStr_sound {op : BinOp} {a b : ByteArray} (h : aStr op a b K) : Ans n σ F w K S fun u _ Kv => vStr op a b u Kv := by
  cases op <;> simp only [aStr] at h
  case add => exact ⟨_, _, h.go, .v _, fun u q Kv _ hk => ⟨h.req, hk⟩⟩
  all_goals first | exact h.elim | exact ⟨_, _, h, .v _, fun u q Kv _ hk => hk⟩
theorem vals_rep : ∀ {xs : List AV} {us vs : List Value}, valsOf xs = some us → RepL n σ F w xs vs → vs = us := by
  intro xs
  induction xs with
  | nil => intro us vs h r; cases vs with
    | nil => simp only [valsOf, Option.some.injEq] at h; exact h
    | cons _ _ => exact r.elim
  | cons x xs ih => intro us vs h r; cases vs with
    | nil => exact r.elim
    | cons v vs =>
      cases x <;> simp only [valsOf] at h <;> try cases h
      split at h
      · rename_i l hl
        injection h with h
        rw [← h, ih hl r.2, r.1.v_eq]
      · cases h
theorem vs_xorU' {P : Program} {w : World} {K : Value → World → Prop} {k : IntKind} {n : Int} (c : K (.int k (bitsOp .xor k (bif k.signed then -1 else k.max) n)) w) : VSem P (Op.unary .xor (.int k n)) w K := by
  have e : (bif k.signed then (-1 : Int) else k.max) = if k.signed then -1 else k.max := by cases k.signed <;> rfl
  rw [e] at c
  refine vsem ?_ c
  simp [Op.unary, Op.intBits, bitsOp]
theorem aUn_sound {op : UnOp} {a : AV} {va : Value} (h : aUn op a K) (ra : ARep n σ F w a va) : Ans n σ F w K S fun u q Kv => vUn P q op va u Kv := by
  unfold aUn at h
  split at h
  · rw [ra.v_eq]; exact ⟨_, _, h, .v _, fun u q Kv _ hv => hv⟩
  · rw [ra.v_eq]; exact ⟨_, _, h.ex, .v _, fun u q Kv _ hv => hv⟩
  · rename_i k n
    rw [ra.v_eq]; exact ⟨_, _, h, .v _, fun u q Kv _ hv => vs_xorU' (wr_ok hv)⟩
  · exact h.elim
theorem RepL.get1 {as : List AV} {vs : List Value} {o : Nat} {a : AV} (r : RepL n σ F w as vs) (h : as[o]? = some a) : ∃ v, vs[o]? = some v ∧ ARep n σ F w a v := by
  have hl := r.len
  have ho := (List.getElem?_eq_some_iff.1 h).1
  exact ⟨vs[o], List.getElem?_eq_getElem (by omega), r.at o a _ h (List.getElem?_eq_getElem (by omega))⟩
theorem aField_sound {t : TypeId} {cs : List AV} {f : Nat} {vs : List Value} (h : aField P t cs f K) (r : RepL n σ F w cs vs) : Ans n σ F w K S fun u _ Kv => vField P t vs.toArray f u Kv := by
  unfold aField at h
  split at h
  · rename_i fs hu
    split at h
    · rename_i fd hf
      split at h
      · rename_i i ha hi
        cases hb : Nat.ble (fd.offset + i.size) cs.length with
        | false => rw [hb] at h; exact h.elim
        | true =>
          rw [hb, cond_true, afL_eq] at h
          exact ⟨_, _, h, ((r.drop fd.offset).take i.size).agg, fun u q Kv _ hv => by simp only [vField, hu, hf, ha, hi, forceL_eq]; exact hv⟩
      · rename_i i ha hi
        split at h
        · rename_i a hg
          rw [af_eq] at h
          obtain ⟨v, h1, h2⟩ := r.get1 hg
          exact ⟨_, v, h, h2, fun u q Kv _ hv => by simp only [vField, hu, hf, ha, hi, h1]; exact hv⟩
        · exact h.elim
      · exact h.elim
    · exact h.elim
  · exact h.elim
theorem offP_field {t : TypeId} {f d : Nat} (h : offP P t f = some d) (a : Addr) (u : World) (Kv : Value → World → Prop) (k : Kv (.pointer (some (a.add d))) u) : vFieldAddr P t a f u Kv := by
  unfold offP at h
  split at h
  · rename_i fs hu
    split at h
    · rename_i fd hf
      split at h
      · rename_i i hi
        cases hz : Nat.beq i.size 0 with
        | true => rw [hz] at h; cases h
        | false =>
          rw [hz, cond_false] at h
          injection h with h
          subst h
          simp only [vFieldAddr, hu, hf, hi, hz, cond_false]; exact k
      · cases h
    · cases h
  · cases h
theorem cells_rep {a : AV} {v : Value} (r : ARep n σ F w a v) (hne : a ≠ .top) : RepL n σ F w (cellsOf a) v.cells.toList := by
  cases r with
  | agg xs us hx rx => exact .of (by simpa [Value.cells, cellsOf] using hx) (by simpa [Value.cells, cellsOf] using rx)
  | v _ =>
    cases v with
    | agg cs =>
      refine .of (by simp [Value.cells, cellsOf]) fun j a v h1 h2 => ?_
      simp only [Value.cells] at h2
      simp only [cellsOf, List.getElem?_map] at h1
      rw [h2] at h1
      simp only [Option.map_some, Option.some.injEq] at h1
      rw [← h1]; exact .v _
    | _ => exact ⟨.v _, trivial⟩
  | top x => exact (hne rfl).elim
  | lst h =>
    obtain ⟨oa, m, c, rfl⟩ : ∃ oa m c, v = .slice oa m c := by cases h; exact ⟨_, _, _, rfl⟩
    exact ⟨.lst h, trivial⟩
  | fp h =>
    obtain ⟨p, rfl⟩ : ∃ p, v = .pointer p := by cases h; exact ⟨_, rfl⟩
    exact ⟨.fp h, trivial⟩
  | fm h =>
    obtain ⟨p, rfl⟩ : ∃ p, v = .map p := by cases h; exact ⟨_, rfl⟩
    exact ⟨.fm h, trivial⟩
  | ptr l o b hl hb => exact ⟨.ptr l o b hl hb, trivial⟩
  | ep l i o b hl hb => exact ⟨.ep l i o b hl hb, trivial⟩
  | own l hl => exact ⟨.own l hl, trivial⟩
  | ownz l oa hl hn hc => exact ⟨.ownz l oa hl hn hc, trivial⟩
  | sub l o k oa c hl hk hc hnil ho => exact ⟨.sub l o k oa c hl hk hc hnil ho, trivial⟩
  | mp l b hl hb => exact ⟨.mp l b hl hb, trivial⟩
  | fn f xs ys us vs hx hy rx ry => exact ⟨.fn f xs ys us vs hx hy rx ry, trivial⟩
  | tup xs us hx rx => exact ⟨.tup xs us hx rx, trivial⟩
theorem setA_rep : ∀ {vs : List AV} {us : List Value} {as : List AV} {bs : List Value} {off : Nat}, RepL n σ F w vs us → RepL n σ F w as bs → RepL n σ F w (setA as off vs) (setL bs off us) := by
  intro vs
  induction vs with
  | nil => intro us as bs off h k; cases us with
    | nil => exact k
    | cons _ _ => exact h.elim
  | cons v vs ih => intro us as bs off h k; cases us with
    | nil => exact h.elim
    | cons u us => exact ih h.2 (k.set off h.1)
theorem map_v_rep (l : List Value) : RepL n σ F w (l.map .v) l := .of (by simp) fun j a v h1 h2 => by
  rw [List.getElem?_map, h2] at h1
  simp only [Option.map_some, Option.some.injEq] at h1
  rw [← h1]; exact .v _
theorem fillA_rep (place : Nat → Option (Nat × Nat)) : ∀ {ks : List Nat} {ps : List AV} {us : List Value} {cells : List AV} {bs : List Value} {l : List AV}, RepL n σ F w ps us → RepL n σ F w cells bs →
    fillA place cells (ks.zip ps) = some l → ∃ m, fillL place bs (ks.zip us) = some m ∧ RepL n σ F w l m := by
  intro ks
  induction ks with
  | nil => intro ps us cells bs l _ hc h; simp only [List.zip_nil_left, fillA, Option.some.injEq] at h; subst h; exact ⟨bs, rfl, hc⟩
  | cons k ks ih =>
    intro ps us cells bs l hp hc h
    cases ps with
    | nil => cases us with
      | nil => simp only [List.zip_nil_right, fillA, Option.some.injEq] at h; subst h; exact ⟨bs, rfl, hc⟩
      | cons _ _ => exact hp.elim
    | cons p ps => cases us with
      | nil => exact hp.elim
      | cons u us =>
        simp only [List.zip_cons_cons, fillA] at h
        split at h
        · cases h
        · rename_i off size hpl
          cases hb : (notTop p && Nat.beq (cellsOf p).length size && Nat.ble (off + (cellsOf p).length) cells.length) with
          | false => rw [hb] at h; cases h
          | true =>
            rw [hb, cond_true] at h
            simp only [Bool.and_eq_true] at hb
            have hcr := cells_rep hp.1 (fun e => by rw [e] at hb; simp [notTop] at hb)
            obtain ⟨m, h1, h2⟩ := ih hp.2 (setA_rep hcr hc) h
            refine ⟨m, ?_, h2⟩
            simp only [List.zip_cons_cons, fillL, hpl]
            rw [hcr.len, hc.len, hb.1.2, hb.2, Bool.and_self, cond_true]
            exact h1
theorem aBuild_sound {t : TypeId} {ks : List Nat} {as : List AV} {vs : List Value} (h : aBuild P t (ks.zip as) K) (r : RepL n σ F w as vs) : Ans n σ F w K S fun u _ Kv => vBuild P t (ks.zip vs) u Kv := by
  unfold aBuild at h
  split at h
  · rename_i z fs hz hu
    split at h
    · rename_i pl hpl
      split at h
      · rename_i l hl
        rw [afL_eq] at h
        obtain ⟨m, h1, h2⟩ := fillA_rep _ r (map_v_rep z.cells.toList) hl
        exact ⟨_, _, h, h2.agg, fun u q Kv _ hv => by simp only [vBuild, hz, hu, hpl, h1, forceL_eq]; exact hv⟩
      · exact h.elim
    · exact h.elim
  · rename_i z m e hz hu
    split at h
    · rename_i i hi
      split at h
      · rename_i l hl
        rw [afL_eq] at h
        obtain ⟨m, h1, h2⟩ := fillA_rep _ r (map_v_rep z.cells.toList) hl
        exact ⟨_, _, h, h2.agg, fun u q Kv _ hv => by simp only [vBuild, hz, hu, hi, h1, forceL_eq]; exact hv⟩
      · exact h.elim
    · exact h.elim
  · exact h.elim
/-- reading a part of cells that stand in memory -/
theorem part1_sound {t : TypeId} {cs : List AV} {vs : List Value} {b base o : Nat} (h : part1 P t cs o K) (r : RepL n σ F w cs vs) (hc : ∀ u, S u → ∀ j v, vs[j]? = some v → u.cell? ⟨b, base + j, none⟩ = some v) :
    Ans n σ F w K S fun u q Kv => VSem P (loadVar t ⟨b, base + o, none⟩) u (wr q u Kv) := by
  unfold part1 at h
  split at h
  · rename_i k ha hs
    split at h
    · rename_i a hg
      rw [af_eq] at h
      obtain ⟨v, h1, h2⟩ := r.get1 hg
      exact ⟨_, v, h, h2, fun u q Kv hu hv => vs_load1 ha (hc u hu o v h1) (wr_ok hv)⟩
    · exact h.elim
  · rename_i k ha hs
    cases hb : Nat.ble (o + k) cs.length with
    | false => rw [hb] at h; exact h.elim
    | true =>
      rw [hb, cond_true, afL_eq] at h
      have hl := r.len
      have hle := Nat.le_of_ble_eq_true hb
      have hlen : ((vs.drop o).take k).length = k := by simp; omega
      refine ⟨_, _, h, ((r.drop o).take k).agg, fun u q Kv hu hv => vs_loadN ha (by rw [hlen]; exact hs) (fun j v hj => ?_) (wr_ok hv)⟩
      rw [add0, Nat.add_assoc]
      refine hc u hu (o + j) v ?_
      rw [List.getElem?_take] at hj
      split at hj
      · simpa using hj
      · cases hj
  · exact h.elim
theorem cells_list {u : World} {b base : Nat} : ∀ (m : Nat), (∀ j, j < m → ∃ v, u.cell? ⟨b, base + j, none⟩ = some v ∧ v.oneCell' = true) → ∃ vs : List Value, vs.length = m ∧ ∀ j v, vs[j]? = some v → u.cell? ⟨b, base + j, none⟩ = some v ∧ v.oneCell' = true := by
  intro m
  induction m with
  | zero => intro _; exact ⟨[], rfl, fun j v h => by simp at h⟩
  | succ m ih =>
    intro h
    obtain ⟨vs, h1, h2⟩ := ih fun j hj => h j (by omega)
    obtain ⟨v, h3⟩ := h m (by omega)
    refine ⟨vs ++ [v], by simp [h1], fun j x hj => ?_⟩
    by_cases hjm : j < vs.length
    · rw [List.getElem?_append_left hjm] at hj; exact h2 j x hj
    · rw [List.getElem?_append_right (by omega)] at hj
      have hj0 : j - vs.length = 0 := by
        have := (List.getElem?_eq_some_iff.1 hj).1
        simp at this; omega
      rw [hj0] at hj
      simp only [List.getElem?_cons_zero, Option.some.injEq] at hj
      have : j = m := by omega
      rw [this, ← hj]; exact h3
/-- the cells of a record of frozen memory -/
theorem fp_cells {cs : List FV} {o : Nat} {x : Value} (h : FRep F w (.fp cs o) x) : ∃ b off vs, x = .pointer (some ⟨b, off + o, none⟩) ∧ F b ∧ RepL n σ F w (cs.map FV.up) vs ∧ (∀ v ∈ vs, v.oneCell' = true) ∧ ∀ j v, vs[j]? = some v → w.cell? ⟨b, off + j, none⟩ = some v := by
  cases h with
  | fp _ _ b off hb hex hrep =>
    obtain ⟨vs, h1, h2⟩ := cells_list cs.length hex
    refine ⟨b, off, vs, rfl, hb, .of (by simp [h1]) fun j a v ha hv => ?_, fun v hv => ?_, fun j v hj => (h2 j v hj).1⟩
    · rw [List.getElem?_map] at ha
      cases hc : cs[j]? with
      | none => rw [hc] at ha; cases ha
      | some c =>
        rw [hc] at ha
        simp only [Option.map_some, Option.some.injEq] at ha
        rw [← ha]
        exact (hrep j c v hc (h2 j v hv).1).up
    · obtain ⟨j, hj⟩ := List.mem_iff_getElem?.1 hv
      exact (h2 j v hj).2
/-- the cells of a row of a label -/
theorem rows_cells {L : Loc} {H : AHeap} {ell : Nat} {t sz : Nat} {l : List (List FV)} {i : Nat} {row : List FV} (hL : L = σ ell) (hk : look H ell = some (.rows t sz l)) (hH : HRep n σ F w H) (hi : l[i]? = some row) :
    ∃ g vs, L.b = some g ∧ RepL n σ F w (row.map FV.up) vs ∧ ∀ j v, vs[j]? = some v → w.cell? ⟨g, i * sz + j, none⟩ = some v := by
  subst hL
  obtain ⟨h1, h2, xs, hO, hR⟩ := hH _ _ hk
  have hil := (List.getElem?_eq_some_iff.1 hi).1
  obtain ⟨g, cur, hg, _, hB, hle, _, hcl, htk⟩ := hO.blk (by omega)
  have hb : (σ ell).b = some g := by
    unfold Loc.oa at hg
    cases hx : (σ ell).b with
    | none => rw [hx] at hg; cases hg
    | some g' => rw [hx] at hg; simp at hg; rw [hg]
  have hrl : row.length = sz := hR.1 row (List.mem_of_getElem? hi)
  have hi1 : i * sz + sz ≤ l.length * sz := by
    have : (i + 1) * sz ≤ l.length * sz := Nat.mul_le_mul_right _ hil
    rw [Nat.add_mul, Nat.one_mul] at this; exact this
  refine ⟨g, (xs.drop (i * sz)).take sz, hb, .of ?_ fun j a v ha hv => ?_, fun j v hv => ?_⟩
  · have := hR.2.1
    simp [hrl]; omega
  · rw [List.getElem?_map] at ha
    cases hc : row[j]? with
    | none => rw [hc] at ha; cases ha
    | some c =>
      rw [hc] at ha
      simp only [Option.map_some, Option.some.injEq] at ha
      rw [← ha]
      rw [List.getElem?_take] at hv
      split at hv
      · exact (hR.2.2.2 i j row c v hi hc (by simpa using hv)).up
      · cases hv
  · rw [List.getElem?_take] at hv
    split at hv
    · rw [List.getElem?_drop] at hv
      rw [hB.cell]
      have hlt := (List.getElem?_eq_some_iff.1 hv).1
      rw [← htk] at hv
      rw [List.getElem?_take] at hv
      split at hv
      · exact hv
      · cases hv
    · cases hv
/-- the cells of a row of a frozen list -/
theorem lst_cells {sz : Nat} {l : List (List FV)} {oa : Option Addr} {m c i : Nat} {row : List FV} (h : FRep F w (.lst sz l) (.slice oa m c)) (hi : l[i]? = some row) :
    ∃ b o vs, oa = some ⟨b, o, none⟩ ∧ F b ∧ m = l.length ∧ RepL n σ F w (row.map FV.up) vs ∧ FRep F w (.fp row 0) (.pointer (some ⟨b, o + i * sz, none⟩)) ∧ ∀ j v, vs[j]? = some v → w.cell? ⟨b, o + i * sz + j, none⟩ = some v := by
  cases h with
  | lst _ _ _ _ _ b o hn hc hnil ho hsz hex hrep =>
    have hil := (List.getElem?_eq_some_iff.1 hi).1
    obtain ⟨e, hF⟩ := ho (by omega)
    have hrl := hsz row (List.mem_of_getElem? hi)
    have hfp : FRep F w (.fp row 0) (.pointer (some ⟨b, o + i * sz, none⟩)) := .fp row 0 b (o + i * sz) hF (fun j hj => by rw [Nat.add_assoc]; exact hex i j (by omega) (by omega)) (fun j a v h1 h2 => hrep i j row a v hi h1 (by rw [Nat.add_assoc] at h2; exact h2))
    obtain ⟨b', off, vs, e1, _, r, _, hcl⟩ := fp_cells (n := n) (σ := σ) hfp
    injection e1 with e1; injection e1 with e1; injection e1 with e1 e2
    subst e1
    have e2 : o + i * sz = off := e2
    subst e2
    exact ⟨b, o, vs, e, hF, hn, r, hfp, hcl⟩
theorem Sees.cell {u : World} {b : Nat} (h : Sees σ F H w u) (hb : F b) (o : Nat) : u.cell? ⟨b, o, none⟩ = w.cell? ⟨b, o, none⟩ := cell_heap (h.f b hb) o
theorem Sees.cellH {u : World} {g ell : Nat} {blk : ABlk} (h : Sees σ F H w u) (hk : look H ell = some blk) (ho : blk.own = true) (hg : (σ ell).b = some g) (o : Nat) : u.cell? ⟨g, o, none⟩ = w.cell? ⟨g, o, none⟩ := cell_heap (h.h ell blk g hk ho (.inl hg)) o
theorem aLoad_sound {t : TypeId} {a : AV} {va : Value} (h : aLoad P H t a K) (ra : ARep n σ F w a va) (hH : HRep n σ F w H) : ∃ p, va = .pointer (some p) ∧ Ans n σ F w K (Sees σ F H w) fun u q Kv => VSem P (loadVar t p) u (wr q u Kv) := by
  unfold aLoad at h
  split at h
  · rename_i l o
    cases ra with
    | ptr _ _ b hl hb =>
      refine ⟨_, rfl, ?_⟩
      split at h
      · rename_i T cs hk
        obtain ⟨g, vs, h1, h2, h3, _⟩ := hH _ _ hk
        rw [hb] at h1
        injection h1 with h1
        subst h1
        have := part1_sound (S := Sees σ F H w) (b := b) (base := 0) h h3 fun u hu j v hj => by rw [hu.cellH hk rfl hb, h2.cell, Nat.zero_add]; exact hj
        simpa only [Nat.zero_add] using this
      · exact h.elim
  · rename_i l i o
    cases ra with
    | ep _ _ _ b hl hb =>
      refine ⟨_, rfl, ?_⟩
      split at h
      · rename_i T sz m hk
        obtain ⟨row, hrow, h⟩ := h.ex
        obtain ⟨g, vs, h1, h2, h3⟩ := rows_cells rfl hk hH hrow
        rw [hb] at h1
        injection h1 with h1
        subst h1
        have e : (σ l).sz = sz := (hH _ _ hk).1
        rw [e]
        exact part1_sound (S := Sees σ F H w) h h2 fun u hu j v hj => by rw [hu.cellH hk rfl hb]; exact h3 j v hj
      · rename_i sz m hk
        obtain ⟨row, hrow, h⟩ := h.ex
        obtain ⟨e, e2, hf, h0⟩ := hH _ _ hk
        obtain ⟨b', o', vs, e3, hF, _, r, _, hcl⟩ := lst_cells (n := n) (σ := σ) hf hrow
        have ho := h0 _ _ e3
        subst ho
        have eb : b' = b := by
          unfold Loc.oa at e3
          rw [hb] at e3
          simp at e3
          exact e3.symm
        subst eb
        rw [e]
        simp only [Nat.zero_add] at hcl
        exact part1_sound (S := Sees σ F H w) h r fun u hu j v hj => by rw [hu.cell hF]; exact hcl j v hj
      · rename_i T sz m hh hk
        obtain ⟨q1, q2, xs, q3, q4, q5, q6⟩ := hH _ _ hk
        rw [q1]
        split at h
        · rename_i k ha hs
          by_cases he : ∃ e, hh = some (i, o, e)
          · obtain ⟨e, he⟩ := he
            obtain ⟨a1, a2, a3, ⟨row, a4, a5⟩, v, a6, a7⟩ := q6 i o e he
            obtain ⟨b', hb', hc⟩ := own_cell q3 a4 (q4.1 row (List.mem_of_getElem? a4)) a5 q4.2.1 a6
            rw [hb] at hb'
            injection hb' with hb'
            subst hb'
            exact ⟨_, v, h.hole e he, a7, fun u q Kv hu hv => vs_load1 ha (by rw [hu.cellH hk rfl hb]; exact hc) (wr_ok hv)⟩
          · obtain ⟨row, hrow, h⟩ := (h.other fun e he' => he ⟨e, he'⟩).ex
            have hil := (List.getElem?_eq_some_iff.1 hrow).1
            have hrl := q4.1 row (List.mem_of_getElem? hrow)
            have hi1 : i * sz + sz ≤ m.length * sz := by
              have : (i + 1) * sz ≤ m.length * sz := Nat.mul_le_mul_right _ hil
              rw [Nat.add_mul, Nat.one_mul] at this; exact this
            have hr : RepL n σ F w (row.map TV.up) ((xs.drop (i * sz)).take sz) := .of (by have := q4.2.1; simp [hrl]; omega) fun j a v h1 h2 => by
              rw [List.getElem?_map] at h1
              rw [List.getElem?_take] at h2
              split at h2
              · rw [List.getElem?_drop] at h2
                cases hc : row[j]? with
                | none => rw [hc] at h1; cases h1
                | some c =>
                  rw [hc] at h1
                  simp only [Option.map_some, Option.some.injEq] at h1
                  rw [← h1]
                  have := q4.2.2.2 i j row c v hrow hc h2
                  cases c with
                  | f x => exact FRep.up this
                  | n _ _ _ => exact .top v
              · cases h2
            refine part1_sound (S := Sees σ F H w) h hr fun u hu j v' hj => ?_
            rw [hu.cellH hk rfl hb]
            rw [List.getElem?_take] at hj
            split at hj
            · rename_i hjs
              rw [List.getElem?_drop] at hj
              obtain ⟨b'', hb'', hc'⟩ := own_cell (a := row[j]'(by omega)) q3 hrow hrl (List.getElem?_eq_getElem _) q4.2.1 hj
              rw [hb] at hb''
              injection hb'' with hb''
              rw [hb'']; exact hc'
            · cases hj
        · exact h.elim
      · exact h.elim
  · rename_i cs o
    cases ra with
    | fp hf =>
      obtain ⟨b, off, vs, rfl, hF, r, _, hcl⟩ := fp_cells (n := n) (σ := σ) hf
      exact ⟨_, rfl, part1_sound (S := Sees σ F H w) h r fun u hu j v hj => by rw [hu.cell hF]; exact hcl j v hj⟩
  · exact h.elim
/-- the cells of a list whose rows are known, in every world that looks so -/
theorem src_cells {s : AV} {v : Value} {sz : Nat} {l : List (List FV)} (h : rowsOf H s = some (sz, l)) (r : ARep n σ F w s v) (hH : HRep n σ F w H) :
    ∃ oa m c, v = .slice oa m c ∧ m = l.length ∧ ∀ i row, l[i]? = some row → ∃ b o vs, oa = some ⟨b, o, none⟩ ∧ RepL n σ F w (row.map FV.up) vs ∧ ∀ u, Sees σ F H w u → ∀ j v, vs[j]? = some v → u.cell? ⟨b, o + i * sz + j, none⟩ = some v := by
  have ofl : ∀ {oa : Option Addr} {m c : Nat} {l : List (List FV)}, FRep F w (.lst sz l) (.slice oa m c) → ∀ i row, l[i]? = some row → ∃ b o vs, oa = some ⟨b, o, none⟩ ∧ RepL n σ F w (row.map FV.up) vs ∧ ∀ u, Sees σ F H w u → ∀ j v, vs[j]? = some v → u.cell? ⟨b, o + i * sz + j, none⟩ = some v := by
    intro oa m c l hf i row hi
    obtain ⟨b, o, vs, e, hF, _, hr, _, hc⟩ := lst_cells (n := n) (σ := σ) hf hi
    exact ⟨b, o, vs, e, hr, fun u hu j v hj => by rw [hu.cell hF]; exact hc j v hj⟩
  unfold rowsOf at h
  split at h
  · simp only [Option.some.injEq, Prod.mk.injEq] at h
    obtain ⟨rfl, rfl⟩ := h
    cases r with
    | lst hf =>
      obtain ⟨oa, m, c, rfl⟩ : ∃ oa m c, v = .slice oa m c := by cases hf; exact ⟨_, _, _, rfl⟩
      exact ⟨oa, m, c, rfl, by cases hf; assumption, ofl hf⟩
  · split at h
    · rename_i l' T sz' m hk
      simp only [Option.some.injEq, Prod.mk.injEq] at h
      obtain ⟨rfl, rfl⟩ := h
      have hq := hH _ _ hk
      cases r with
      | ownz _ oa hl hn hc =>
        have : m = [] := List.eq_nil_of_length_eq_zero (by rw [← hq.2.1, hn])
        subst this
        exact ⟨_, _, _, rfl, rfl, fun i row hi => by simp at hi⟩
      | own _ hl =>
        refine ⟨_, _, _, rfl, hq.2.1, fun i row hi => ?_⟩
        obtain ⟨g, vs, e, hr, hc⟩ := rows_cells rfl hk hH hi
        exact ⟨g, 0, vs, by unfold Loc.oa; rw [e]; rfl, hr, fun u hu j v hj => by rw [hu.cellH hk rfl e, Nat.zero_add]; exact hc j v hj⟩
    · rename_i l' sz' m hk
      simp only [Option.some.injEq, Prod.mk.injEq] at h
      obtain ⟨rfl, rfl⟩ := h
      have hq := hH _ _ hk
      cases r with
      | ownz _ oa hl hn hc =>
        have : m = [] := List.eq_nil_of_length_eq_zero (by rw [← hq.2.1, hn])
        subst this
        exact ⟨_, _, _, rfl, rfl, fun i row hi => by simp at hi⟩
      | own _ hl => exact ⟨_, _, _, rfl, hq.2.1, ofl hq.2.2.1⟩
    · cases h
  · split at h
    · rename_i l' o k _ T sz' m hk
      simp only [Option.some.injEq, Prod.mk.injEq] at h
      obtain ⟨rfl, rfl⟩ := h
      have hq := hH _ _ hk
      cases r with
      | sub _ _ _ oa c hl hkk hc hnil ho =>
        rw [hq.2.1] at hkk
        refine ⟨_, _, _, rfl, by rw [List.length_take, List.length_drop]; omega, fun i row hi => ?_⟩
        have hil := (List.getElem?_eq_some_iff.1 hi).1
        rw [List.length_take] at hil
        obtain ⟨b, e1, e2⟩ := ho (by omega)
        rw [List.getElem?_take, if_pos (by omega), List.getElem?_drop] at hi
        obtain ⟨g, vs, e, hr, hcl⟩ := rows_cells rfl hk hH hi
        rw [e] at e1
        injection e1 with e1
        subst e1
        refine ⟨g, o * sz', vs, by rw [e2, hq.1], hr, fun u hu j v hj => ?_⟩
        rw [hu.cellH hk rfl e, ← Nat.add_mul]; exact hcl j v hj
    · rename_i l' o k _ sz' m hk
      simp only [Option.some.injEq, Prod.mk.injEq] at h
      obtain ⟨rfl, rfl⟩ := h
      have hq := hH _ _ hk
      cases r with
      | sub _ _ _ oa c hl hkk hc hnil ho =>
        rw [hq.2.1] at hkk
        refine ⟨_, _, _, rfl, by rw [List.length_take, List.length_drop]; omega, fun i row hi => ?_⟩
        have hil := (List.getElem?_eq_some_iff.1 hi).1
        rw [List.length_take] at hil
        obtain ⟨b, e1, e2⟩ := ho (by omega)
        rw [List.getElem?_take, if_pos (by omega), List.getElem?_drop] at hi
        obtain ⟨b', o', vs, e, hr, hcl⟩ := ofl hq.2.2.1 _ _ hi
        have h0 := hq.2.2.2 _ _ e
        subst h0
        unfold Loc.oa at e
        rw [e1] at e
        simp only [Option.map_some, Option.some.injEq, Addr.mk.injEq] at e
        obtain ⟨rfl, _⟩ := e
        refine ⟨b, o * sz', vs, by rw [e2, hq.1], hr, fun u hu j v hj => ?_⟩
        have := hcl u hu j v hj
        rw [Nat.zero_add, Nat.add_mul] at this; exact this
    · cases h
  · cases h
theorem aConv_sound {Hr : AHeap} {src dst : TypeId} {a : AV} {va : Value} (h : aConv P Hr src dst a K) (ra : ARep n σ F w a va) (hHr : HRep n σ F w Hr) (hS : ∀ u, S u → Sees σ F Hr w u) : Ans n σ F w K S fun u q Kv => vConv P q src dst va u Kv := by
  unfold aConv at h
  split at h
  · rename_i h1 h2
    rw [ra.v_eq]; exact ⟨_, _, h.ex, .v _, fun u q Kv _ hv => by simp only [vConv, h1, h2]; exact hv⟩
  · rename_i h1 h2
    rw [ra.v_eq]; exact ⟨_, _, h, .v _, fun u q Kv _ hv => by simp only [vConv, h1, h2]; exact hv⟩
  · rename_i d k n h1 h2
    rw [ra.v_eq]
    refine ⟨_, _, h, .v _, fun u q Kv _ hv => ?_⟩
    simp only [vConv, h1, h2]
    exact vsem (run_convert_int_string u src dst k n (by rw [h1]; rfl) h2) (wr_ok hv)
  · rename_i e a h1 h2
    split at h
    · rename_i h3
      split at h
      · rw [ra.v_eq]
        refine ⟨_, _, h, .v _, fun u q Kv _ hv => ?_⟩
        simp only [vConv, h1, h2]
        exact vs_b2s (l := []) h1 h3 h2 rfl (.inl rfl) (wr_ok hv)
      · split at h
        · rename_i sz l hl
          cases hz : Nat.beq sz 1 with
          | false => rw [hz] at h; exact h.elim
          | true =>
          rw [hz, cond_true] at h
          have hz := Nat.eq_of_beq_eq_true hz
          subst hz
          obtain ⟨s, rfl, hk⟩ := h.ex
          obtain ⟨oa, m, c, rfl, hm, hc⟩ := src_cells hl ra hHr
          refine ⟨_, _, hk, .v _, fun u q Kv hu hv => ?_⟩
          simp only [vConv, h1, h2]
          rw [List.length_map] at hm
          subst hm
          have one : ∀ i x, s[i]? = some x → ∃ b o, oa = some ⟨b, o, none⟩ ∧ u.cell? ⟨b, o + i * 1, none⟩ = some (.int .u8 (x.toNat : Int)) := by
            intro i x hi
            obtain ⟨b, o, vs, e, hr, hcl⟩ := hc i (enB x) (by rw [List.getElem?_map, hi]; rfl)
            obtain ⟨v, rfl⟩ : ∃ v, vs = [v] := by
              have := hr.len
              match vs, this with
              | [v], _ => exact ⟨v, rfl⟩
            have hv : v = .int .u8 (x.toNat : Int) := (show ARep n σ F w (.v (.int .u8 (x.toNat : Int))) v from hr.1).v_eq
            subst hv
            exact ⟨b, o, e, by have := hcl u (hS u hu) 0 _ rfl; simpa using this⟩
          cases oa with
          | none =>
            have hs : s = [] := by
              cases s with
              | nil => rfl
              | cons x r => obtain ⟨b, o, e, _⟩ := one 0 x rfl; cases e
            subst hs
            exact vs_b2s (l := []) h1 h3 h2 rfl (.inl rfl) (wr_ok hv)
          | some ad =>
            refine vsem (run_convert_bytes_back (P := P) u src dst _ ad c s h1 h3 h2 fun j hj => ?_) (wr_ok hv)
            obtain ⟨b, o, e1, e2⟩ := one j s[j] (List.getElem?_eq_getElem hj)
            injection e1 with e1
            subst e1
            rw [add0]
            rw [Nat.mul_one] at e2
            exact e2
        · exact h.elim
    · exact h.elim
  · exact h.elim
end
end Go.Proofs.YthnncehddnfjmaaDoor.Ax
