/- Abstract values: what a value stands for (numbers and texts themselves, memory that changes no more as lists of rows, memory of the call's own by labels), and the state in which a walk stands. No condition. -/
import Derived.Test.YtmhpfadbmpipkaaGreatSg
import Derived.Test.YtmhpfadbmpipkaaGreatMp
set_option linter.unusedVariables false
set_option linter.unusedSimpArgs false
namespace Go.Proofs.YtmhpfadbmpipkaaGreat.Ax
open Go Go.RowKit Go.Proofs.YtmhpfadbmpipkaaGreat.Vc

/-- values within memory that changes no more -/
inductive FV where
  | top
  | v (x : Value)
  | lst (sz : Nat) (l : List (List FV))
  | fp (cs : List FV) (o : Nat)
/-- values of a walk: labels (ell) name memory of the call's own -/
inductive AV where
  | top
  | v (x : Value)
  | lst (sz : Nat) (l : List (List FV))
  | fp (cs : List FV) (o : Nat)
  | ptr (ell o : Nat)
  | ep (ell i o : Nat)
  | own (ell : Nat)
  | sub (ell o n : Nat)
  | mp (ell : Nat)
  | fn (f : Fn) (first captured : List AV)
  | agg (cs : List AV)
  | tup (vs : List AV)
inductive ABlk where
  | var (t : TypeId) (cs : List AV)
  | rows (t : TypeId) (sz : Nat) (l : List (List FV))
  | fz (sz : Nat) (l : List (List FV))
  | map (M : ByteArray → Option Value)
  | itr (s : ByteArray) (p : Nat)
def ABlk.own : ABlk → Bool
  | .fz _ _ => false
  | _ => true
abbrev AHeap := List (Nat × ABlk)
def look (H : AHeap) (l : Nat) : Option ABlk :=
  match H with
  | [] => none
  | p :: r => bif Nat.beq p.1 l then some p.2 else look r l
/-- the block, the length, the capacity and the size of a row of a label -/
structure Loc where
  b : Option Nat
  n : Nat
  c : Nat
  sz : Nat
def Loc.oa (L : Loc) : Option Addr := L.b.map fun g => ⟨g, 0, none⟩

/-! what a value of frozen memory stands for -/
inductive FRep (F : Nat → Prop) (w : World) : FV → Value → Prop
  | top (x : Value) : FRep F w .top x
  | v (x : Value) : FRep F w (.v x) x
  | lst (sz : Nat) (l : List (List FV)) (oa : Option Addr) (n c b o : Nat) (hn : n = l.length) (hc : n ≤ c) (hnil : oa = none → c = 0) (ho : 0 < n → oa = some ⟨b, o, none⟩ ∧ F b)
      (hsz : ∀ row ∈ l, row.length = sz) (hex : ∀ i j, i < n → j < sz → ∃ v, w.cell? ⟨b, o + (i * sz + j), none⟩ = some v ∧ v.oneCell' = true)
      (hrep : ∀ i j row a v, l[i]? = some row → row[j]? = some a → w.cell? ⟨b, o + (i * sz + j), none⟩ = some v → FRep F w a v) : FRep F w (.lst sz l) (.slice oa n c)
  | fp (cs : List FV) (o b off : Nat) (hb : F b) (hex : ∀ j, j < cs.length → ∃ v, w.cell? ⟨b, off + j, none⟩ = some v ∧ v.oneCell' = true)
      (hrep : ∀ j a v, cs[j]? = some a → w.cell? ⟨b, off + j, none⟩ = some v → FRep F w a v) : FRep F w (.fp cs o) (.pointer (some ⟨b, off + o, none⟩))

theorem cell_heap {w w' : World} {b : Nat} (h : w'.heap[b]? = w.heap[b]?) (o : Nat) : w'.cell? ⟨b, o, none⟩ = w.cell? ⟨b, o, none⟩ := by
  unfold World.cell?
  rw [h]
theorem FRep.mono {F F' : Nat → Prop} {w w' : World} (h : ∀ b, F b → F' b ∧ w'.heap[b]? = w.heap[b]?) {a : FV} {v : Value} (r : FRep F w a v) : FRep F' w' a v := by
  induction r with
  | top x => exact .top x
  | v x => exact .v x
  | lst sz l oa n c b o hn hc hnil ho hsz hex hrep ih =>
    rcases Nat.eq_zero_or_pos n with h0 | h0
    · subst h0
      have hl : l = [] := List.eq_nil_of_length_eq_zero hn.symm
      subst hl
      exact .lst sz [] oa 0 c b o rfl hc hnil (fun h => absurd h (Nat.lt_irrefl 0)) hsz (fun i j hi => absurd hi (Nat.not_lt_zero i)) (fun i j row a v hi => by simp at hi)
    · have hb := (ho h0).2
      have e := cell_heap (h b hb).2
      exact .lst sz l oa n c b o hn hc hnil (fun _ => ⟨(ho h0).1, (h b hb).1⟩) hsz (fun i j hi hj => by rw [e]; exact hex i j hi hj)
        (fun i j row a v h1 h2 h3 => ih i j row a v h1 h2 (by rw [e] at h3; exact h3))
  | fp cs o b off hb hex hrep ih =>
    have e := cell_heap (h b hb).2
    exact .fp cs o b off (h b hb).1 (fun j hj => by rw [e]; exact hex j hj) (fun j a v h1 h2 => ih j a v h1 (by rw [e] at h2; exact h2))

/-! what a value of a walk stands for -/
inductive ARep (n : Nat) (σ : Nat → Loc) (F : Nat → Prop) (w : World) : AV → Value → Prop
  | top (x : Value) : ARep n σ F w .top x
  | v (x : Value) : ARep n σ F w (.v x) x
  | lst {sz : Nat} {l : List (List FV)} {x : Value} (h : FRep F w (.lst sz l) x) : ARep n σ F w (.lst sz l) x
  | fp {cs : List FV} {o : Nat} {x : Value} (h : FRep F w (.fp cs o) x) : ARep n σ F w (.fp cs o) x
  | ptr (ell o b : Nat) (hl : ell < n) (hb : (σ ell).b = some b) : ARep n σ F w (.ptr ell o) (.pointer (some ⟨b, o, none⟩))
  | ep (ell i o b : Nat) (hl : ell < n) (hb : (σ ell).b = some b) : ARep n σ F w (.ep ell i o) (.pointer (some ⟨b, i * (σ ell).sz + o, none⟩))
  | own (ell : Nat) (hl : ell < n) : ARep n σ F w (.own ell) (.slice (σ ell).oa (σ ell).n (σ ell).c)
  | ownz (ell : Nat) (oa : Option Addr) (hl : ell < n) (hn : (σ ell).n = 0) (hc : (σ ell).c = 0) : ARep n σ F w (.own ell) (.slice oa 0 0)
  | sub (ell o k : Nat) (oa : Option Addr) (c : Nat) (hl : ell < n) (hk : o + k ≤ (σ ell).n) (hc : k ≤ c) (hnil : oa = none → c = 0) (ho : 0 < k → ∃ b, (σ ell).b = some b ∧ oa = some ⟨b, o * (σ ell).sz, none⟩) : ARep n σ F w (.sub ell o k) (.slice oa k c)
  | mp (ell b : Nat) (hl : ell < n) (hb : (σ ell).b = some b) : ARep n σ F w (.mp ell) (.map (some b))
  | fn (f : Fn) (xs ys : List AV) (us vs : List Value) (hx : us.length = xs.length) (hy : vs.length = ys.length)
      (rx : ∀ (j : Nat) a v, xs[j]? = some a → us[j]? = some v → ARep n σ F w a v) (ry : ∀ (j : Nat) a v, ys[j]? = some a → vs[j]? = some v → ARep n σ F w a v) : ARep n σ F w (.fn f xs ys) (.func f us.toArray vs.toArray)
  | agg (xs : List AV) (us : List Value) (hx : us.length = xs.length) (rx : ∀ (j : Nat) a v, xs[j]? = some a → us[j]? = some v → ARep n σ F w a v) : ARep n σ F w (.agg xs) (.agg us.toArray)
  | tup (xs : List AV) (us : List Value) (hx : us.length = xs.length) (rx : ∀ (j : Nat) a v, xs[j]? = some a → us[j]? = some v → ARep n σ F w a v) : ARep n σ F w (.tup xs) (.tuple us.toArray)

/-- from one moment of a walk to a later one -/
structure Ext (n : Nat) (σ : Nat → Loc) (F : Nat → Prop) (w : World) (n' : Nat) (σ' : Nat → Loc) (F' : Nat → Prop) (w' : World) : Prop where
  le : n ≤ n'
  s : ∀ ell, ell < n → σ' ell = σ ell
  f : ∀ b, F b → F' b ∧ w'.heap[b]? = w.heap[b]?
  sz : w.heap.size ≤ w'.heap.size
theorem Ext.refl (n : Nat) (σ : Nat → Loc) (F : Nat → Prop) (w : World) : Ext n σ F w n σ F w := ⟨Nat.le_refl _, fun _ _ => rfl, fun _ h => ⟨h, rfl⟩, Nat.le_refl _⟩
theorem Ext.trans {n n' n'' : Nat} {σ σ' σ'' : Nat → Loc} {F F' F'' : Nat → Prop} {w w' w'' : World} (h : Ext n σ F w n' σ' F' w') (k : Ext n' σ' F' w' n'' σ'' F'' w'') : Ext n σ F w n'' σ'' F'' w'' :=
  ⟨Nat.le_trans h.le k.le, fun l hl => (k.s l (Nat.lt_of_lt_of_le hl h.le)).trans (h.s l hl), fun b hb => ⟨(k.f b (h.f b hb).1).1, (k.f b (h.f b hb).1).2.trans (h.f b hb).2⟩, Nat.le_trans h.sz k.sz⟩
theorem ARep.mono {n n' : Nat} {σ σ' : Nat → Loc} {F F' : Nat → Prop} {w w' : World} (e : Ext n σ F w n' σ' F' w') {a : AV} {v : Value} (r : ARep n σ F w a v) : ARep n' σ' F' w' a v := by
  induction r with
  | top x => exact .top x
  | v x => exact .v x
  | lst h => exact .lst (h.mono e.f)
  | fp h => exact .fp (h.mono e.f)
  | ptr l o b hl hb => exact .ptr l o b (Nat.lt_of_lt_of_le hl e.le) (by rw [e.s l hl]; exact hb)
  | ep l i o b hl hb => rw [← e.s l hl]; exact .ep l i o b (Nat.lt_of_lt_of_le hl e.le) (by rw [e.s l hl]; exact hb)
  | own l hl => rw [← e.s l hl]; exact .own l (Nat.lt_of_lt_of_le hl e.le)
  | ownz l oa hl hn hc => exact .ownz l oa (Nat.lt_of_lt_of_le hl e.le) (by rw [e.s l hl]; exact hn) (by rw [e.s l hl]; exact hc)
  | sub l o k oa c hl hk hc hnil ho => exact .sub l o k oa c (Nat.lt_of_lt_of_le hl e.le) (by rw [e.s l hl]; exact hk) hc hnil (by rw [e.s l hl]; exact ho)
  | mp l b hl hb => exact .mp l b (Nat.lt_of_lt_of_le hl e.le) (by rw [e.s l hl]; exact hb)
  | fn f xs ys us vs hx hy _ _ ih1 ih2 => exact .fn f xs ys us vs hx hy ih1 ih2
  | agg xs us hx _ ih => exact .agg xs us hx ih
  | tup xs us hx _ ih => exact .tup xs us hx ih

/-! lists of values -/
def RepL (n : Nat) (σ : Nat → Loc) (F : Nat → Prop) (w : World) : List AV → List Value → Prop
  | [], [] => True
  | a :: as, v :: vs => ARep n σ F w a v ∧ RepL n σ F w as vs
  | _, _ => False
section
variable {n : Nat} {σ : Nat → Loc} {F : Nat → Prop} {w : World}
theorem RepL.len : ∀ {as : List AV} {vs : List Value}, RepL n σ F w as vs → vs.length = as.length := by
  intro as
  induction as with
  | nil => intro vs h; cases vs with
    | nil => rfl
    | cons _ _ => exact h.elim
  | cons a as ih => intro vs h; cases vs with
    | nil => exact h.elim
    | cons v vs => simp [ih h.2]
theorem RepL.at : ∀ {as : List AV} {vs : List Value}, RepL n σ F w as vs → ∀ (j : Nat) a v, as[j]? = some a → vs[j]? = some v → ARep n σ F w a v := by
  intro as
  induction as with
  | nil => intro vs h j a v h1; simp at h1
  | cons a as ih => intro vs h; cases vs with
    | nil => exact h.elim
    | cons v vs =>
      intro j x y h1 h2
      cases j with
      | zero => simp only [List.getElem?_cons_zero, Option.some.injEq] at h1 h2; subst h1; subst h2; exact h.1
      | succ j => exact ih h.2 j x y (by simpa using h1) (by simpa using h2)
theorem RepL.of : ∀ {as : List AV} {vs : List Value}, vs.length = as.length → (∀ (j : Nat) a v, as[j]? = some a → vs[j]? = some v → ARep n σ F w a v) → RepL n σ F w as vs := by
  intro as
  induction as with
  | nil => intro vs h _; cases vs with
    | nil => trivial
    | cons _ _ => simp at h
  | cons a as ih => intro vs h k; cases vs with
    | nil => simp at h
    | cons v vs => exact ⟨k 0 a v rfl rfl, ih (by simpa using h) fun j x y h1 h2 => k (j + 1) x y (by simpa using h1) (by simpa using h2)⟩
theorem RepL.mono {n' : Nat} {σ' : Nat → Loc} {F' : Nat → Prop} {w' : World} (e : Ext n σ F w n' σ' F' w') {as : List AV} {vs : List Value} (h : RepL n σ F w as vs) : RepL n' σ' F' w' as vs :=
  .of h.len fun j a v h1 h2 => (h.at j a v h1 h2).mono e
theorem RepL.ofAgg {as : List AV} {v : Value} (h : ARep n σ F w (.agg as) v) : ∃ vs, v = .agg vs.toArray ∧ RepL n σ F w as vs := by
  cases h with
  | agg _ us hx rx => exact ⟨us, rfl, .of hx rx⟩
theorem RepL.agg {as : List AV} {vs : List Value} (h : RepL n σ F w as vs) : ARep n σ F w (.agg as) (.agg vs.toArray) := .agg as vs h.len h.at
theorem RepL.tup {as : List AV} {vs : List Value} (h : RepL n σ F w as vs) : ARep n σ F w (.tup as) (.tuple vs.toArray) := .tup as vs h.len h.at
theorem RepL.append {as bs : List AV} {vs us : List Value} (h : RepL n σ F w as vs) (k : RepL n σ F w bs us) : RepL n σ F w (as ++ bs) (vs ++ us) := by
  induction as generalizing vs with
  | nil => cases vs with
    | nil => exact k
    | cons _ _ => exact h.elim
  | cons a as ih => cases vs with
    | nil => exact h.elim
    | cons v vs => exact ⟨h.1, ih h.2⟩
theorem RepL.drop {as : List AV} {vs : List Value} (h : RepL n σ F w as vs) (k : Nat) : RepL n σ F w (as.drop k) (vs.drop k) :=
  .of (by simp [h.len]) fun j a v h1 h2 => h.at (k + j) a v (by simpa using h1) (by simpa using h2)
theorem RepL.take {as : List AV} {vs : List Value} (h : RepL n σ F w as vs) (k : Nat) : RepL n σ F w (as.take k) (vs.take k) :=
  .of (by simp [h.len]) fun j a v h1 h2 => h.at j a v (by rw [List.getElem?_take] at h1; split at h1; exact h1; cases h1) (by rw [List.getElem?_take] at h2; split at h2; exact h2; cases h2)
theorem RepL.set {as : List AV} {vs : List Value} (h : RepL n σ F w as vs) (k : Nat) {a : AV} {v : Value} (r : ARep n σ F w a v) : RepL n σ F w (as.set k a) (vs.set k v) :=
  .of (by simp [h.len]) fun j x y h1 h2 => by
    have hl := h.len
    rw [List.getElem?_set] at h1 h2
    by_cases e : k = j
    · subst e
      simp only [if_true] at h1 h2
      by_cases hk : k < as.length
      · rw [if_pos hk] at h1; rw [if_pos (by omega)] at h2
        injection h1 with h1; injection h2 with h2
        rw [← h1, ← h2]; exact r
      · rw [if_neg hk] at h1; cases h1
    · rw [if_neg e] at h1 h2; exact h.at j x y h1 h2
end
/-- a value of frozen memory, as one of the walk -/
def FV.up : FV → AV
  | .top => .top
  | .v x => .v x
  | .lst sz l => .lst sz l
  | .fp cs o => .fp cs o
theorem FRep.up {n : Nat} {σ : Nat → Loc} {F : Nat → Prop} {w : World} {a : FV} {v : Value} (h : FRep F w a v) : ARep n σ F w a.up v := by
  cases a with
  | top => exact .top v
  | v x => cases h; exact .v _
  | lst sz l => exact .lst h
  | fp cs o => exact .fp h

/-! memory -/
def RepR (F : Nat → Prop) (w : World) (sz : Nat) (l : List (List FV)) (xs : List Value) : Prop :=
  (∀ row ∈ l, row.length = sz) ∧ xs.length = l.length * sz ∧ (∀ v ∈ xs, v.oneCell' = true) ∧ ∀ i j row a v, l[i]? = some row → row[j]? = some a → xs[i * sz + j]? = some v → FRep F w a v
def BRep (n : Nat) (σ : Nat → Loc) (F : Nat → Prop) (w : World) (L : Loc) : ABlk → Prop
  | .var t cs => ∃ g vs, L.b = some g ∧ Blk w g vs t ∧ RepL n σ F w cs vs ∧ ∀ v ∈ vs, v.oneCell' = true
  | .rows t sz l => L.sz = sz ∧ L.n = l.length ∧ ∃ xs, Own w 0 t sz L.oa l.length L.c xs ∧ RepR F w sz l xs
  | .fz sz l => L.sz = sz ∧ L.n = l.length ∧ FRep F w (.lst sz l) (.slice L.oa L.n L.c) ∧ ∀ b o, L.oa = some ⟨b, o, none⟩ → o = 0
  | .map M => ∃ g, L.b = some g ∧ MapS w g M
  | .itr s p => ∃ g, L.b = some g ∧ w.heap[g]? = some (.stringIter s p)
/-- what stands in the program's variables throughout -/
structure Glob where
  nb : Nat
  val : Nat → Option (List Value)
def Glob.holds (G : Glob) (w : World) : Prop := G.nb ≤ w.heap.size ∧ ∀ g cs, G.val g = some cs → g < G.nb ∧ ∀ j v, cs[j]? = some v → w.cell? ⟨g, j, none⟩ = some v
/-- outside of the blocks M nothing that was there is changed -/
structure Chg (M : Nat → Prop) (w w' : World) : Prop where
  os : w'.os = w.os
  tape : w'.tape = w.tape
  output : w'.output = w.output
  size : w.heap.size ≤ w'.heap.size
  block : ∀ k, k < w.heap.size → ¬ M k → w'.heap[k]? = w.heap[k]?
theorem Chg.refl (M : Nat → Prop) (w : World) : Chg M w w := ⟨rfl, rfl, rfl, Nat.le_refl _, fun _ _ _ => rfl⟩
theorem Chg.trans {M M' : Nat → Prop} {u v w : World} (h : Chg M u v) (k : Chg M' v w) (hM : ∀ b, M' b → M b ∨ u.heap.size ≤ b) : Chg M u w :=
  ⟨k.os.trans h.os, k.tape.trans h.tape, k.output.trans h.output, Nat.le_trans h.size k.size, fun b hb hn =>
    (k.block b (Nat.lt_of_lt_of_le hb h.size) fun hm => (hM b hm).elim hn fun hge => by omega).trans (h.block b hb hn)⟩
theorem Chg.below {w w' : World} {M : Nat → Prop} {B : Nat} (h : Chg M w w') (hM : ∀ b, M b → B ≤ b) (hB : B ≤ w.heap.size) : Below B w w' :=
  ⟨h.os, h.tape, h.output, h.size, fun k hk => h.block k (by omega) fun hm => by have := hM k hm; omega⟩
theorem Chg.ofBelow {w w' : World} {B : Nat} (h : Below B w w') : Chg (fun b => B ≤ b) w w' := ⟨h.os, h.tape, h.output, h.size, fun k _ hn => h.block k (by omega)⟩
theorem Chg.ofBelow0 {w w' : World} (h : Below w.heap.size w w') : Chg (fun _ => False) w w' := ⟨h.os, h.tape, h.output, h.size, fun k hk _ => h.block k hk⟩
theorem Chg.ofOnly {w w' : World} {g : Nat} (h : Only g w w') : Chg (fun b => b = g) w w' := ⟨h.os, h.tape, h.output, Nat.le_of_eq h.size.symm, fun k _ hn => h.block k hn⟩
theorem Chg.mono {M M' : Nat → Prop} {w w' : World} (h : Chg M w w') (hM : ∀ b, b < w.heap.size → M b → M' b) : Chg M' w w' := ⟨h.os, h.tape, h.output, h.size, fun k hk hn => h.block k hk fun hm => hn (hM k hk hm)⟩
theorem Glob.chg {G : Glob} {w w' : World} (h : G.holds w) (hs : w.heap.size ≤ w'.heap.size) (hb : ∀ b, b < G.nb → w'.heap[b]? = w.heap[b]?) : G.holds w' :=
  ⟨Nat.le_trans h.1 hs, fun g cs hg => ⟨(h.2 g cs hg).1, fun j v hj => by rw [cell_heap (hb g (h.2 g cs hg).1)]; exact (h.2 g cs hg).2 j v hj⟩⟩

/-- the state of a walk that began in the world w₀, to which M₀ was given to be changed and F₀ to be read -/
structure St (G : Glob) (w₀ : World) (M₀ F₀ : Nat → Prop) (n : Nat) (σ : Nat → Loc) (F : Nat → Prop) (H : AHeap) (w : World) : Prop where
  glob : G.holds w
  chg : Chg M₀ w₀ w
  fsub : ∀ b, F b → b < w.heap.size ∧ (F₀ b ∨ w₀.heap.size ≤ b ∨ M₀ b)
  lab : ∀ ell blk, look H ell = some blk → ell < n
  mu : ∀ ell blk g, look H ell = some blk → blk.own = true → (σ ell).b = some g → ¬ F g ∧ G.nb ≤ g ∧ g < w.heap.size ∧ (M₀ g ∨ w₀.heap.size ≤ g)
  inj : ∀ ell ell' blk blk' g, look H ell = some blk → look H ell' = some blk' → blk.own = true → blk'.own = true → (σ ell).b = some g → (σ ell').b = some g → ell = ell'
  blk : ∀ ell blk, look H ell = some blk → BRep n σ F w (σ ell) blk
/-- the blocks of a heap that may be changed -/
def Mut (σ : Nat → Loc) (H : AHeap) (g : Nat) : Prop := ∃ ell blk, look H ell = some blk ∧ blk.own = true ∧ (σ ell).b = some g

theorem RepR.mono {F F' : Nat → Prop} {w w' : World} (h : ∀ b, F b → F' b ∧ w'.heap[b]? = w.heap[b]?) {sz : Nat} {l : List (List FV)} {xs : List Value} (r : RepR F w sz l xs) : RepR F' w' sz l xs :=
  ⟨r.1, r.2.1, r.2.2.1, fun i j row a v h1 h2 h3 => (r.2.2.2 i j row a v h1 h2 h3).mono h⟩
/-- the block of an untouched label -/
theorem own_same {w w' : World} {t sz : Nat} {oa : Option Addr} {n c : Nat} {xs : List Value} (h : Own w 0 t sz oa n c xs) (hs : w.heap.size ≤ w'.heap.size) (hb : ∀ g, oa.map (·.block) = some g → w'.heap[g]? = w.heap[g]?) : Own w' 0 t sz oa n c xs := by
  refine ⟨h.1, ?_⟩
  rcases h.2 with h2 | ⟨g, cap, cur, hv, hg, hh, h3⟩
  · exact .inl h2
  · injection hv with e1 e2 e3
    subst e1; subst e3
    exact .inr ⟨g, c, cur, rfl, hg, by rw [hb g rfl]; exact hh, h3⟩
theorem BRep.mono {n n' : Nat} {σ σ' : Nat → Loc} {F F' : Nat → Prop} {w w' : World} (e : Ext n σ F w n' σ' F' w') {L : Loc} {blk : ABlk} (h : BRep n σ F w L blk) (hb : blk.own = true → ∀ g, L.b = some g → w'.heap[g]? = w.heap[g]?) : BRep n' σ' F' w' L blk := by
  cases blk with
  | var t cs =>
    obtain ⟨g, vs, h1, h2, h3, h4⟩ := h
    exact ⟨g, vs, h1, (hb rfl g h1).trans h2, h3.mono e, h4⟩
  | rows t sz l =>
    obtain ⟨h1, h2, xs, h3, h4⟩ := h
    exact ⟨h1, h2, xs, own_same h3 e.sz (fun g hg => hb rfl g (by cases hL : L.b <;> simp_all [Loc.oa])), h4.mono e.f⟩
  | fz sz l => exact ⟨h.1, h.2.1, h.2.2.1.mono e.f, h.2.2.2⟩
  | map M =>
    obtain ⟨g, h1, h2⟩ := h
    exact ⟨g, h1, h2.heap (hb rfl g h1)⟩
  | itr s p =>
    obtain ⟨g, h1, h2⟩ := h
    exact ⟨g, h1, (hb rfl g h1).trans h2⟩
end Go.Proofs.YtmhpfadbmpipkaaGreat.Ax
