/- Joined parts of the proof. The walk of the reference's columns -/
import Derived.Test.YtmhpfadbmpipkaaGreatDoorPk14
import Derived.Test.YtmhpfadbmpipkaaGreatDoorPk16
set_option linter.unusedVariables false
set_option linter.unusedSimpArgs false
set_option maxRecDepth 100000
set_option maxHeartbeats 16000000
namespace Go.Proofs.YtmhpfadbmpipkaaGreatDoor.Cl
open Go Go.RowKit Go.Proofs Go.Proofs.YtmhpfadbmpipkaaGreatDoor.Vc Go.Proofs.YtmhpfadbmpipkaaGreatDoor.Ax
attribute [local irreducible] loadVar storeVar Instr.indexAt Instr.index Instr.sliceAt Instr.makeSlice Instr.lookup Instr.mapUpdate Instr.range Instr.next Instr.entry Instr.makeMap Builtin.append_ Builtin.copy_ Builtin.len_ Builtin.min_ Builtin.max_ Builtin.cap_ Builtin.delete_ Builtin.clear_ convert binOp eqGuard Op.unary Calls
section
attribute [local irreducible] best ints en bd txs dsT
abbrev ng (r ell : Nat) : Nat × AV := (r, .own ell)
abbrev nx (r : Nat) (x : FV) : Nat × AV := (r, x.up)
abbrev nr (ell t : Nat) (R : List (List FV)) : Nat × ABlk := (ell, .rows t 1 R)
abbrev no (ell t : Nat) (x : FV) : Nat × ABlk := (ell, .rows t 1 [[x]])
abbrev nw (ell t : Nat) (R : List (List FV)) (x : FV) : Nat × ABlk := (ell, .rows t 1 (R ++ [[x]]))
abbrev ne (n : Nat) (l : List (Nat × AV)) (H : AHeap) : Nat × List (Nat × AV) × AHeap := (n, l, H)
def ns7 : List Nd := [⟨#[true, true, true, false, false, true, true, true, false, false, true, true, true, false, false, true, true, true, false, false, false, false, false, false], 8, [(3, 4), (8, 3), (13, 2), (18, 1)]⟩,
 ⟨#[true, true, true, false, false, true, true, true, false, false, true, true, true, false, false, true, true, true, true, false, false, false, false, false], 7, [(3, 8), (8, 6), (13, 5)]⟩,
 ⟨#[true, true, true, false, false, true, true, true, false, false, true, true, true, true, false, true, true, true, false, false, false, false, false, false], 7, [(3, 9), (8, 7), (18, 5)]⟩,
 ⟨#[true, true, true, false, false, true, true, true, true, false, true, true, true, false, false, true, true, true, false, false, false, false, false, false], 7, [(3, 10), (13, 7), (18, 6)]⟩,
 ⟨#[true, true, true, true, false, true, true, true, false, false, true, true, true, false, false, true, true, true, false, false, false, false, false, false], 7, [(4, 11), (8, 10), (13, 9), (18, 8)]⟩,
 ⟨#[true, true, true, false, false, true, true, true, false, false, true, true, true, true, false, true, true, true, true, false, false, false, false, false], 6, [(3, 13), (8, 12)]⟩,
 ⟨#[true, true, true, false, false, true, true, true, true, false, true, true, true, false, false, true, true, true, true, false, false, false, false, false], 6, [(3, 14), (13, 12)]⟩,
 ⟨#[true, true, true, false, false, true, true, true, true, false, true, true, true, true, false, true, true, true, false, false, false, false, false, false], 6, [(3, 15), (18, 12)]⟩,
 ⟨#[true, true, true, true, false, true, true, true, false, false, true, true, true, false, false, true, true, true, true, false, false, false, false, false], 6, [(4, 16), (8, 14), (13, 13)]⟩,
 ⟨#[true, true, true, true, false, true, true, true, false, false, true, true, true, true, false, true, true, true, false, false, false, false, false, false], 6, [(4, 17), (8, 15), (18, 13)]⟩,
 ⟨#[true, true, true, true, false, true, true, true, true, false, true, true, true, false, false, true, true, true, false, false, false, false, false, false], 6, [(4, 18), (13, 15), (18, 14)]⟩,
 ⟨#[true, true, true, true, true, true, true, true, false, false, true, true, true, false, false, true, true, true, false, false, false, false, false, false], 6, [(8, 18), (13, 17), (18, 16)]⟩,
 ⟨#[true, true, true, false, false, true, true, true, true, false, true, true, true, true, false, true, true, true, true, false, false, false, false, false], 5, [(3, 19)]⟩,
 ⟨#[true, true, true, true, false, true, true, true, false, false, true, true, true, true, false, true, true, true, true, false, false, false, false, false], 5, [(4, 20), (8, 19)]⟩,
 ⟨#[true, true, true, true, false, true, true, true, true, false, true, true, true, false, false, true, true, true, true, false, false, false, false, false], 5, [(4, 21), (13, 19)]⟩,
 ⟨#[true, true, true, true, false, true, true, true, true, false, true, true, true, true, false, true, true, true, false, false, false, false, false, false], 5, [(4, 22), (18, 19)]⟩,
 ⟨#[true, true, true, true, true, true, true, true, false, false, true, true, true, false, false, true, true, true, true, false, false, false, false, false], 5, [(8, 21), (13, 20)]⟩,
 ⟨#[true, true, true, true, true, true, true, true, false, false, true, true, true, true, false, true, true, true, false, false, false, false, false, false], 5, [(8, 22), (18, 20)]⟩,
 ⟨#[true, true, true, true, true, true, true, true, true, false, true, true, true, false, false, true, true, true, false, false, false, false, false, false], 5, [(9, 23), (13, 22), (18, 21)]⟩,
 ⟨#[true, true, true, true, false, true, true, true, true, false, true, true, true, true, false, true, true, true, true, false, false, false, false, false], 4, [(4, 24)]⟩,
 ⟨#[true, true, true, true, true, true, true, true, false, false, true, true, true, true, false, true, true, true, true, false, false, false, false, false], 4, [(8, 24)]⟩,
 ⟨#[true, true, true, true, true, true, true, true, true, false, true, true, true, false, false, true, true, true, true, false, false, false, false, false], 4, [(9, 25), (13, 24)]⟩,
 ⟨#[true, true, true, true, true, true, true, true, true, false, true, true, true, true, false, true, true, true, false, false, false, false, false, false], 4, [(9, 26), (18, 24)]⟩,
 ⟨#[true, true, true, true, true, true, true, true, true, true, true, true, true, false, false, true, true, true, false, false, false, false, false, false], 4, [(13, 26), (18, 25)]⟩,
 ⟨#[true, true, true, true, true, true, true, true, true, false, true, true, true, true, false, true, true, true, true, false, false, false, false, false], 3, [(9, 27)]⟩,
 ⟨#[true, true, true, true, true, true, true, true, true, true, true, true, true, false, false, true, true, true, true, false, false, false, false, false], 3, [(13, 27)]⟩,
 ⟨#[true, true, true, true, true, true, true, true, true, true, true, true, true, true, false, true, true, true, false, false, false, false, false, false], 3, [(14, 28), (18, 27)]⟩,
 ⟨#[true, true, true, true, true, true, true, true, true, true, true, true, true, true, false, true, true, true, true, false, false, false, false, false], 2, [(14, 29)]⟩,
 ⟨#[true, true, true, true, true, true, true, true, true, true, true, true, true, true, true, true, true, true, false, false, false, false, false, false], 2, [(18, 29)]⟩,
 ⟨#[true, true, true, true, true, true, true, true, true, true, true, true, true, true, true, true, true, true, true, false, false, false, false, false], 1, [(19, 30)]⟩,
 ⟨#[true, true, true, true, true, true, true, true, true, true, true, true, true, true, true, true, true, true, true, true, false, false, false, false], 0, []⟩]
def st7 (R0 R1 R2 R3 : List (List FV)) (x0 x1 x2 x3 : FV) : List (Nat × List (Nat × AV) × AHeap) := [ne 19 [ng 26 0, nx 28 x0, ng 31 1, nx 33 x1, ng 36 2, nx 38 x2, ng 41 3, nx 43 x3] [nr 0 9 R0, nr 1 9 R1, nr 2 9 R2, nr 3 9 R3],
 ne 19 [ng 44 17, ng 26 0, nx 28 x0, ng 31 1, nx 33 x1, ng 36 2, nx 38 x2, ng 41 3, nx 43 x3] [nr 0 9 R0, nr 1 9 R1, nr 2 9 R2, nr 3 9 R3, no 17 9 x3],
 ne 19 [ng 39 15, ng 26 0, nx 28 x0, ng 31 1, nx 33 x1, ng 36 2, nx 38 x2, ng 41 3, nx 43 x3] [nr 0 9 R0, nr 1 9 R1, nr 2 9 R2, no 15 9 x2, nr 3 9 R3],
 ne 19 [ng 34 13, ng 26 0, nx 28 x0, ng 31 1, nx 33 x1, ng 36 2, nx 38 x2, ng 41 3, nx 43 x3] [nr 0 9 R0, nr 1 9 R1, no 13 9 x1, nr 2 9 R2, nr 3 9 R3],
 ne 19 [ng 29 11, ng 26 0, nx 28 x0, ng 31 1, nx 33 x1, ng 36 2, nx 38 x2, ng 41 3, nx 43 x3] [nr 0 9 R0, no 11 9 x0, nr 1 9 R1, nr 2 9 R2, nr 3 9 R3],
 ne 19 [ng 39 15, ng 44 17, ng 26 0, nx 28 x0, ng 31 1, nx 33 x1, ng 36 2, nx 38 x2, ng 41 3, nx 43 x3] [nr 0 9 R0, nr 1 9 R1, nr 2 9 R2, no 15 9 x2, nr 3 9 R3, no 17 9 x3],
 ne 19 [ng 34 13, ng 44 17, ng 26 0, nx 28 x0, ng 31 1, nx 33 x1, ng 36 2, nx 38 x2, ng 41 3, nx 43 x3] [nr 0 9 R0, nr 1 9 R1, no 13 9 x1, nr 2 9 R2, nr 3 9 R3, no 17 9 x3],
 ne 19 [ng 34 13, ng 39 15, ng 26 0, nx 28 x0, ng 31 1, nx 33 x1, ng 36 2, nx 38 x2, ng 41 3, nx 43 x3] [nr 0 9 R0, nr 1 9 R1, no 13 9 x1, nr 2 9 R2, no 15 9 x2, nr 3 9 R3],
 ne 19 [ng 29 11, ng 44 17, ng 26 0, nx 28 x0, ng 31 1, nx 33 x1, ng 36 2, nx 38 x2, ng 41 3, nx 43 x3] [nr 0 9 R0, no 11 9 x0, nr 1 9 R1, nr 2 9 R2, nr 3 9 R3, no 17 9 x3],
 ne 19 [ng 29 11, ng 39 15, ng 26 0, nx 28 x0, ng 31 1, nx 33 x1, ng 36 2, nx 38 x2, ng 41 3, nx 43 x3] [nr 0 9 R0, no 11 9 x0, nr 1 9 R1, nr 2 9 R2, no 15 9 x2, nr 3 9 R3],
 ne 19 [ng 29 11, ng 34 13, ng 26 0, nx 28 x0, ng 31 1, nx 33 x1, ng 36 2, nx 38 x2, ng 41 3, nx 43 x3] [nr 0 9 R0, no 11 9 x0, nr 1 9 R1, no 13 9 x1, nr 2 9 R2, nr 3 9 R3],
 ne 19 [ng 30 12, ng 26 0, nx 28 x0, ng 31 1, nx 33 x1, ng 36 2, nx 38 x2, ng 41 3, nx 43 x3] [nw 12 9 R0 x0, nr 1 9 R1, nr 2 9 R2, nr 3 9 R3],
 ne 19 [ng 34 13, ng 39 15, ng 44 17, ng 26 0, nx 28 x0, ng 31 1, nx 33 x1, ng 36 2, nx 38 x2, ng 41 3, nx 43 x3] [nr 0 9 R0, nr 1 9 R1, no 13 9 x1, nr 2 9 R2, no 15 9 x2, nr 3 9 R3, no 17 9 x3],
 ne 19 [ng 29 11, ng 39 15, ng 44 17, ng 26 0, nx 28 x0, ng 31 1, nx 33 x1, ng 36 2, nx 38 x2, ng 41 3, nx 43 x3] [nr 0 9 R0, no 11 9 x0, nr 1 9 R1, nr 2 9 R2, no 15 9 x2, nr 3 9 R3, no 17 9 x3],
 ne 19 [ng 29 11, ng 34 13, ng 44 17, ng 26 0, nx 28 x0, ng 31 1, nx 33 x1, ng 36 2, nx 38 x2, ng 41 3, nx 43 x3] [nr 0 9 R0, no 11 9 x0, nr 1 9 R1, no 13 9 x1, nr 2 9 R2, nr 3 9 R3, no 17 9 x3],
 ne 19 [ng 29 11, ng 34 13, ng 39 15, ng 26 0, nx 28 x0, ng 31 1, nx 33 x1, ng 36 2, nx 38 x2, ng 41 3, nx 43 x3] [nr 0 9 R0, no 11 9 x0, nr 1 9 R1, no 13 9 x1, nr 2 9 R2, no 15 9 x2, nr 3 9 R3],
 ne 19 [ng 30 12, ng 44 17, ng 26 0, nx 28 x0, ng 31 1, nx 33 x1, ng 36 2, nx 38 x2, ng 41 3, nx 43 x3] [nw 12 9 R0 x0, nr 1 9 R1, nr 2 9 R2, nr 3 9 R3, no 17 9 x3],
 ne 19 [ng 30 12, ng 39 15, ng 26 0, nx 28 x0, ng 31 1, nx 33 x1, ng 36 2, nx 38 x2, ng 41 3, nx 43 x3] [nw 12 9 R0 x0, nr 1 9 R1, nr 2 9 R2, no 15 9 x2, nr 3 9 R3],
 ne 19 [ng 30 12, ng 34 13, ng 26 0, nx 28 x0, ng 31 1, nx 33 x1, ng 36 2, nx 38 x2, ng 41 3, nx 43 x3] [nw 12 9 R0 x0, nr 1 9 R1, no 13 9 x1, nr 2 9 R2, nr 3 9 R3],
 ne 19 [ng 29 11, ng 34 13, ng 39 15, ng 44 17, ng 26 0, nx 28 x0, ng 31 1, nx 33 x1, ng 36 2, nx 38 x2, ng 41 3, nx 43 x3] [nr 0 9 R0, no 11 9 x0, nr 1 9 R1, no 13 9 x1, nr 2 9 R2, no 15 9 x2, nr 3 9 R3, no 17 9 x3],
 ne 19 [ng 30 12, ng 39 15, ng 44 17, ng 26 0, nx 28 x0, ng 31 1, nx 33 x1, ng 36 2, nx 38 x2, ng 41 3, nx 43 x3] [nw 12 9 R0 x0, nr 1 9 R1, nr 2 9 R2, no 15 9 x2, nr 3 9 R3, no 17 9 x3],
 ne 19 [ng 30 12, ng 34 13, ng 44 17, ng 26 0, nx 28 x0, ng 31 1, nx 33 x1, ng 36 2, nx 38 x2, ng 41 3, nx 43 x3] [nw 12 9 R0 x0, nr 1 9 R1, no 13 9 x1, nr 2 9 R2, nr 3 9 R3, no 17 9 x3],
 ne 19 [ng 30 12, ng 34 13, ng 39 15, ng 26 0, nx 28 x0, ng 31 1, nx 33 x1, ng 36 2, nx 38 x2, ng 41 3, nx 43 x3] [nw 12 9 R0 x0, nr 1 9 R1, no 13 9 x1, nr 2 9 R2, no 15 9 x2, nr 3 9 R3],
 ne 19 [ng 30 12, ng 35 14, ng 26 0, nx 28 x0, ng 31 1, nx 33 x1, ng 36 2, nx 38 x2, ng 41 3, nx 43 x3] [nw 12 9 R0 x0, nw 14 9 R1 x1, nr 2 9 R2, nr 3 9 R3],
 ne 19 [ng 30 12, ng 34 13, ng 39 15, ng 44 17, ng 26 0, nx 28 x0, ng 31 1, nx 33 x1, ng 36 2, nx 38 x2, ng 41 3, nx 43 x3] [nw 12 9 R0 x0, nr 1 9 R1, no 13 9 x1, nr 2 9 R2, no 15 9 x2, nr 3 9 R3, no 17 9 x3],
 ne 19 [ng 30 12, ng 35 14, ng 44 17, ng 26 0, nx 28 x0, ng 31 1, nx 33 x1, ng 36 2, nx 38 x2, ng 41 3, nx 43 x3] [nw 12 9 R0 x0, nw 14 9 R1 x1, nr 2 9 R2, nr 3 9 R3, no 17 9 x3],
 ne 19 [ng 30 12, ng 35 14, ng 39 15, ng 26 0, nx 28 x0, ng 31 1, nx 33 x1, ng 36 2, nx 38 x2, ng 41 3, nx 43 x3] [nw 12 9 R0 x0, nw 14 9 R1 x1, nr 2 9 R2, no 15 9 x2, nr 3 9 R3],
 ne 19 [ng 30 12, ng 35 14, ng 39 15, ng 44 17, ng 26 0, nx 28 x0, ng 31 1, nx 33 x1, ng 36 2, nx 38 x2, ng 41 3, nx 43 x3] [nw 12 9 R0 x0, nw 14 9 R1 x1, nr 2 9 R2, no 15 9 x2, nr 3 9 R3, no 17 9 x3],
 ne 19 [ng 30 12, ng 35 14, ng 40 16, ng 26 0, nx 28 x0, ng 31 1, nx 33 x1, ng 36 2, nx 38 x2, ng 41 3, nx 43 x3] [nw 12 9 R0 x0, nw 14 9 R1 x1, nw 16 9 R2 x2, nr 3 9 R3],
 ne 19 [ng 30 12, ng 35 14, ng 40 16, ng 44 17, ng 26 0, nx 28 x0, ng 31 1, nx 33 x1, ng 36 2, nx 38 x2, ng 41 3, nx 43 x3] [nw 12 9 R0 x0, nw 14 9 R1 x1, nw 16 9 R2 x2, nr 3 9 R3, no 17 9 x3],
 ne 19 [ng 30 12, ng 35 14, ng 40 16, ng 45 18, ng 26 0, nx 28 x0, ng 31 1, nx 33 x1, ng 36 2, nx 38 x2, ng 41 3, nx 43 x3] [nw 12 9 R0 x0, nw 14 9 R1 x1, nw 16 9 R2 x2, nw 18 9 R3 x3]]
def ns8 : List Nd := [⟨#[true, true, true, false, false, true, true, true, false, false, true, true, true, false, false, false, false, false], 6, [(3, 3), (8, 2), (13, 1)]⟩,
 ⟨#[true, true, true, false, false, true, true, true, false, false, true, true, true, true, false, false, false, false], 5, [(3, 5), (8, 4)]⟩,
 ⟨#[true, true, true, false, false, true, true, true, true, false, true, true, true, false, false, false, false, false], 5, [(3, 6), (13, 4)]⟩,
 ⟨#[true, true, true, true, false, true, true, true, false, false, true, true, true, false, false, false, false, false], 5, [(4, 7), (8, 6), (13, 5)]⟩,
 ⟨#[true, true, true, false, false, true, true, true, true, false, true, true, true, true, false, false, false, false], 4, [(3, 8)]⟩,
 ⟨#[true, true, true, true, false, true, true, true, false, false, true, true, true, true, false, false, false, false], 4, [(4, 9), (8, 8)]⟩,
 ⟨#[true, true, true, true, false, true, true, true, true, false, true, true, true, false, false, false, false, false], 4, [(4, 10), (13, 8)]⟩,
 ⟨#[true, true, true, true, true, true, true, true, false, false, true, true, true, false, false, false, false, false], 4, [(8, 10), (13, 9)]⟩,
 ⟨#[true, true, true, true, false, true, true, true, true, false, true, true, true, true, false, false, false, false], 3, [(4, 11)]⟩,
 ⟨#[true, true, true, true, true, true, true, true, false, false, true, true, true, true, false, false, false, false], 3, [(8, 11)]⟩,
 ⟨#[true, true, true, true, true, true, true, true, true, false, true, true, true, false, false, false, false, false], 3, [(9, 12), (13, 11)]⟩,
 ⟨#[true, true, true, true, true, true, true, true, true, false, true, true, true, true, false, false, false, false], 2, [(9, 13)]⟩,
 ⟨#[true, true, true, true, true, true, true, true, true, true, true, true, true, false, false, false, false, false], 2, [(13, 13)]⟩,
 ⟨#[true, true, true, true, true, true, true, true, true, true, true, true, true, true, false, false, false, false], 1, [(14, 14)]⟩,
 ⟨#[true, true, true, true, true, true, true, true, true, true, true, true, true, true, true, false, false, false], 0, []⟩]
def st8 (R0 R1 R2 : List (List FV)) (x0 x1 x2 : FV) : List (Nat × List (Nat × AV) × AHeap) := [ne 25 [ng 46 4, nx 48 x0, ng 51 5, nx 53 x1, ng 56 6, nx 58 x2] [nr 4 3 R0, nr 5 3 R1, nr 6 3 R2],
 ne 25 [ng 59 23, ng 46 4, nx 48 x0, ng 51 5, nx 53 x1, ng 56 6, nx 58 x2] [nr 4 3 R0, nr 5 3 R1, nr 6 3 R2, no 23 3 x2],
 ne 25 [ng 54 21, ng 46 4, nx 48 x0, ng 51 5, nx 53 x1, ng 56 6, nx 58 x2] [nr 4 3 R0, nr 5 3 R1, no 21 3 x1, nr 6 3 R2],
 ne 25 [ng 49 19, ng 46 4, nx 48 x0, ng 51 5, nx 53 x1, ng 56 6, nx 58 x2] [nr 4 3 R0, no 19 3 x0, nr 5 3 R1, nr 6 3 R2],
 ne 25 [ng 54 21, ng 59 23, ng 46 4, nx 48 x0, ng 51 5, nx 53 x1, ng 56 6, nx 58 x2] [nr 4 3 R0, nr 5 3 R1, no 21 3 x1, nr 6 3 R2, no 23 3 x2],
 ne 25 [ng 49 19, ng 59 23, ng 46 4, nx 48 x0, ng 51 5, nx 53 x1, ng 56 6, nx 58 x2] [nr 4 3 R0, no 19 3 x0, nr 5 3 R1, nr 6 3 R2, no 23 3 x2],
 ne 25 [ng 49 19, ng 54 21, ng 46 4, nx 48 x0, ng 51 5, nx 53 x1, ng 56 6, nx 58 x2] [nr 4 3 R0, no 19 3 x0, nr 5 3 R1, no 21 3 x1, nr 6 3 R2],
 ne 25 [ng 50 20, ng 46 4, nx 48 x0, ng 51 5, nx 53 x1, ng 56 6, nx 58 x2] [nw 20 3 R0 x0, nr 5 3 R1, nr 6 3 R2],
 ne 25 [ng 49 19, ng 54 21, ng 59 23, ng 46 4, nx 48 x0, ng 51 5, nx 53 x1, ng 56 6, nx 58 x2] [nr 4 3 R0, no 19 3 x0, nr 5 3 R1, no 21 3 x1, nr 6 3 R2, no 23 3 x2],
 ne 25 [ng 50 20, ng 59 23, ng 46 4, nx 48 x0, ng 51 5, nx 53 x1, ng 56 6, nx 58 x2] [nw 20 3 R0 x0, nr 5 3 R1, nr 6 3 R2, no 23 3 x2],
 ne 25 [ng 50 20, ng 54 21, ng 46 4, nx 48 x0, ng 51 5, nx 53 x1, ng 56 6, nx 58 x2] [nw 20 3 R0 x0, nr 5 3 R1, no 21 3 x1, nr 6 3 R2],
 ne 25 [ng 50 20, ng 54 21, ng 59 23, ng 46 4, nx 48 x0, ng 51 5, nx 53 x1, ng 56 6, nx 58 x2] [nw 20 3 R0 x0, nr 5 3 R1, no 21 3 x1, nr 6 3 R2, no 23 3 x2],
 ne 25 [ng 50 20, ng 55 22, ng 46 4, nx 48 x0, ng 51 5, nx 53 x1, ng 56 6, nx 58 x2] [nw 20 3 R0 x0, nw 22 3 R1 x1, nr 6 3 R2],
 ne 25 [ng 50 20, ng 55 22, ng 59 23, ng 46 4, nx 48 x0, ng 51 5, nx 53 x1, ng 56 6, nx 58 x2] [nw 20 3 R0 x0, nw 22 3 R1 x1, nr 6 3 R2, no 23 3 x2],
 ne 25 [ng 50 20, ng 55 22, ng 60 24, ng 46 4, nx 48 x0, ng 51 5, nx 53 x1, ng 56 6, nx 58 x2] [nw 20 3 R0 x0, nw 22 3 R1 x1, nw 24 3 R2 x2]]
def ns9 : List Nd := [⟨#[true, true, true, false, false, true, true, true, false, false, true, true, true, false, false, false, false, false], 6, [(3, 3), (8, 2), (13, 1)]⟩,
 ⟨#[true, true, true, false, false, true, true, true, false, false, true, true, true, true, false, false, false, false], 5, [(3, 5), (8, 4)]⟩,
 ⟨#[true, true, true, false, false, true, true, true, true, false, true, true, true, false, false, false, false, false], 5, [(3, 6), (13, 4)]⟩,
 ⟨#[true, true, true, true, false, true, true, true, false, false, true, true, true, false, false, false, false, false], 5, [(4, 7), (8, 6), (13, 5)]⟩,
 ⟨#[true, true, true, false, false, true, true, true, true, false, true, true, true, true, false, false, false, false], 4, [(3, 8)]⟩,
 ⟨#[true, true, true, true, false, true, true, true, false, false, true, true, true, true, false, false, false, false], 4, [(4, 9), (8, 8)]⟩,
 ⟨#[true, true, true, true, false, true, true, true, true, false, true, true, true, false, false, false, false, false], 4, [(4, 10), (13, 8)]⟩,
 ⟨#[true, true, true, true, true, true, true, true, false, false, true, true, true, false, false, false, false, false], 4, [(8, 10), (13, 9)]⟩,
 ⟨#[true, true, true, true, false, true, true, true, true, false, true, true, true, true, false, false, false, false], 3, [(4, 11)]⟩,
 ⟨#[true, true, true, true, true, true, true, true, false, false, true, true, true, true, false, false, false, false], 3, [(8, 11)]⟩,
 ⟨#[true, true, true, true, true, true, true, true, true, false, true, true, true, false, false, false, false, false], 3, [(9, 12), (13, 11)]⟩,
 ⟨#[true, true, true, true, true, true, true, true, true, false, true, true, true, true, false, false, false, false], 2, [(9, 13)]⟩,
 ⟨#[true, true, true, true, true, true, true, true, true, true, true, true, true, false, false, false, false, false], 2, [(13, 13)]⟩,
 ⟨#[true, true, true, true, true, true, true, true, true, true, true, true, true, true, false, false, false, false], 1, [(14, 14)]⟩,
 ⟨#[true, true, true, true, true, true, true, true, true, true, true, true, true, true, true, false, false, false], 0, []⟩]
def st9 (R0 R1 R2 : List (List FV)) (x0 x1 x2 : FV) : List (Nat × List (Nat × AV) × AHeap) := [ne 31 [ng 61 7, nx 63 x0, ng 66 8, nx 68 x1, ng 71 9, nx 73 x2] [nr 7 3 R0, nr 8 3 R1, nr 9 3 R2],
 ne 31 [ng 74 29, ng 61 7, nx 63 x0, ng 66 8, nx 68 x1, ng 71 9, nx 73 x2] [nr 7 3 R0, nr 8 3 R1, nr 9 3 R2, no 29 3 x2],
 ne 31 [ng 69 27, ng 61 7, nx 63 x0, ng 66 8, nx 68 x1, ng 71 9, nx 73 x2] [nr 7 3 R0, nr 8 3 R1, no 27 3 x1, nr 9 3 R2],
 ne 31 [ng 64 25, ng 61 7, nx 63 x0, ng 66 8, nx 68 x1, ng 71 9, nx 73 x2] [nr 7 3 R0, no 25 3 x0, nr 8 3 R1, nr 9 3 R2],
 ne 31 [ng 69 27, ng 74 29, ng 61 7, nx 63 x0, ng 66 8, nx 68 x1, ng 71 9, nx 73 x2] [nr 7 3 R0, nr 8 3 R1, no 27 3 x1, nr 9 3 R2, no 29 3 x2],
 ne 31 [ng 64 25, ng 74 29, ng 61 7, nx 63 x0, ng 66 8, nx 68 x1, ng 71 9, nx 73 x2] [nr 7 3 R0, no 25 3 x0, nr 8 3 R1, nr 9 3 R2, no 29 3 x2],
 ne 31 [ng 64 25, ng 69 27, ng 61 7, nx 63 x0, ng 66 8, nx 68 x1, ng 71 9, nx 73 x2] [nr 7 3 R0, no 25 3 x0, nr 8 3 R1, no 27 3 x1, nr 9 3 R2],
 ne 31 [ng 65 26, ng 61 7, nx 63 x0, ng 66 8, nx 68 x1, ng 71 9, nx 73 x2] [nw 26 3 R0 x0, nr 8 3 R1, nr 9 3 R2],
 ne 31 [ng 64 25, ng 69 27, ng 74 29, ng 61 7, nx 63 x0, ng 66 8, nx 68 x1, ng 71 9, nx 73 x2] [nr 7 3 R0, no 25 3 x0, nr 8 3 R1, no 27 3 x1, nr 9 3 R2, no 29 3 x2],
 ne 31 [ng 65 26, ng 74 29, ng 61 7, nx 63 x0, ng 66 8, nx 68 x1, ng 71 9, nx 73 x2] [nw 26 3 R0 x0, nr 8 3 R1, nr 9 3 R2, no 29 3 x2],
 ne 31 [ng 65 26, ng 69 27, ng 61 7, nx 63 x0, ng 66 8, nx 68 x1, ng 71 9, nx 73 x2] [nw 26 3 R0 x0, nr 8 3 R1, no 27 3 x1, nr 9 3 R2],
 ne 31 [ng 65 26, ng 69 27, ng 74 29, ng 61 7, nx 63 x0, ng 66 8, nx 68 x1, ng 71 9, nx 73 x2] [nw 26 3 R0 x0, nr 8 3 R1, no 27 3 x1, nr 9 3 R2, no 29 3 x2],
 ne 31 [ng 65 26, ng 70 28, ng 61 7, nx 63 x0, ng 66 8, nx 68 x1, ng 71 9, nx 73 x2] [nw 26 3 R0 x0, nw 28 3 R1 x1, nr 9 3 R2],
 ne 31 [ng 65 26, ng 70 28, ng 74 29, ng 61 7, nx 63 x0, ng 66 8, nx 68 x1, ng 71 9, nx 73 x2] [nw 26 3 R0 x0, nw 28 3 R1 x1, nr 9 3 R2, no 29 3 x2],
 ne 31 [ng 65 26, ng 70 28, ng 75 30, ng 61 7, nx 63 x0, ng 66 8, nx 68 x1, ng 71 9, nx 73 x2] [nw 26 3 R0 x0, nw 28 3 R1 x1, nw 30 3 R2 x2]]
theorem snoc_f {α : Type} (l : List Ev) (f : Ev → α) (en : α → List FV) {k : Nat} (h : k < l.length) : ((l.take (k + 1)).map f).map en = ((l.take k).map f).map en ++ [en (f l[k])] := by
 rw [List.take_succ_eq_append_getElem h, List.map_append, List.map_append]; rfl
theorem columns2A (l : List Ev) (h : LOK l) : AFn Tryz.prog GS 26 [el l] 0 [] (Own1 5 1 ((bdy l).map enB)) := by
 have hl := h.len
 refine afn_of Tryz.func26 rfl mixed (by kernel_rfl) ?_
 conv => whnf
 refine aloop ws26_1 10 [3, 4, 5, 6, 7, 8, 9, 10, 11, 12, 13] (fun k : Nat => [(3, .own 0), (4, .own 1), (5, .own 2), (6, .own 3), (7, .own 4), (8, .own 5), (9, .own 6), (10, .own 7), (11, .own 8), (12, .own 9), (13, iv k)]) (fun k => [(0, .rows 9 1 (((l.take k).map (·.client)).map enT)), (1, .rows 9 1 (((l.take k).map (·.id)).map enT)), (2, .rows 9 1 (((l.take k).map (·.name)).map enT)), (3, .rows 9 1 (((l.take k).map (·.other)).map enT)), (4, .rows 3 1 (((l.take k).map (·.seq)).map enI)), (5, .rows 3 1 (((l.take k).map (·.kind)).map enI)), (6, .rows 3 1 (((l.take k).map (·.time)).map enI)), (7, .rows 3 1 (((l.take k).map (·.ver)).map enI)), (8, .rows 3 1 (((l.take k).map (·.arm)).map enI)), (9, .rows 3 1 (((l.take k).map (·.val)).map enI))]) (fun k => k ≤ l.length) (fun k => l.length - k) [(0, .nil), (1, .nil), (2, .nil), (3, .nil), (4, .nil), (5, .nil), (6, .nil), (7, .nil), (8, .nil), (9, .nil)] [] 0 (by kernel_rfl) (fun _ => rfl) rfl (Nat.zero_le _) (by repeat' (first | rfl | trivial | apply And.intro)) (by repeat' (first | rfl | trivial | apply And.intro)) ?_
 rintro k hk
 conv => whnf
 refine vif_split (fun hlt => ?_) (fun hge => ?_)
 ·have hlt : k < l.length := by simpa using hlt
  conv => whnf
  refine AIn.mk' k rfl (by rw [List.length_map]; exact hlt) ?_
  conv => whnf
  refine ARd.map hlt ?_
  conv => whnf
  have sn := fun {α : Type} (f : Ev → α) (en : α → List FV) => snoc_f l f en hlt
  generalize l[k] = e at sn ⊢
  refine anet [0, 1, 2, 5, 6, 7, 10, 11, 12, 15, 16, 17, 20, 21, 22, 23] [0, 1, 2, 5, 6, 7, 10, 11, 12, 15, 16, 17] ns7 (.take 20 (.take 21 (.take 22 (.take 23 .done)))) 4 [0, 1, 2, 3] [(3, 6), (26, 45)] (st7 (((l.take k).map (·.client)).map enT) (((l.take k).map (·.id)).map enT) (((l.take k).map (·.name)).map enT) (((l.take k).map (·.other)).map enT) (sF e.client) (sF e.id) (sF e.name) (sF e.other)) (by kernel_rfl) (by kernel_rfl) ?_ ?_ ?_
  ·conv => whnf
   refine arbD [] [] ?_ ?_ ?_; (focus rfl); (focus (repeat' (first | rfl | trivial | apply And.intro))); (focus (repeat' (first | rfl | trivial | apply And.intro))); done
  ·refine ⟨⟨?_, ?_, ?_, ?_, trivial⟩, ⟨?_, ?_, ?_, trivial⟩, ⟨?_, ?_, ?_, trivial⟩, ⟨?_, ?_, ?_, trivial⟩, ⟨?_, ?_, ?_, ?_, trivial⟩, ⟨?_, ?_, trivial⟩, ⟨?_, ?_, trivial⟩, ⟨?_, ?_, trivial⟩, ⟨?_, ?_, ?_, trivial⟩, ⟨?_, ?_, ?_, trivial⟩, ⟨?_, ?_, ?_, trivial⟩, ⟨?_, ?_, ?_, trivial⟩, ⟨?_, trivial⟩, ⟨?_, ?_, trivial⟩, ⟨?_, ?_, trivial⟩, ⟨?_, ?_, trivial⟩, ⟨?_, ?_, trivial⟩, ⟨?_, ?_, trivial⟩, ⟨?_, ?_, ?_, trivial⟩, ⟨?_, trivial⟩, ⟨?_, trivial⟩, ⟨?_, ?_, trivial⟩, ⟨?_, ?_, trivial⟩, ⟨?_, ?_, trivial⟩, ⟨?_, trivial⟩, ⟨?_, trivial⟩, ⟨?_, ?_, trivial⟩, ⟨?_, trivial⟩, ⟨?_, trivial⟩, ⟨?_, trivial⟩, trivial, trivial⟩
   ·conv => whnf
    refine arbD [(11, .lab 19)] [] ?_ ?_ ?_; (focus rfl); (focus (repeat' (first | rfl | trivial | apply And.intro))); (focus (repeat' (first | rfl | trivial | apply And.intro))); done
   ·conv => whnf
    refine arbD [(13, .lab 19)] [] ?_ ?_ ?_; (focus rfl); (focus (repeat' (first | rfl | trivial | apply And.intro))); (focus (repeat' (first | rfl | trivial | apply And.intro))); done
   ·conv => whnf
    refine arbD [(15, .lab 19)] [] ?_ ?_ ?_; (focus rfl); (focus (repeat' (first | rfl | trivial | apply And.intro))); (focus (repeat' (first | rfl | trivial | apply And.intro))); done
   ·conv => whnf
    refine arbD [(17, .lab 19)] [] ?_ ?_ ?_; (focus rfl); (focus (repeat' (first | rfl | trivial | apply And.intro))); (focus (repeat' (first | rfl | trivial | apply And.intro))); done
   ·conv => whnf
    refine arbD [(11, .lab 19), (17, .lab 17)] [] ?_ ?_ ?_; (focus rfl); (focus (repeat' (first | rfl | trivial | apply And.intro))); (focus (repeat' (first | rfl | trivial | apply And.intro))); done
   ·conv => whnf
    refine arbD [(13, .lab 19), (17, .lab 17)] [] ?_ ?_ ?_; (focus rfl); (focus (repeat' (first | rfl | trivial | apply And.intro))); (focus (repeat' (first | rfl | trivial | apply And.intro))); done
   ·conv => whnf
    refine arbD [(15, .lab 19), (17, .lab 17)] [] ?_ ?_ ?_; (focus rfl); (focus (repeat' (first | rfl | trivial | apply And.intro))); (focus (repeat' (first | rfl | trivial | apply And.intro))); done
   ·conv => whnf
    refine arbD [(11, .lab 19), (15, .lab 15)] [] ?_ ?_ ?_; (focus rfl); (focus (repeat' (first | rfl | trivial | apply And.intro))); (focus (repeat' (first | rfl | trivial | apply And.intro))); done
   ·conv => whnf
    refine arbD [(13, .lab 19), (15, .lab 15)] [] ?_ ?_ ?_; (focus rfl); (focus (repeat' (first | rfl | trivial | apply And.intro))); (focus (repeat' (first | rfl | trivial | apply And.intro))); done
   ·conv => whnf
    refine arbD [(15, .lab 15), (17, .lab 19)] [] ?_ ?_ ?_; (focus rfl); (focus (repeat' (first | rfl | trivial | apply And.intro))); (focus (repeat' (first | rfl | trivial | apply And.intro))); done
   ·conv => whnf
    refine arbD [(11, .lab 19), (13, .lab 13)] [] ?_ ?_ ?_; (focus rfl); (focus (repeat' (first | rfl | trivial | apply And.intro))); (focus (repeat' (first | rfl | trivial | apply And.intro))); done
   ·conv => whnf
    refine arbD [(13, .lab 13), (15, .lab 19)] [] ?_ ?_ ?_; (focus rfl); (focus (repeat' (first | rfl | trivial | apply And.intro))); (focus (repeat' (first | rfl | trivial | apply And.intro))); done
   ·conv => whnf
    refine arbD [(13, .lab 13), (17, .lab 19)] [] ?_ ?_ ?_; (focus rfl); (focus (repeat' (first | rfl | trivial | apply And.intro))); (focus (repeat' (first | rfl | trivial | apply And.intro))); done
   ·conv => whnf
    refine VReq.mk (app_ok (by simp only [ln]; omega) (by kernel_rfl)) ?_
    conv => whnf
    refine arbD [(12, .lab 19)] [] ?_ ?_ ?_; (focus rfl); (focus (repeat' (first | rfl | trivial | apply And.intro))); (focus (repeat' (first | rfl | trivial | apply And.intro))); done
   ·conv => whnf
    refine arbD [(11, .lab 11), (13, .lab 19)] [] ?_ ?_ ?_; (focus rfl); (focus (repeat' (first | rfl | trivial | apply And.intro))); (focus (repeat' (first | rfl | trivial | apply And.intro))); done
   ·conv => whnf
    refine arbD [(11, .lab 11), (15, .lab 19)] [] ?_ ?_ ?_; (focus rfl); (focus (repeat' (first | rfl | trivial | apply And.intro))); (focus (repeat' (first | rfl | trivial | apply And.intro))); done
   ·conv => whnf
    refine arbD [(11, .lab 11), (17, .lab 19)] [] ?_ ?_ ?_; (focus rfl); (focus (repeat' (first | rfl | trivial | apply And.intro))); (focus (repeat' (first | rfl | trivial | apply And.intro))); done
   ·conv => whnf
    refine arbD [(11, .lab 19), (15, .lab 15), (17, .lab 17)] [] ?_ ?_ ?_; (focus rfl); (focus (repeat' (first | rfl | trivial | apply And.intro))); (focus (repeat' (first | rfl | trivial | apply And.intro))); done
   ·conv => whnf
    refine arbD [(13, .lab 19), (15, .lab 15), (17, .lab 17)] [] ?_ ?_ ?_; (focus rfl); (focus (repeat' (first | rfl | trivial | apply And.intro))); (focus (repeat' (first | rfl | trivial | apply And.intro))); done
   ·conv => whnf
    refine arbD [(11, .lab 19), (13, .lab 13), (17, .lab 17)] [] ?_ ?_ ?_; (focus rfl); (focus (repeat' (first | rfl | trivial | apply And.intro))); (focus (repeat' (first | rfl | trivial | apply And.intro))); done
   ·conv => whnf
    refine arbD [(13, .lab 13), (15, .lab 19), (17, .lab 17)] [] ?_ ?_ ?_; (focus rfl); (focus (repeat' (first | rfl | trivial | apply And.intro))); (focus (repeat' (first | rfl | trivial | apply And.intro))); done
   ·conv => whnf
    refine arbD [(11, .lab 19), (13, .lab 13), (15, .lab 15)] [] ?_ ?_ ?_; (focus rfl); (focus (repeat' (first | rfl | trivial | apply And.intro))); (focus (repeat' (first | rfl | trivial | apply And.intro))); done
   ·conv => whnf
    refine arbD [(13, .lab 13), (15, .lab 15), (17, .lab 19)] [] ?_ ?_ ?_; (focus rfl); (focus (repeat' (first | rfl | trivial | apply And.intro))); (focus (repeat' (first | rfl | trivial | apply And.intro))); done
   ·conv => whnf
    refine VReq.mk (app_ok (by simp only [ln]; omega) (by kernel_rfl)) ?_
    conv => whnf
    refine arbD [(12, .lab 19), (17, .lab 17)] [] ?_ ?_ ?_; (focus rfl); (focus (repeat' (first | rfl | trivial | apply And.intro))); (focus (repeat' (first | rfl | trivial | apply And.intro))); done
   ·conv => whnf
    refine arbD [(11, .lab 11), (13, .lab 19), (17, .lab 17)] [] ?_ ?_ ?_; (focus rfl); (focus (repeat' (first | rfl | trivial | apply And.intro))); (focus (repeat' (first | rfl | trivial | apply And.intro))); done
   ·conv => whnf
    refine arbD [(11, .lab 11), (15, .lab 19), (17, .lab 17)] [] ?_ ?_ ?_; (focus rfl); (focus (repeat' (first | rfl | trivial | apply And.intro))); (focus (repeat' (first | rfl | trivial | apply And.intro))); done
   ·conv => whnf
    refine VReq.mk (app_ok (by simp only [ln]; omega) (by kernel_rfl)) ?_
    conv => whnf
    refine arbD [(12, .lab 19), (15, .lab 15)] [] ?_ ?_ ?_; (focus rfl); (focus (repeat' (first | rfl | trivial | apply And.intro))); (focus (repeat' (first | rfl | trivial | apply And.intro))); done
   ·conv => whnf
    refine arbD [(11, .lab 11), (13, .lab 19), (15, .lab 15)] [] ?_ ?_ ?_; (focus rfl); (focus (repeat' (first | rfl | trivial | apply And.intro))); (focus (repeat' (first | rfl | trivial | apply And.intro))); done
   ·conv => whnf
    refine arbD [(11, .lab 11), (15, .lab 15), (17, .lab 19)] [] ?_ ?_ ?_; (focus rfl); (focus (repeat' (first | rfl | trivial | apply And.intro))); (focus (repeat' (first | rfl | trivial | apply And.intro))); done
   ·conv => whnf
    refine VReq.mk (app_ok (by simp only [ln]; omega) (by kernel_rfl)) ?_
    conv => whnf
    refine arbD [(12, .lab 19), (13, .lab 13)] [] ?_ ?_ ?_; (focus rfl); (focus (repeat' (first | rfl | trivial | apply And.intro))); (focus (repeat' (first | rfl | trivial | apply And.intro))); done
   ·conv => whnf
    refine arbD [(11, .lab 11), (13, .lab 13), (15, .lab 19)] [] ?_ ?_ ?_; (focus rfl); (focus (repeat' (first | rfl | trivial | apply And.intro))); (focus (repeat' (first | rfl | trivial | apply And.intro))); done
   ·conv => whnf
    refine arbD [(11, .lab 11), (13, .lab 13), (17, .lab 19)] [] ?_ ?_ ?_; (focus rfl); (focus (repeat' (first | rfl | trivial | apply And.intro))); (focus (repeat' (first | rfl | trivial | apply And.intro))); done
   ·conv => whnf
    refine arbD [(12, .lab 12), (13, .lab 19)] [] ?_ ?_ ?_; (focus rfl); (focus (repeat' (first | rfl | trivial | apply And.intro))); (focus (repeat' (first | rfl | trivial | apply And.intro))); done
   ·conv => whnf
    refine arbD [(12, .lab 12), (15, .lab 19)] [] ?_ ?_ ?_; (focus rfl); (focus (repeat' (first | rfl | trivial | apply And.intro))); (focus (repeat' (first | rfl | trivial | apply And.intro))); done
   ·conv => whnf
    refine arbD [(12, .lab 12), (17, .lab 19)] [] ?_ ?_ ?_; (focus rfl); (focus (repeat' (first | rfl | trivial | apply And.intro))); (focus (repeat' (first | rfl | trivial | apply And.intro))); done
   ·conv => whnf
    refine arbD [(11, .lab 19), (13, .lab 13), (15, .lab 15), (17, .lab 17)] [] ?_ ?_ ?_; (focus rfl); (focus (repeat' (first | rfl | trivial | apply And.intro))); (focus (repeat' (first | rfl | trivial | apply And.intro))); done
   ·conv => whnf
    refine VReq.mk (app_ok (by simp only [ln]; omega) (by kernel_rfl)) ?_
    conv => whnf
    refine arbD [(12, .lab 19), (15, .lab 15), (17, .lab 17)] [] ?_ ?_ ?_; (focus rfl); (focus (repeat' (first | rfl | trivial | apply And.intro))); (focus (repeat' (first | rfl | trivial | apply And.intro))); done
   ·conv => whnf
    refine arbD [(11, .lab 11), (13, .lab 19), (15, .lab 15), (17, .lab 17)] [] ?_ ?_ ?_; (focus rfl); (focus (repeat' (first | rfl | trivial | apply And.intro))); (focus (repeat' (first | rfl | trivial | apply And.intro))); done
   ·conv => whnf
    refine VReq.mk (app_ok (by simp only [ln]; omega) (by kernel_rfl)) ?_
    conv => whnf
    refine arbD [(12, .lab 19), (13, .lab 13), (17, .lab 17)] [] ?_ ?_ ?_; (focus rfl); (focus (repeat' (first | rfl | trivial | apply And.intro))); (focus (repeat' (first | rfl | trivial | apply And.intro))); done
   ·conv => whnf
    refine arbD [(11, .lab 11), (13, .lab 13), (15, .lab 19), (17, .lab 17)] [] ?_ ?_ ?_; (focus rfl); (focus (repeat' (first | rfl | trivial | apply And.intro))); (focus (repeat' (first | rfl | trivial | apply And.intro))); done
   ·conv => whnf
    refine VReq.mk (app_ok (by simp only [ln]; omega) (by kernel_rfl)) ?_
    conv => whnf
    refine arbD [(12, .lab 19), (13, .lab 13), (15, .lab 15)] [] ?_ ?_ ?_; (focus rfl); (focus (repeat' (first | rfl | trivial | apply And.intro))); (focus (repeat' (first | rfl | trivial | apply And.intro))); done
   ·conv => whnf
    refine arbD [(11, .lab 11), (13, .lab 13), (15, .lab 15), (17, .lab 19)] [] ?_ ?_ ?_; (focus rfl); (focus (repeat' (first | rfl | trivial | apply And.intro))); (focus (repeat' (first | rfl | trivial | apply And.intro))); done
   ·conv => whnf
    refine arbD [(12, .lab 12), (13, .lab 19), (17, .lab 17)] [] ?_ ?_ ?_; (focus rfl); (focus (repeat' (first | rfl | trivial | apply And.intro))); (focus (repeat' (first | rfl | trivial | apply And.intro))); done
   ·conv => whnf
    refine arbD [(12, .lab 12), (15, .lab 19), (17, .lab 17)] [] ?_ ?_ ?_; (focus rfl); (focus (repeat' (first | rfl | trivial | apply And.intro))); (focus (repeat' (first | rfl | trivial | apply And.intro))); done
   ·conv => whnf
    refine arbD [(12, .lab 12), (13, .lab 19), (15, .lab 15)] [] ?_ ?_ ?_; (focus rfl); (focus (repeat' (first | rfl | trivial | apply And.intro))); (focus (repeat' (first | rfl | trivial | apply And.intro))); done
   ·conv => whnf
    refine arbD [(12, .lab 12), (15, .lab 15), (17, .lab 19)] [] ?_ ?_ ?_; (focus rfl); (focus (repeat' (first | rfl | trivial | apply And.intro))); (focus (repeat' (first | rfl | trivial | apply And.intro))); done
   ·conv => whnf
    refine VReq.mk (app_ok (by simp only [ln]; omega) (by kernel_rfl)) ?_
    conv => whnf
    refine arbD [(12, .lab 12), (14, .lab 19)] [] ?_ ?_ ?_; (focus rfl); (focus (repeat' (first | rfl | trivial | apply And.intro))); (focus (repeat' (first | rfl | trivial | apply And.intro))); done
   ·conv => whnf
    refine arbD [(12, .lab 12), (13, .lab 13), (15, .lab 19)] [] ?_ ?_ ?_; (focus rfl); (focus (repeat' (first | rfl | trivial | apply And.intro))); (focus (repeat' (first | rfl | trivial | apply And.intro))); done
   ·conv => whnf
    refine arbD [(12, .lab 12), (13, .lab 13), (17, .lab 19)] [] ?_ ?_ ?_; (focus rfl); (focus (repeat' (first | rfl | trivial | apply And.intro))); (focus (repeat' (first | rfl | trivial | apply And.intro))); done
   ·conv => whnf
    refine VReq.mk (app_ok (by simp only [ln]; omega) (by kernel_rfl)) ?_
    conv => whnf
    refine arbD [(12, .lab 19), (13, .lab 13), (15, .lab 15), (17, .lab 17)] [] ?_ ?_ ?_; (focus rfl); (focus (repeat' (first | rfl | trivial | apply And.intro))); (focus (repeat' (first | rfl | trivial | apply And.intro))); done
   ·conv => whnf
    refine arbD [(12, .lab 12), (13, .lab 19), (15, .lab 15), (17, .lab 17)] [] ?_ ?_ ?_; (focus rfl); (focus (repeat' (first | rfl | trivial | apply And.intro))); (focus (repeat' (first | rfl | trivial | apply And.intro))); done
   ·conv => whnf
    refine VReq.mk (app_ok (by simp only [ln]; omega) (by kernel_rfl)) ?_
    conv => whnf
    refine arbD [(12, .lab 12), (14, .lab 19), (17, .lab 17)] [] ?_ ?_ ?_; (focus rfl); (focus (repeat' (first | rfl | trivial | apply And.intro))); (focus (repeat' (first | rfl | trivial | apply And.intro))); done
   ·conv => whnf
    refine arbD [(12, .lab 12), (13, .lab 13), (15, .lab 19), (17, .lab 17)] [] ?_ ?_ ?_; (focus rfl); (focus (repeat' (first | rfl | trivial | apply And.intro))); (focus (repeat' (first | rfl | trivial | apply And.intro))); done
   ·conv => whnf
    refine VReq.mk (app_ok (by simp only [ln]; omega) (by kernel_rfl)) ?_
    conv => whnf
    refine arbD [(12, .lab 12), (14, .lab 19), (15, .lab 15)] [] ?_ ?_ ?_; (focus rfl); (focus (repeat' (first | rfl | trivial | apply And.intro))); (focus (repeat' (first | rfl | trivial | apply And.intro))); done
   ·conv => whnf
    refine arbD [(12, .lab 12), (13, .lab 13), (15, .lab 15), (17, .lab 19)] [] ?_ ?_ ?_; (focus rfl); (focus (repeat' (first | rfl | trivial | apply And.intro))); (focus (repeat' (first | rfl | trivial | apply And.intro))); done
   ·conv => whnf
    refine arbD [(12, .lab 12), (14, .lab 14), (15, .lab 19)] [] ?_ ?_ ?_; (focus rfl); (focus (repeat' (first | rfl | trivial | apply And.intro))); (focus (repeat' (first | rfl | trivial | apply And.intro))); done
   ·conv => whnf
    refine arbD [(12, .lab 12), (14, .lab 14), (17, .lab 19)] [] ?_ ?_ ?_; (focus rfl); (focus (repeat' (first | rfl | trivial | apply And.intro))); (focus (repeat' (first | rfl | trivial | apply And.intro))); done
   ·conv => whnf
    refine VReq.mk (app_ok (by simp only [ln]; omega) (by kernel_rfl)) ?_
    conv => whnf
    refine arbD [(12, .lab 12), (14, .lab 19), (15, .lab 15), (17, .lab 17)] [] ?_ ?_ ?_; (focus rfl); (focus (repeat' (first | rfl | trivial | apply And.intro))); (focus (repeat' (first | rfl | trivial | apply And.intro))); done
   ·conv => whnf
    refine arbD [(12, .lab 12), (14, .lab 14), (15, .lab 19), (17, .lab 17)] [] ?_ ?_ ?_; (focus rfl); (focus (repeat' (first | rfl | trivial | apply And.intro))); (focus (repeat' (first | rfl | trivial | apply And.intro))); done
   ·conv => whnf
    refine VReq.mk (app_ok (by simp only [ln]; omega) (by kernel_rfl)) ?_
    conv => whnf
    refine arbD [(12, .lab 12), (14, .lab 14), (16, .lab 19)] [] ?_ ?_ ?_; (focus rfl); (focus (repeat' (first | rfl | trivial | apply And.intro))); (focus (repeat' (first | rfl | trivial | apply And.intro))); done
   ·conv => whnf
    refine arbD [(12, .lab 12), (14, .lab 14), (15, .lab 15), (17, .lab 19)] [] ?_ ?_ ?_; (focus rfl); (focus (repeat' (first | rfl | trivial | apply And.intro))); (focus (repeat' (first | rfl | trivial | apply And.intro))); done
   ·conv => whnf
    refine VReq.mk (app_ok (by simp only [ln]; omega) (by kernel_rfl)) ?_
    conv => whnf
    refine arbD [(12, .lab 12), (14, .lab 14), (16, .lab 19), (17, .lab 17)] [] ?_ ?_ ?_; (focus rfl); (focus (repeat' (first | rfl | trivial | apply And.intro))); (focus (repeat' (first | rfl | trivial | apply And.intro))); done
   ·conv => whnf
    refine arbD [(12, .lab 12), (14, .lab 14), (16, .lab 16), (17, .lab 19)] [] ?_ ?_ ?_; (focus rfl); (focus (repeat' (first | rfl | trivial | apply And.intro))); (focus (repeat' (first | rfl | trivial | apply And.intro))); done
   ·conv => whnf
    refine VReq.mk (app_ok (by simp only [ln]; omega) (by kernel_rfl)) ?_
    conv => whnf
    refine arbD [(12, .lab 12), (14, .lab 14), (16, .lab 16), (18, .lab 19)] [] ?_ ?_ ?_; (focus rfl); (focus (repeat' (first | rfl | trivial | apply And.intro))); (focus (repeat' (first | rfl | trivial | apply And.intro))); done
  refine ⟨trivial, trivial, trivial, trivial, trivial, trivial, trivial, trivial, trivial, trivial, trivial, trivial, trivial, trivial, trivial, trivial, trivial, trivial, trivial, trivial, trivial, trivial, trivial, trivial, trivial, trivial, trivial, trivial, trivial, trivial, ?_, trivial⟩
  conv => whnf
  refine anet [0, 1, 2, 5, 6, 7, 10, 11, 12, 15, 16, 17] [0, 1, 2, 5, 6, 7, 10, 11, 12] ns8 (.take 15 (.take 16 (.take 17 .done))) 3 [4, 5, 6] [(7, 9), (46, 60)] (st8 (((l.take k).map (·.seq)).map enI) (((l.take k).map (·.kind)).map enI) (((l.take k).map (·.time)).map enI) (iF e.seq) (iF e.kind) (iF e.time)) (by kernel_rfl) (by kernel_rfl) ?_ ?_ ?_
  ·conv => whnf
   refine arbD [] [] ?_ ?_ ?_; (focus rfl); (focus (repeat' (first | rfl | trivial | apply And.intro))); (focus (repeat' (first | rfl | trivial | apply And.intro))); done
  ·refine ⟨⟨?_, ?_, ?_, trivial⟩, ⟨?_, ?_, trivial⟩, ⟨?_, ?_, trivial⟩, ⟨?_, ?_, ?_, trivial⟩, ⟨?_, trivial⟩, ⟨?_, ?_, trivial⟩, ⟨?_, ?_, trivial⟩, ⟨?_, ?_, trivial⟩, ⟨?_, trivial⟩, ⟨?_, trivial⟩, ⟨?_, ?_, trivial⟩, ⟨?_, trivial⟩, ⟨?_, trivial⟩, ⟨?_, trivial⟩, trivial, trivial⟩
   ·conv => whnf
    refine arbD [(19, .lab 25)] [] ?_ ?_ ?_; (focus rfl); (focus (repeat' (first | rfl | trivial | apply And.intro))); (focus (repeat' (first | rfl | trivial | apply And.intro))); done
   ·conv => whnf
    refine arbD [(21, .lab 25)] [] ?_ ?_ ?_; (focus rfl); (focus (repeat' (first | rfl | trivial | apply And.intro))); (focus (repeat' (first | rfl | trivial | apply And.intro))); done
   ·conv => whnf
    refine arbD [(23, .lab 25)] [] ?_ ?_ ?_; (focus rfl); (focus (repeat' (first | rfl | trivial | apply And.intro))); (focus (repeat' (first | rfl | trivial | apply And.intro))); done
   ·conv => whnf
    refine arbD [(19, .lab 25), (23, .lab 23)] [] ?_ ?_ ?_; (focus rfl); (focus (repeat' (first | rfl | trivial | apply And.intro))); (focus (repeat' (first | rfl | trivial | apply And.intro))); done
   ·conv => whnf
    refine arbD [(21, .lab 25), (23, .lab 23)] [] ?_ ?_ ?_; (focus rfl); (focus (repeat' (first | rfl | trivial | apply And.intro))); (focus (repeat' (first | rfl | trivial | apply And.intro))); done
   ·conv => whnf
    refine arbD [(19, .lab 25), (21, .lab 21)] [] ?_ ?_ ?_; (focus rfl); (focus (repeat' (first | rfl | trivial | apply And.intro))); (focus (repeat' (first | rfl | trivial | apply And.intro))); done
   ·conv => whnf
    refine arbD [(21, .lab 21), (23, .lab 25)] [] ?_ ?_ ?_; (focus rfl); (focus (repeat' (first | rfl | trivial | apply And.intro))); (focus (repeat' (first | rfl | trivial | apply And.intro))); done
   ·conv => whnf
    refine VReq.mk (app_ok (by simp only [ln]; omega) (by kernel_rfl)) ?_
    conv => whnf
    refine arbD [(20, .lab 25)] [] ?_ ?_ ?_; (focus rfl); (focus (repeat' (first | rfl | trivial | apply And.intro))); (focus (repeat' (first | rfl | trivial | apply And.intro))); done
   ·conv => whnf
    refine arbD [(19, .lab 19), (21, .lab 25)] [] ?_ ?_ ?_; (focus rfl); (focus (repeat' (first | rfl | trivial | apply And.intro))); (focus (repeat' (first | rfl | trivial | apply And.intro))); done
   ·conv => whnf
    refine arbD [(19, .lab 19), (23, .lab 25)] [] ?_ ?_ ?_; (focus rfl); (focus (repeat' (first | rfl | trivial | apply And.intro))); (focus (repeat' (first | rfl | trivial | apply And.intro))); done
   ·conv => whnf
    refine arbD [(19, .lab 25), (21, .lab 21), (23, .lab 23)] [] ?_ ?_ ?_; (focus rfl); (focus (repeat' (first | rfl | trivial | apply And.intro))); (focus (repeat' (first | rfl | trivial | apply And.intro))); done
   ·conv => whnf
    refine VReq.mk (app_ok (by simp only [ln]; omega) (by kernel_rfl)) ?_
    conv => whnf
    refine arbD [(20, .lab 25), (23, .lab 23)] [] ?_ ?_ ?_; (focus rfl); (focus (repeat' (first | rfl | trivial | apply And.intro))); (focus (repeat' (first | rfl | trivial | apply And.intro))); done
   ·conv => whnf
    refine arbD [(19, .lab 19), (21, .lab 25), (23, .lab 23)] [] ?_ ?_ ?_; (focus rfl); (focus (repeat' (first | rfl | trivial | apply And.intro))); (focus (repeat' (first | rfl | trivial | apply And.intro))); done
   ·conv => whnf
    refine VReq.mk (app_ok (by simp only [ln]; omega) (by kernel_rfl)) ?_
    conv => whnf
    refine arbD [(20, .lab 25), (21, .lab 21)] [] ?_ ?_ ?_; (focus rfl); (focus (repeat' (first | rfl | trivial | apply And.intro))); (focus (repeat' (first | rfl | trivial | apply And.intro))); done
   ·conv => whnf
    refine arbD [(19, .lab 19), (21, .lab 21), (23, .lab 25)] [] ?_ ?_ ?_; (focus rfl); (focus (repeat' (first | rfl | trivial | apply And.intro))); (focus (repeat' (first | rfl | trivial | apply And.intro))); done
   ·conv => whnf
    refine arbD [(20, .lab 20), (21, .lab 25)] [] ?_ ?_ ?_; (focus rfl); (focus (repeat' (first | rfl | trivial | apply And.intro))); (focus (repeat' (first | rfl | trivial | apply And.intro))); done
   ·conv => whnf
    refine arbD [(20, .lab 20), (23, .lab 25)] [] ?_ ?_ ?_; (focus rfl); (focus (repeat' (first | rfl | trivial | apply And.intro))); (focus (repeat' (first | rfl | trivial | apply And.intro))); done
   ·conv => whnf
    refine VReq.mk (app_ok (by simp only [ln]; omega) (by kernel_rfl)) ?_
    conv => whnf
    refine arbD [(20, .lab 25), (21, .lab 21), (23, .lab 23)] [] ?_ ?_ ?_; (focus rfl); (focus (repeat' (first | rfl | trivial | apply And.intro))); (focus (repeat' (first | rfl | trivial | apply And.intro))); done
   ·conv => whnf
    refine arbD [(20, .lab 20), (21, .lab 25), (23, .lab 23)] [] ?_ ?_ ?_; (focus rfl); (focus (repeat' (first | rfl | trivial | apply And.intro))); (focus (repeat' (first | rfl | trivial | apply And.intro))); done
   ·conv => whnf
    refine VReq.mk (app_ok (by simp only [ln]; omega) (by kernel_rfl)) ?_
    conv => whnf
    refine arbD [(20, .lab 20), (22, .lab 25)] [] ?_ ?_ ?_; (focus rfl); (focus (repeat' (first | rfl | trivial | apply And.intro))); (focus (repeat' (first | rfl | trivial | apply And.intro))); done
   ·conv => whnf
    refine arbD [(20, .lab 20), (21, .lab 21), (23, .lab 25)] [] ?_ ?_ ?_; (focus rfl); (focus (repeat' (first | rfl | trivial | apply And.intro))); (focus (repeat' (first | rfl | trivial | apply And.intro))); done
   ·conv => whnf
    refine VReq.mk (app_ok (by simp only [ln]; omega) (by kernel_rfl)) ?_
    conv => whnf
    refine arbD [(20, .lab 20), (22, .lab 25), (23, .lab 23)] [] ?_ ?_ ?_; (focus rfl); (focus (repeat' (first | rfl | trivial | apply And.intro))); (focus (repeat' (first | rfl | trivial | apply And.intro))); done
   ·conv => whnf
    refine arbD [(20, .lab 20), (22, .lab 22), (23, .lab 25)] [] ?_ ?_ ?_; (focus rfl); (focus (repeat' (first | rfl | trivial | apply And.intro))); (focus (repeat' (first | rfl | trivial | apply And.intro))); done
   ·conv => whnf
    refine VReq.mk (app_ok (by simp only [ln]; omega) (by kernel_rfl)) ?_
    conv => whnf
    refine arbD [(20, .lab 20), (22, .lab 22), (24, .lab 25)] [] ?_ ?_ ?_; (focus rfl); (focus (repeat' (first | rfl | trivial | apply And.intro))); (focus (repeat' (first | rfl | trivial | apply And.intro))); done
  refine ⟨trivial, trivial, trivial, trivial, trivial, trivial, trivial, trivial, trivial, trivial, trivial, trivial, trivial, trivial, ?_, trivial⟩
  conv => whnf
  refine anet [0, 1, 2, 5, 6, 7, 10, 11, 12, 15, 16, 17] [0, 1, 2, 5, 6, 7, 10, 11, 12] ns9 (.take 15 (.take 16 (.take 17 .done))) 3 [7, 8, 9] [(10, 12), (61, 75)] (st9 (((l.take k).map (·.ver)).map enI) (((l.take k).map (·.arm)).map enI) (((l.take k).map (·.val)).map enI) (iF e.ver) (iF e.arm) (iF e.val)) (by kernel_rfl) (by kernel_rfl) ?_ ?_ ?_
  ·conv => whnf
   refine arbD [] [] ?_ ?_ ?_; (focus rfl); (focus (repeat' (first | rfl | trivial | apply And.intro))); (focus (repeat' (first | rfl | trivial | apply And.intro))); done
  ·refine ⟨⟨?_, ?_, ?_, trivial⟩, ⟨?_, ?_, trivial⟩, ⟨?_, ?_, trivial⟩, ⟨?_, ?_, ?_, trivial⟩, ⟨?_, trivial⟩, ⟨?_, ?_, trivial⟩, ⟨?_, ?_, trivial⟩, ⟨?_, ?_, trivial⟩, ⟨?_, trivial⟩, ⟨?_, trivial⟩, ⟨?_, ?_, trivial⟩, ⟨?_, trivial⟩, ⟨?_, trivial⟩, ⟨?_, trivial⟩, trivial, trivial⟩
   ·conv => whnf
    refine arbD [(25, .lab 31)] [] ?_ ?_ ?_; (focus rfl); (focus (repeat' (first | rfl | trivial | apply And.intro))); (focus (repeat' (first | rfl | trivial | apply And.intro))); done
   ·conv => whnf
    refine arbD [(27, .lab 31)] [] ?_ ?_ ?_; (focus rfl); (focus (repeat' (first | rfl | trivial | apply And.intro))); (focus (repeat' (first | rfl | trivial | apply And.intro))); done
   ·conv => whnf
    refine arbD [(29, .lab 31)] [] ?_ ?_ ?_; (focus rfl); (focus (repeat' (first | rfl | trivial | apply And.intro))); (focus (repeat' (first | rfl | trivial | apply And.intro))); done
   ·conv => whnf
    refine arbD [(25, .lab 31), (29, .lab 29)] [] ?_ ?_ ?_; (focus rfl); (focus (repeat' (first | rfl | trivial | apply And.intro))); (focus (repeat' (first | rfl | trivial | apply And.intro))); done
   ·conv => whnf
    refine arbD [(27, .lab 31), (29, .lab 29)] [] ?_ ?_ ?_; (focus rfl); (focus (repeat' (first | rfl | trivial | apply And.intro))); (focus (repeat' (first | rfl | trivial | apply And.intro))); done
   ·conv => whnf
    refine arbD [(25, .lab 31), (27, .lab 27)] [] ?_ ?_ ?_; (focus rfl); (focus (repeat' (first | rfl | trivial | apply And.intro))); (focus (repeat' (first | rfl | trivial | apply And.intro))); done
   ·conv => whnf
    refine arbD [(27, .lab 27), (29, .lab 31)] [] ?_ ?_ ?_; (focus rfl); (focus (repeat' (first | rfl | trivial | apply And.intro))); (focus (repeat' (first | rfl | trivial | apply And.intro))); done
   ·conv => whnf
    refine VReq.mk (app_ok (by simp only [ln]; omega) (by kernel_rfl)) ?_
    conv => whnf
    refine arbD [(26, .lab 31)] [] ?_ ?_ ?_; (focus rfl); (focus (repeat' (first | rfl | trivial | apply And.intro))); (focus (repeat' (first | rfl | trivial | apply And.intro))); done
   ·conv => whnf
    refine arbD [(25, .lab 25), (27, .lab 31)] [] ?_ ?_ ?_; (focus rfl); (focus (repeat' (first | rfl | trivial | apply And.intro))); (focus (repeat' (first | rfl | trivial | apply And.intro))); done
   ·conv => whnf
    refine arbD [(25, .lab 25), (29, .lab 31)] [] ?_ ?_ ?_; (focus rfl); (focus (repeat' (first | rfl | trivial | apply And.intro))); (focus (repeat' (first | rfl | trivial | apply And.intro))); done
   ·conv => whnf
    refine arbD [(25, .lab 31), (27, .lab 27), (29, .lab 29)] [] ?_ ?_ ?_; (focus rfl); (focus (repeat' (first | rfl | trivial | apply And.intro))); (focus (repeat' (first | rfl | trivial | apply And.intro))); done
   ·conv => whnf
    refine VReq.mk (app_ok (by simp only [ln]; omega) (by kernel_rfl)) ?_
    conv => whnf
    refine arbD [(26, .lab 31), (29, .lab 29)] [] ?_ ?_ ?_; (focus rfl); (focus (repeat' (first | rfl | trivial | apply And.intro))); (focus (repeat' (first | rfl | trivial | apply And.intro))); done
   ·conv => whnf
    refine arbD [(25, .lab 25), (27, .lab 31), (29, .lab 29)] [] ?_ ?_ ?_; (focus rfl); (focus (repeat' (first | rfl | trivial | apply And.intro))); (focus (repeat' (first | rfl | trivial | apply And.intro))); done
   ·conv => whnf
    refine VReq.mk (app_ok (by simp only [ln]; omega) (by kernel_rfl)) ?_
    conv => whnf
    refine arbD [(26, .lab 31), (27, .lab 27)] [] ?_ ?_ ?_; (focus rfl); (focus (repeat' (first | rfl | trivial | apply And.intro))); (focus (repeat' (first | rfl | trivial | apply And.intro))); done
   ·conv => whnf
    refine arbD [(25, .lab 25), (27, .lab 27), (29, .lab 31)] [] ?_ ?_ ?_; (focus rfl); (focus (repeat' (first | rfl | trivial | apply And.intro))); (focus (repeat' (first | rfl | trivial | apply And.intro))); done
   ·conv => whnf
    refine arbD [(26, .lab 26), (27, .lab 31)] [] ?_ ?_ ?_; (focus rfl); (focus (repeat' (first | rfl | trivial | apply And.intro))); (focus (repeat' (first | rfl | trivial | apply And.intro))); done
   ·conv => whnf
    refine arbD [(26, .lab 26), (29, .lab 31)] [] ?_ ?_ ?_; (focus rfl); (focus (repeat' (first | rfl | trivial | apply And.intro))); (focus (repeat' (first | rfl | trivial | apply And.intro))); done
   ·conv => whnf
    refine VReq.mk (app_ok (by simp only [ln]; omega) (by kernel_rfl)) ?_
    conv => whnf
    refine arbD [(26, .lab 31), (27, .lab 27), (29, .lab 29)] [] ?_ ?_ ?_; (focus rfl); (focus (repeat' (first | rfl | trivial | apply And.intro))); (focus (repeat' (first | rfl | trivial | apply And.intro))); done
   ·conv => whnf
    refine arbD [(26, .lab 26), (27, .lab 31), (29, .lab 29)] [] ?_ ?_ ?_; (focus rfl); (focus (repeat' (first | rfl | trivial | apply And.intro))); (focus (repeat' (first | rfl | trivial | apply And.intro))); done
   ·conv => whnf
    refine VReq.mk (app_ok (by simp only [ln]; omega) (by kernel_rfl)) ?_
    conv => whnf
    refine arbD [(26, .lab 26), (28, .lab 31)] [] ?_ ?_ ?_; (focus rfl); (focus (repeat' (first | rfl | trivial | apply And.intro))); (focus (repeat' (first | rfl | trivial | apply And.intro))); done
   ·conv => whnf
    refine arbD [(26, .lab 26), (27, .lab 27), (29, .lab 31)] [] ?_ ?_ ?_; (focus rfl); (focus (repeat' (first | rfl | trivial | apply And.intro))); (focus (repeat' (first | rfl | trivial | apply And.intro))); done
   ·conv => whnf
    refine VReq.mk (app_ok (by simp only [ln]; omega) (by kernel_rfl)) ?_
    conv => whnf
    refine arbD [(26, .lab 26), (28, .lab 31), (29, .lab 29)] [] ?_ ?_ ?_; (focus rfl); (focus (repeat' (first | rfl | trivial | apply And.intro))); (focus (repeat' (first | rfl | trivial | apply And.intro))); done
   ·conv => whnf
    refine arbD [(26, .lab 26), (28, .lab 28), (29, .lab 31)] [] ?_ ?_ ?_; (focus rfl); (focus (repeat' (first | rfl | trivial | apply And.intro))); (focus (repeat' (first | rfl | trivial | apply And.intro))); done
   ·conv => whnf
    refine VReq.mk (app_ok (by simp only [ln]; omega) (by kernel_rfl)) ?_
    conv => whnf
    refine arbD [(26, .lab 26), (28, .lab 28), (30, .lab 31)] [] ?_ ?_ ?_; (focus rfl); (focus (repeat' (first | rfl | trivial | apply And.intro))); (focus (repeat' (first | rfl | trivial | apply And.intro))); done
  refine ⟨trivial, trivial, trivial, trivial, trivial, trivial, trivial, trivial, trivial, trivial, trivial, trivial, trivial, trivial, ?_, trivial⟩
  conv => whnf
  refine AAr.i64 (by omega) ?_
  conv => whnf
  refine aback (k + 1) [(0, .lab 12), (1, .lab 14), (2, .lab 16), (3, .lab 18), (4, .lab 20), (5, .lab 22), (6, .lab 24), (7, .lab 26), (8, .lab 28), (9, .lab 30)] [] rfl (by show l.length - (k + 1) < l.length - k; omega) hlt ?_ (by repeat' (first | rfl | trivial | apply And.intro))
  simp only [sn]
  exact (by repeat' (first | rfl | trivial | apply And.intro))
 have : k = l.length := by simp at hge; omega
 subst this
 rw [List.take_length]
 have t1 := txs_len (l.map (·.client)) (tok_map h.s1) (by rw [List.length_map]; omega)
 have t2 := txs_len (l.map (·.id)) (tok_map h.s2) (by rw [List.length_map]; omega)
 have t3 := txs_len (l.map (·.name)) (tok_map h.s3) (by rw [List.length_map]; omega)
 have t4 := txs_len (l.map (·.other)) (tok_map h.s4) (by rw [List.length_map]; omega)
 have i1 := ints_short (l.map (·.seq)) (by rw [List.length_map]; omega)
 have i2 := ints_short (l.map (·.kind)) (by rw [List.length_map]; omega)
 have i3 := ints_short (l.map (·.time)) (by rw [List.length_map]; omega)
 have i4 := ints_short (l.map (·.ver)) (by rw [List.length_map]; omega)
 have i5 := ints_short (l.map (·.arm)) (by rw [List.length_map]; omega)
 have i6 := ints_short (l.map (·.val)) (by rw [List.length_map]; omega)
 simp only [List.length_map] at t1 t2 t3 t4
 conv => whnf
 (refine acallF [0] (by kernel_rfl) (AFn.up (texts2O (l.map (·.client)) (by rw [List.length_map]; omega) (tok_map h.s1)) GS) ?_ ?_; (focus (repeat' (first | rfl | trivial | apply And.intro))))
 rintro _ _ _ ⟨rfl, rfl, rfl⟩
 conv => whnf
 (refine acallF [4] (by kernel_rfl) (AFn.up (ints2A (l.map (·.seq)) (all_map fun e he => (h.ok e he).seq) (by rw [List.length_map]; omega)) GS) ?_ ?_; (focus (repeat' (first | rfl | trivial | apply And.intro))))
 rintro _ _ _ ⟨rfl, rfl, rfl⟩
 conv => whnf
 refine VReq.mk (app_ok (by simp only [ln]; omega) (by kernel_rfl)) ?_
 conv => whnf
 (refine acallF [5] (by kernel_rfl) (AFn.up (ints2A (l.map (·.kind)) (all_map fun e he => (h.ok e he).kind) (by rw [List.length_map]; omega)) GS) ?_ ?_; (focus (repeat' (first | rfl | trivial | apply And.intro))))
 rintro _ _ _ ⟨rfl, rfl, rfl⟩
 conv => whnf
 refine VReq.mk (app_ok (by simp only [ln]; omega) (by kernel_rfl)) ?_
 conv => whnf
 (refine acallF [6] (by kernel_rfl) (AFn.up (ints2A (l.map (·.time)) (all_map fun e he => (h.ok e he).time) (by rw [List.length_map]; omega)) GS) ?_ ?_; (focus (repeat' (first | rfl | trivial | apply And.intro))))
 rintro _ _ _ ⟨rfl, rfl, rfl⟩
 conv => whnf
 refine VReq.mk (app_ok (by simp only [ln]; omega) (by kernel_rfl)) ?_
 conv => whnf
 (refine acallF [1] (by kernel_rfl) (AFn.up (texts2A (l.map (·.id)) (by rw [List.length_map]; omega) (tok_map h.s2)) GS) ?_ ?_; (focus (repeat' (first | rfl | trivial | apply And.intro))))
 rintro _ _ _ ⟨rfl, rfl, rfl⟩
 conv => whnf
 refine VReq.mk (app_ok (by simp only [ln]; omega) (by kernel_rfl)) ?_
 conv => whnf
 (refine acallF [2] (by kernel_rfl) (AFn.up (texts2A (l.map (·.name)) (by rw [List.length_map]; omega) (tok_map h.s3)) GS) ?_ ?_; (focus (repeat' (first | rfl | trivial | apply And.intro))))
 rintro _ _ _ ⟨rfl, rfl, rfl⟩
 conv => whnf
 refine VReq.mk (app_ok (by simp only [ln]; omega) (by kernel_rfl)) ?_
 conv => whnf
 (refine acallF [3] (by kernel_rfl) (AFn.up (texts2A (l.map (·.other)) (by rw [List.length_map]; omega) (tok_map h.s4)) GS) ?_ ?_; (focus (repeat' (first | rfl | trivial | apply And.intro))))
 rintro _ _ _ ⟨rfl, rfl, rfl⟩
 conv => whnf
 refine VReq.mk (app_ok (by simp only [ln]; omega) (by kernel_rfl)) ?_
 conv => whnf
 (refine acallF [7] (by kernel_rfl) (AFn.up (ints2A (l.map (·.ver)) (all_map fun e he => (h.ok e he).ver) (by rw [List.length_map]; omega)) GS) ?_ ?_; (focus (repeat' (first | rfl | trivial | apply And.intro))))
 rintro _ _ _ ⟨rfl, rfl, rfl⟩
 conv => whnf
 refine VReq.mk (app_ok (by simp only [ln]; omega) (by kernel_rfl)) ?_
 conv => whnf
 (refine acallF [8] (by kernel_rfl) (AFn.up (ints2A (l.map (·.arm)) (all_map fun e he => (h.ok e he).arm) (by rw [List.length_map]; omega)) GS) ?_ ?_; (focus (repeat' (first | rfl | trivial | apply And.intro))))
 rintro _ _ _ ⟨rfl, rfl, rfl⟩
 conv => whnf
 refine VReq.mk (app_ok (by simp only [ln]; omega) (by kernel_rfl)) ?_
 conv => whnf
 (refine acallF [9] (by kernel_rfl) (AFn.up (ints2A (l.map (·.val)) (all_map fun e he => (h.ok e he).val) (by rw [List.length_map]; omega)) GS) ?_ ?_; (focus (repeat' (first | rfl | trivial | apply And.intro))))
 rintro _ _ _ ⟨rfl, rfl, rfl⟩
 conv => whnf
 refine VReq.mk (app_ok (by simp only [ln]; omega) (by kernel_rfl)) ?_
 conv => whnf
 refine aend (.own 0) 1 [(0, .rows 5 1 ((bdy l).map enB))] [(0, .lab 19)] [] ⟨rfl, rfl, rfl⟩ rfl ⟨⟨rfl, rfl, ?_⟩, trivial⟩ (by repeat' (first | rfl | trivial | apply And.intro))
 unfold bdy
 simp only [List.map_append]
end
section
attribute [local irreducible] best ints en bd txs dsT bdy chb lims evC
theorem cut_ch (l : List Ev) (i j : Nat) (hj : j = min (16 * i + 16) l.length) : ((l.map enE).take j).drop (16 * i) = (ch l i).map enE := by
 unfold ch
 rw [← List.map_take, ← List.map_drop, List.drop_take]
 congr 1
 rcases Nat.le_total (16 * i + 16) l.length with h | h
 ·rw [hj, Nat.min_eq_left h]; congr 1; omega
 ·rw [hj, Nat.min_eq_right h, List.take_of_length_le (by rw [List.length_drop]; omega), List.take_of_length_le (by rw [List.length_drop]; omega)]
theorem table2A (l : List Ev) (hok : ∀ e ∈ l, e.ok) (hl : l.length ≤ 1000000) : AFn Tryz.prog GS 9 [el l] 0 [] (Is (.tup [bs (tbB l), iv (tbE l)])) := by
 refine afn_of Tryz.func9 rfl mixed (by kernel_rfl) ?_
 conv => whnf
 apply vif_split <;> intro h
 ·have h5 : 512 < l.length := by simp at h; omega
  have e1 : tbE l = 5 := by unfold tbE; rw [if_pos h5]
  have e2 : tbB l = [] := by unfold tbB; rw [e1, if_neg (by decide)]
  rw [e1, e2]
  conv => whnf
  exact aret [] (by repeat' (first | rfl | trivial | apply And.intro))
 have h5 : l.length ≤ 512 := by simp at h; omega
 have e5 : tbE l = evsC l := by unfold tbE; rw [if_neg (by omega)]
 conv => whnf
 refine aloop ws9_1 0 [4] (fun i : Nat => [(4, iv i)]) (fun _ => []) (fun i => i ≤ l.length ∧ evsC (l.take i) = 0) (fun i => l.length - i) [] [] 0 (by kernel_rfl) (fun _ => rfl) rfl ⟨Nat.zero_le _, rfl⟩ trivial ⟨rfl, trivial⟩ ?_
 rintro i ⟨hi, hz⟩
 conv => whnf
 apply vif_split <;> intro h
 ·have hlt : i < l.length := by simp at h; omega
  have hk := evsC_take hlt hz
  conv => whnf
  refine AIn.mk' i rfl (by rw [List.length_map]; exact hlt) ?_
  conv => whnf
  refine ARd.mapAt (List.getElem?_eq_getElem hlt) ?_
  conv => whnf
  (refine acall [] (by kernel_rfl) (check2A l[i] (hok _ (List.getElem_mem hlt))) rfl ?_ ?_; (focus (repeat' (first | rfl | trivial | apply And.intro))))
  generalize evC l[i] = c at *
  conv => whnf
  apply vif_split <;> intro h
  ·have hc : c ≠ 0 := by simpa using h
   have e6 : tbE l = c := by rw [e5]; exact hk.2 hc
   have e7 : tbB l = [] := by unfold tbB; rw [e6, if_neg hc]
   rw [e6, e7]
   conv => whnf
   exact aret [] (by repeat' (first | rfl | trivial | apply And.intro))
  ·have hc : c = 0 := by simpa using h
   conv => whnf
   refine AAr.i64 (by omega) ?_
   conv => whnf
   exact aback (i + 1) [] [] rfl (by show l.length - (i + 1) < l.length - i; omega) ⟨hlt, hk.1.trans hc⟩ trivial ⟨rfl, trivial⟩
 have hie : i = l.length := by simp at h; omega
 subst hie
 rw [List.take_length] at hz
 have hv := evsC_all hz
 rw [hz] at e5
 have etb : tbB l = tab l := by unfold tbB; rw [if_pos e5]
 rw [etb, e5]
 conv => whnf
 rw [List.length_map]
 (refine acallF [] (by kernel_rfl) (AFn.up (put2A [] (l.length : Int) (i64_nat (by omega)) (by simp)) GS) ?_ ?_; (focus (repeat' (first | rfl | trivial | apply And.intro))))
 rintro _ _ _ ⟨rfl, rfl, rfl⟩
 conv => whnf
 refine aloop ws9_2 2 [7, 6] (fun i : Nat => [(7, iv ((16 * i : Nat) : Int)), (6, .own 1)]) (fun i => [(1, .rows 5 1 ((tabA l i).map enB))]) (fun i => i ≤ nC l) (fun i => nC l - i) [(1, .lab 0)] [] 0 (by kernel_rfl) (fun _ => rfl) rfl (Nat.zero_le _) ⟨⟨rfl, rfl, by show ([] ++ num (l.length : Int)).map enB = (tabA l 0).map enB; unfold tabA; simp⟩, trivial⟩ (by repeat' (first | rfl | trivial | apply And.intro)) ?_
 rintro i hi
 have hnc : nC l ≤ 32 ∧ 16 * nC l ≤ l.length + 15 ∧ l.length ≤ 16 * nC l := by unfold nC; omega
 have hta := tabA_len hok hv i hi
 conv => whnf
 apply vif_split <;> intro h
 ·have hlt : 16 * i < l.length := by simp at h; omega
  have hlc : i < nC l := by omega
  have hlok := ch_lok hok hv hlc
  have hcl := chb_len hlok
  have hbl : (bdy (ch l i)).length ≤ 70000 := bdA_len hlok 4
  conv => whnf
  refine AAr.i64 (by omega) ?_
  conv => whnf
  have hmin : min ((16 * i : Nat) + 16 : Int) (l.length : Int) = ((min (16 * i + 16) l.length : Nat) : Int) := by omega
  rw [List.length_map, hmin]
  refine ABd.mk' (16 * i) (min (16 * i + 16) l.length) rfl rfl (by omega) (by (try rw [List.length_map]); omega) ?_
  conv => whnf
  have hL := limits2LA (ch l i) hlok
  have hC := columns2A (ch l i) hlok
  have hrng := lims_rng hlok
  have hcb : chb (ch l i) = num (lims (ch l i)).1 ++ num (lims (ch l i)).2 ++ num ((bdy (ch l i)).length : Int) ++ bdy (ch l i) := by unfold chb; rfl
  have n1 := (num_len (lims (ch l i)).1).2
  have n2 := (num_len (lims (ch l i)).2).2
  have p1 := AFn.up (put2A (tabA l i) (lims (ch l i)).1 hrng.1 (by omega)) GS
  have p2 := AFn.up (put2A (tabA l i ++ num (lims (ch l i)).1) (lims (ch l i)).2 hrng.2 (by rw [List.length_append]; omega)) GS
  have p3 := AFn.up (put2A (tabA l i ++ num (lims (ch l i)).1 ++ num (lims (ch l i)).2) ((bdy (ch l i)).length : Int) (i64_nat (by omega)) (by simp only [List.length_append]; omega)) GS
  rw [← List.length_map (f := enB)] at p3
  refine acallF [] (by kernel_rfl) hL ⟨⟨rfl, cut_ch l i _ rfl⟩, trivial⟩ ?_
  rintro _ _ _ ⟨rfl, rfl, rfl⟩
  conv => whnf
  refine acallF [] (by kernel_rfl) hC ⟨⟨rfl, cut_ch l i _ rfl⟩, trivial⟩ ?_
  rintro _ _ _ ⟨rfl, rfl, rfl⟩
  conv => whnf
  (refine acallF [1] (by kernel_rfl) (p1) ?_ ?_; (focus (repeat' (first | rfl | trivial | apply And.intro))))
  rintro _ _ _ ⟨rfl, rfl, rfl⟩
  conv => whnf
  (refine acallF [3] (by kernel_rfl) (p2) ?_ ?_; (focus (repeat' (first | rfl | trivial | apply And.intro))))
  rintro _ _ _ ⟨rfl, rfl, rfl⟩
  conv => whnf
  (refine acallF [4] (by kernel_rfl) (p3) ?_ ?_; (focus (repeat' (first | rfl | trivial | apply And.intro))))
  rintro _ _ _ ⟨rfl, rfl, rfl⟩
  conv => whnf
  have n3 := (num_len (((bdy (ch l i)).map enB).length : Int)).2
  refine VReq.mk (app_ok (by simp only [ln] at *; omega) (by kernel_rfl)) ?_
  conv => whnf
  refine AAr.i64 (by omega) ?_
  conv => whnf
  refine aback (i + 1) [(1, .lab 6)] [] rfl (by show nC l - (i + 1) < nC l - i; omega) hlc ⟨⟨rfl, rfl, ?_⟩, trivial⟩ ⟨congrArg (Value.int .i64) (by omega), rfl, trivial⟩
  rw [tabA_succ, hcb, List.length_map]
  simp only [List.map_append, List.append_assoc]
 have : i = nC l := by simp at h; omega
 subst this
 conv => whnf
 exact aret [1] (by repeat' (first | rfl | trivial | apply And.intro))
end
end Go.Proofs.YtmhpfadbmpipkaaGreatDoor.Cl
