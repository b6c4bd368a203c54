/- Library contracts at this program (written by the kit's command lay-plain). No condition. -/
import Derived.Shelf.Sort.Plain
import Derived.Shelf.Bits.Mul64
import Derived.Ground.Names2Prog
import Derived.Shelf.Slices.CompactI
import Derived.Shelf.Slices.CompactS
import Derived.Test.YtmhpfadbmpipkaaGreatProg
namespace Go.Proofs
open Go.Shelf
def Tryz.lays189_ren : Go.Shelf.Ren := ⟨fun | 189 => 77 | 125 => 37 | 257 => 88 | 128 => 68 | 129 => 69 | 294 => 94 | 295 => 95 | 296 => 96 | 297 => 97 | 298 => 98 | 299 => 99 | 216 => 89 | 300 => 100 | 301 => 101 | 328 => 103 | 329 => 83 | 330 => 84 | 331 => 104 | 332 => 105 | 215 => 102 | 343 => 106 | n => n, fun | 28 => 37 | 3 => 3 | 46 => 64 | 0 => 0 | 51 => 86 | 53 => 74 | 4 => 4 | 183 => 80 | 182 => 79 | 131 => 42 | 5 => 5 | 9 => 9 | 218 => 94 | 222 => 98 | 228 => 105 | 229 => 106 | n => n, fun | n => n⟩
theorem Tryz.lays189 : Go.Proofs.Lays.n189 Tryz.prog Tryz.lays189_ren := {
  mixed := by kernel_rfl
  f125 := Tryz.func37.trans (congrArg some (by kernel_rfl))
  f128 := Tryz.func68.trans (congrArg some (by kernel_rfl))
  f129 := Tryz.func69.trans (congrArg some (by kernel_rfl))
  f189 := Tryz.func77.trans (congrArg some (by kernel_rfl))
  f215 := Tryz.func102.trans (congrArg some (by kernel_rfl))
  f216 := Tryz.func89.trans (congrArg some (by kernel_rfl))
  f257 := Tryz.func88.trans (congrArg some (by kernel_rfl))
  f294 := Tryz.func94.trans (congrArg some (by kernel_rfl))
  f295 := Tryz.func95.trans (congrArg some (by kernel_rfl))
  f296 := Tryz.func96.trans (congrArg some (by kernel_rfl))
  f297 := Tryz.func97.trans (congrArg some (by kernel_rfl))
  f298 := Tryz.func98.trans (congrArg some (by kernel_rfl))
  f299 := Tryz.func99.trans (congrArg some (by kernel_rfl))
  f300 := Tryz.func100.trans (congrArg some (by kernel_rfl))
  f301 := Tryz.func101.trans (congrArg some (by kernel_rfl))
  f328 := Tryz.func103.trans (congrArg some (by kernel_rfl))
  f329 := Tryz.func83.trans (congrArg some (by kernel_rfl))
  f330 := Tryz.func84.trans (congrArg some (by kernel_rfl))
  f331 := Tryz.func104.trans (congrArg some (by kernel_rfl))
  f332 := Tryz.func105.trans (congrArg some (by kernel_rfl))
  f343 := Tryz.func106.trans (congrArg some (by kernel_rfl))
  t0 := Tryz.underlying0
  a0 := Tryz.isAgg0
  z0 := Tryz.sizeOf0
  v0 := Tryz.zeroValue0
  t3 := Tryz.underlying3
  a3 := Tryz.isAgg3
  z3 := Tryz.sizeOf3
  v3 := Tryz.zeroValue3
  t4 := Tryz.underlying4
  a4 := Tryz.isAgg4
  z4 := Tryz.sizeOf4
  v4 := Tryz.zeroValue4
  t5 := Tryz.underlying5
  a5 := Tryz.isAgg5
  z5 := Tryz.sizeOf5
  v5 := Tryz.zeroValue5
  t9 := Tryz.underlying9
  a9 := Tryz.isAgg9
  z9 := Tryz.sizeOf9
  v9 := Tryz.zeroValue9
  t28 := Tryz.underlying37
  a28 := Tryz.isAgg37
  z28 := Tryz.sizeOf37
  v28 := Tryz.zeroValue37
  t46 := Tryz.underlying64
  a46 := Tryz.isAgg64
  z46 := Tryz.sizeOf64
  v46 := Tryz.zeroValue64
  t51 := Tryz.underlying86
  a51 := Tryz.isAgg86
  z51 := Tryz.sizeOf86
  v51 := Tryz.zeroValue86
  t53 := Tryz.underlying74
  a53 := Tryz.isAgg74
  z53 := Tryz.sizeOf74
  v53 := Tryz.zeroValue74
  t131 := Tryz.underlying42
  a131 := Tryz.isAgg42
  z131 := Tryz.sizeOf42
  v131 := Tryz.zeroValue42
  t182 := Tryz.underlying79
  a182 := Tryz.isAgg79
  z182 := Tryz.sizeOf79
  v182 := Tryz.zeroValue79
  t183 := Tryz.underlying80
  a183 := Tryz.isAgg80
  z183 := Tryz.sizeOf80
  v183 := Tryz.zeroValue80
  t218 := Tryz.underlying94
  a218 := Tryz.isAgg94
  z218 := Tryz.sizeOf94
  v218 := Tryz.zeroValue94
  t222 := Tryz.underlying98
  a222 := Tryz.isAgg98
  z222 := Tryz.sizeOf98
  v222 := Tryz.zeroValue98
  t228 := Tryz.underlying105
  a228 := Tryz.isAgg105
  z228 := Tryz.sizeOf105
  v228 := Tryz.zeroValue105
  t229 := Tryz.underlying106
  a229 := Tryz.isAgg106
  z229 := Tryz.sizeOf106
  v229 := Tryz.zeroValue106 }
open Go.Sort Go.RowKit in
theorem Tryz.slices_Sort_int (blk off cap : Nat) (zs : List Int) (w : World) (hH : Holds (Value.int .i64) w blk off zs.toArray) (hblk : blk < w.heap.size) (hsz : zs.length < 4611686018427387904) :
    Calls Tryz.prog 77 #[.slice (some ⟨blk, off, none⟩) zs.length cap] w fun e w' =>
      e = .returned (.tuple #[]) ∧ ∃ n os, w' = grow (putRow (Value.int .i64) (Sort.ahead w n) blk off (zs.mergeSort fun x y => decide (x ≤ y)).toArray) os := Any.slices_Sort_int Tryz.lays189 blk off cap zs w hH hblk hsz
def Tryz.lays190_ren : Go.Shelf.Ren := ⟨fun | 190 => 15 | 125 => 37 | 258 => 36 | 128 => 68 | 129 => 69 | 302 => 60 | 303 => 61 | 304 => 62 | 305 => 63 | 306 => 64 | 307 => 65 | 308 => 40 | 309 => 66 | 310 => 67 | 333 => 82 | 329 => 83 | 330 => 84 | 334 => 85 | 335 => 86 | 336 => 70 | 344 => 91 | n => n, fun | 31 => 22 | 9 => 9 | 3 => 3 | 46 => 64 | 0 => 0 | 51 => 86 | 53 => 74 | 4 => 4 | 183 => 80 | 182 => 79 | 131 => 42 | 5 => 5 | 218 => 94 | 222 => 98 | 228 => 105 | 229 => 106 | n => n, fun | n => n⟩
theorem Tryz.lays190 : Go.Proofs.Lays.n190 Tryz.prog Tryz.lays190_ren := {
  mixed := by kernel_rfl
  f125 := Tryz.func37.trans (congrArg some (by kernel_rfl))
  f128 := Tryz.func68.trans (congrArg some (by kernel_rfl))
  f129 := Tryz.func69.trans (congrArg some (by kernel_rfl))
  f190 := Tryz.func15.trans (congrArg some (by kernel_rfl))
  f258 := Tryz.func36.trans (congrArg some (by kernel_rfl))
  f302 := Tryz.func60.trans (congrArg some (by kernel_rfl))
  f303 := Tryz.func61.trans (congrArg some (by kernel_rfl))
  f304 := Tryz.func62.trans (congrArg some (by kernel_rfl))
  f305 := Tryz.func63.trans (congrArg some (by kernel_rfl))
  f306 := Tryz.func64.trans (congrArg some (by kernel_rfl))
  f307 := Tryz.func65.trans (congrArg some (by kernel_rfl))
  f308 := Tryz.func40.trans (congrArg some (by kernel_rfl))
  f309 := Tryz.func66.trans (congrArg some (by kernel_rfl))
  f310 := Tryz.func67.trans (congrArg some (by kernel_rfl))
  f329 := Tryz.func83.trans (congrArg some (by kernel_rfl))
  f330 := Tryz.func84.trans (congrArg some (by kernel_rfl))
  f333 := Tryz.func82.trans (congrArg some (by kernel_rfl))
  f334 := Tryz.func85.trans (congrArg some (by kernel_rfl))
  f335 := Tryz.func86.trans (congrArg some (by kernel_rfl))
  f336 := Tryz.func70.trans (congrArg some (by kernel_rfl))
  f344 := Tryz.func91.trans (congrArg some (by kernel_rfl))
  t0 := Tryz.underlying0
  a0 := Tryz.isAgg0
  z0 := Tryz.sizeOf0
  v0 := Tryz.zeroValue0
  t3 := Tryz.underlying3
  a3 := Tryz.isAgg3
  z3 := Tryz.sizeOf3
  v3 := Tryz.zeroValue3
  t4 := Tryz.underlying4
  a4 := Tryz.isAgg4
  z4 := Tryz.sizeOf4
  v4 := Tryz.zeroValue4
  t5 := Tryz.underlying5
  a5 := Tryz.isAgg5
  z5 := Tryz.sizeOf5
  v5 := Tryz.zeroValue5
  t9 := Tryz.underlying9
  a9 := Tryz.isAgg9
  z9 := Tryz.sizeOf9
  v9 := Tryz.zeroValue9
  t31 := Tryz.underlying22
  a31 := Tryz.isAgg22
  z31 := Tryz.sizeOf22
  v31 := Tryz.zeroValue22
  t46 := Tryz.underlying64
  a46 := Tryz.isAgg64
  z46 := Tryz.sizeOf64
  v46 := Tryz.zeroValue64
  t51 := Tryz.underlying86
  a51 := Tryz.isAgg86
  z51 := Tryz.sizeOf86
  v51 := Tryz.zeroValue86
  t53 := Tryz.underlying74
  a53 := Tryz.isAgg74
  z53 := Tryz.sizeOf74
  v53 := Tryz.zeroValue74
  t131 := Tryz.underlying42
  a131 := Tryz.isAgg42
  z131 := Tryz.sizeOf42
  v131 := Tryz.zeroValue42
  t182 := Tryz.underlying79
  a182 := Tryz.isAgg79
  z182 := Tryz.sizeOf79
  v182 := Tryz.zeroValue79
  t183 := Tryz.underlying80
  a183 := Tryz.isAgg80
  z183 := Tryz.sizeOf80
  v183 := Tryz.zeroValue80
  t218 := Tryz.underlying94
  a218 := Tryz.isAgg94
  z218 := Tryz.sizeOf94
  v218 := Tryz.zeroValue94
  t222 := Tryz.underlying98
  a222 := Tryz.isAgg98
  z222 := Tryz.sizeOf98
  v222 := Tryz.zeroValue98
  t228 := Tryz.underlying105
  a228 := Tryz.isAgg105
  z228 := Tryz.sizeOf105
  v228 := Tryz.zeroValue105
  t229 := Tryz.underlying106
  a229 := Tryz.isAgg106
  z229 := Tryz.sizeOf106
  v229 := Tryz.zeroValue106 }
open Go.Sort Go.RowKit in
theorem Tryz.slices_Sort_string (blk off cap : Nat) (ss : List (List UInt8)) (w : World) (hH : Holds encStr w blk off ss.toArray) (hblk : blk < w.heap.size) (hsz : ss.length < 4611686018427387904) :
    Calls Tryz.prog 15 #[.slice (some ⟨blk, off, none⟩) ss.length cap] w fun e w' =>
      e = .returned (.tuple #[]) ∧ ∃ n os, w' = grow (putRow encStr (Sort.ahead w n) blk off (ss.mergeSort fun x y => decide (x ≤ y)).toArray) os := Any.slices_Sort_string Tryz.lays190 blk off cap ss w hH hblk hsz
def Tryz.lays212_ren : Go.Shelf.Ren := ⟨fun | 212 => 87 | 263 => 92 | 264 => 93 | n => n, fun | 46 => 64 | 51 => 86 | 146 => 108 | 53 => 74 | 148 => 110 | n => n, fun | n => n⟩
theorem Tryz.lays212 : Go.Proofs.Lays.n212 Tryz.prog Tryz.lays212_ren := {
  mixed := by kernel_rfl
  f212 := Tryz.func87.trans (congrArg some (by kernel_rfl))
  f263 := Tryz.func92.trans (congrArg some (by kernel_rfl))
  f264 := Tryz.func93.trans (congrArg some (by kernel_rfl))
  t46 := Tryz.underlying64
  a46 := Tryz.isAgg64
  z46 := Tryz.sizeOf64
  v46 := Tryz.zeroValue64
  t51 := Tryz.underlying86
  a51 := Tryz.isAgg86
  z51 := Tryz.sizeOf86
  v51 := Tryz.zeroValue86
  t53 := Tryz.underlying74
  a53 := Tryz.isAgg74
  z53 := Tryz.sizeOf74
  v53 := Tryz.zeroValue74
  t146 := Tryz.underlying108
  a146 := Tryz.isAgg108
  z146 := Tryz.sizeOf108
  v146 := Tryz.zeroValue108
  t148 := Tryz.underlying110
  a148 := Tryz.isAgg110
  z148 := Tryz.sizeOf110
  v148 := Tryz.zeroValue110 }
open Go.RowKit Go.Lib in
theorem Tryz.bits_Mul (x y : Nat) (hx : x < 18446744073709551616) (hy : y < 18446744073709551616) (w : World) :
    Calls Tryz.prog 87 #[.int .u64 x, .int .u64 y] w fun e w' => e = .returned (.tuple #[.int .u64 ((x * y / 18446744073709551616 : Nat) : Int), .int .u64 ((x * y % 18446744073709551616 : Nat) : Int)]) ∧ w' = w := Any.bits_Mul Tryz.lays212 x y hx hy w
def Tryz.laysNm220_ren : Go.Shelf.Ren := ⟨fun | 20 => 78 | n => n, fun | 22 => 37 | 3 => 3 | 4 => 4 | 0 => 0 | n => n, fun | n => n⟩
theorem Tryz.laysNm220 : Go.Proofs.Lays2.n20 Tryz.prog Tryz.laysNm220_ren := {
  mixed := by kernel_rfl
  f20 := Tryz.func78.trans (congrArg some (by kernel_rfl))
  t0 := Tryz.underlying0
  a0 := Tryz.isAgg0
  z0 := Tryz.sizeOf0
  v0 := Tryz.zeroValue0
  t3 := Tryz.underlying3
  a3 := Tryz.isAgg3
  z3 := Tryz.sizeOf3
  v3 := Tryz.zeroValue3
  t4 := Tryz.underlying4
  a4 := Tryz.isAgg4
  z4 := Tryz.sizeOf4
  v4 := Tryz.zeroValue4
  t22 := Tryz.underlying37
  a22 := Tryz.isAgg37
  z22 := Tryz.sizeOf37
  v22 := Tryz.zeroValue37
  i3 := by kernel_rfl }
open Go.RowKit Go.Lib Go.Sort in
theorem Tryz.slices_Compact_int (blk off cap : Nat) (zs : List Int) (w : World) (hH : Holds (Value.int .i64) w blk off zs.toArray) (hsz : zs.length ≤ 9223372036854775807) (hcap : zs.length ≤ cap) :
    Calls Tryz.prog 78 #[.slice (some ⟨blk, off, none⟩) zs.length cap] w fun e w' => e = .returned (.slice (some ⟨blk, off, none⟩) (Lib.compact zs).length cap) ∧ ∃ q, w' = putRow (Value.int .i64) (Sort.ahead w q) blk off (Lib.compact zs ++ List.replicate (zs.length - (Lib.compact zs).length) 0).toArray := Any.slices_Compact_int Tryz.laysNm220 blk off cap zs w hH hsz hcap
def Tryz.lays194_ren : Go.Shelf.Ren := ⟨fun | 194 => 16 | n => n, fun | 31 => 22 | 9 => 9 | 3 => 3 | 4 => 4 | 0 => 0 | n => n, fun | n => n⟩
theorem Tryz.lays194 : Go.Proofs.Lays.n194 Tryz.prog Tryz.lays194_ren := {
  mixed := by kernel_rfl
  f194 := Tryz.func16.trans (congrArg some (by kernel_rfl))
  t0 := Tryz.underlying0
  a0 := Tryz.isAgg0
  z0 := Tryz.sizeOf0
  v0 := Tryz.zeroValue0
  t3 := Tryz.underlying3
  a3 := Tryz.isAgg3
  z3 := Tryz.sizeOf3
  v3 := Tryz.zeroValue3
  t4 := Tryz.underlying4
  a4 := Tryz.isAgg4
  z4 := Tryz.sizeOf4
  v4 := Tryz.zeroValue4
  t9 := Tryz.underlying9
  a9 := Tryz.isAgg9
  z9 := Tryz.sizeOf9
  v9 := Tryz.zeroValue9
  t31 := Tryz.underlying22
  a31 := Tryz.isAgg22
  z31 := Tryz.sizeOf22
  v31 := Tryz.zeroValue22 }
open Go.RowKit Go.Lib Go.Sort in
theorem Tryz.slices_Compact_string (blk off cap : Nat) (zs : List (List UInt8)) (w : World) (hH : Holds encStr w blk off zs.toArray) (hsz : zs.length ≤ 9223372036854775807) (hcap : zs.length ≤ cap) :
    Calls Tryz.prog 16 #[.slice (some ⟨blk, off, none⟩) zs.length cap] w fun e w' => e = .returned (.slice (some ⟨blk, off, none⟩) (Lib.compact zs).length cap) ∧ ∃ q, w' = putRow encStr (Sort.ahead w q) blk off (Lib.compact zs ++ List.replicate (zs.length - (Lib.compact zs).length) []).toArray := Any.slices_Compact_string Tryz.lays194 blk off cap zs w hH hsz hcap
end Go.Proofs
