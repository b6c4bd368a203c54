/- Joined parts of the proof. Library contracts at this program (written by the kit's command lay-plain) -/
import Derived.Shelf.Sort.Plain
import Derived.Shelf.Bits.Mul64
import Derived.Ground.Names2Prog
import Derived.Shelf.Slices.CompactI
import Derived.Shelf.Slices.CompactS
import Derived.Test.YtocckceefcmeaaaGreatDoorProg
import Derived.Test.YtocckceefcmeaaaGreatDoorPk13
import Derived.Test.YtocckceefcmeaaaGreatDoorPk11
set_option linter.unusedVariables false
set_option linter.unusedSimpArgs false
set_option maxRecDepth 100000
set_option maxHeartbeats 16000000
namespace Go.Proofs
open Go.Shelf
def Tryz.lays189_ren:Go.Shelf.Ren:=⟨fun | 189=>203 | 125=>173 | 257=>216 | 128=>198 | 129=>199 | 294=>222 | 295=>223 | 296=>224 | 297=>225 | 298=>226 | 299=>227 | 216=>217 | 300=>228 | 301=>229 | 328=>231 | 329=>211 | 330=>212 | 331=>232 | 332=>233 | 215=>230 | 343=>234 | n=>n,fun | 28=>24 | 3=>3 | 46=>35 | 0=>0 | 51=>215 | 53=>74 | 4=>4 | 183=>220 | 182=>219 | 131=>148 | 5=>5 | 9=>9 | 218=>240 | 222=>166 | 228=>251 | 229=>135 | n=>n,fun | n=>n⟩
theorem Tryz.lays189:Go.Proofs.Lays.n189 Tryz.prog Tryz.lays189_ren:= {
 mixed:=by kernel_rfl
 f125:=Tryz.func173.trans (congrArg some (by kernel_rfl))
 f128:=Tryz.func198.trans (congrArg some (by kernel_rfl))
 f129:=Tryz.func199.trans (congrArg some (by kernel_rfl))
 f189:=Tryz.func203.trans (congrArg some (by kernel_rfl))
 f215:=Tryz.func230.trans (congrArg some (by kernel_rfl))
 f216:=Tryz.func217.trans (congrArg some (by kernel_rfl))
 f257:=Tryz.func216.trans (congrArg some (by kernel_rfl))
 f294:=Tryz.func222.trans (congrArg some (by kernel_rfl))
 f295:=Tryz.func223.trans (congrArg some (by kernel_rfl))
 f296:=Tryz.func224.trans (congrArg some (by kernel_rfl))
 f297:=Tryz.func225.trans (congrArg some (by kernel_rfl))
 f298:=Tryz.func226.trans (congrArg some (by kernel_rfl))
 f299:=Tryz.func227.trans (congrArg some (by kernel_rfl))
 f300:=Tryz.func228.trans (congrArg some (by kernel_rfl))
 f301:=Tryz.func229.trans (congrArg some (by kernel_rfl))
 f328:=Tryz.func231.trans (congrArg some (by kernel_rfl))
 f329:=Tryz.func211.trans (congrArg some (by kernel_rfl))
 f330:=Tryz.func212.trans (congrArg some (by kernel_rfl))
 f331:=Tryz.func232.trans (congrArg some (by kernel_rfl))
 f332:=Tryz.func233.trans (congrArg some (by kernel_rfl))
 f343:=Tryz.func234.trans (congrArg some (by kernel_rfl))
 t0:=Tryz.underlying0
 a0:=Tryz.isAgg0
 z0:=Tryz.sizeOf0
 v0:=Tryz.zeroValue0
 t3:=Tryz.underlying3
 a3:=Tryz.isAgg3
 z3:=Tryz.sizeOf3
 v3:=Tryz.zeroValue3
 t4:=Tryz.underlying4
 a4:=Tryz.isAgg4
 z4:=Tryz.sizeOf4
 v4:=Tryz.zeroValue4
 t5:=Tryz.underlying5
 a5:=Tryz.isAgg5
 z5:=Tryz.sizeOf5
 v5:=Tryz.zeroValue5
 t9:=Tryz.underlying9
 a9:=Tryz.isAgg9
 z9:=Tryz.sizeOf9
 v9:=Tryz.zeroValue9
 t28:=Tryz.underlying24
 a28:=Tryz.isAgg24
 z28:=Tryz.sizeOf24
 v28:=Tryz.zeroValue24
 t46:=Tryz.underlying35
 a46:=Tryz.isAgg35
 z46:=Tryz.sizeOf35
 v46:=Tryz.zeroValue35
 t51:=Tryz.underlying215
 a51:=Tryz.isAgg215
 z51:=Tryz.sizeOf215
 v51:=Tryz.zeroValue215
 t53:=Tryz.underlying74
 a53:=Tryz.isAgg74
 z53:=Tryz.sizeOf74
 v53:=Tryz.zeroValue74
 t131:=Tryz.underlying148
 a131:=Tryz.isAgg148
 z131:=Tryz.sizeOf148
 v131:=Tryz.zeroValue148
 t182:=Tryz.underlying219
 a182:=Tryz.isAgg219
 z182:=Tryz.sizeOf219
 v182:=Tryz.zeroValue219
 t183:=Tryz.underlying220
 a183:=Tryz.isAgg220
 z183:=Tryz.sizeOf220
 v183:=Tryz.zeroValue220
 t218:=Tryz.underlying240
 a218:=Tryz.isAgg240
 z218:=Tryz.sizeOf240
 v218:=Tryz.zeroValue240
 t222:=Tryz.underlying166
 a222:=Tryz.isAgg166
 z222:=Tryz.sizeOf166
 v222:=Tryz.zeroValue166
 t228:=Tryz.underlying251
 a228:=Tryz.isAgg251
 z228:=Tryz.sizeOf251
 v228:=Tryz.zeroValue251
 t229:=Tryz.underlying135
 a229:=Tryz.isAgg135
 z229:=Tryz.sizeOf135
 v229:=Tryz.zeroValue135}
open Go.Sort Go.RowKit in
theorem Tryz.slices_Sort_int (blk off cap:Nat)(zs:List Int)(w:World)(hH:Holds (Value.int .i64) w blk off zs.toArray)(hblk:blk<w.heap.size)(hsz:zs.length<4611686018427387904) :
  Calls Tryz.prog 203 #[.slice (some ⟨blk,off,none⟩) zs.length cap] w fun e w'=>
   e = .returned (.tuple #[])∧∃n os,w'=grow (putRow (Value.int .i64) (Sort.ahead w n) blk off (zs.mergeSort fun x y=>decide (x≤y)).toArray) os:=Any.slices_Sort_int Tryz.lays189 blk off cap zs w hH hblk hsz
def Tryz.lays190_ren:Go.Shelf.Ren:=⟨fun | 190=>154 | 125=>173 | 258=>172 | 128=>198 | 129=>199 | 302=>190 | 303=>191 | 304=>192 | 305=>193 | 306=>194 | 307=>195 | 308=>174 | 309=>196 | 310=>197 | 333=>210 | 329=>211 | 330=>212 | 334=>213 | 335=>214 | 336=>200 | 344=>219 | n=>n,fun | 31=>133 | 9=>9 | 3=>3 | 46=>35 | 0=>0 | 51=>215 | 53=>74 | 4=>4 | 183=>220 | 182=>219 | 131=>148 | 5=>5 | 218=>240 | 222=>166 | 228=>251 | 229=>135 | n=>n,fun | n=>n⟩
theorem Tryz.lays190:Go.Proofs.Lays.n190 Tryz.prog Tryz.lays190_ren:= {
 mixed:=by kernel_rfl
 f125:=Tryz.func173.trans (congrArg some (by kernel_rfl))
 f128:=Tryz.func198.trans (congrArg some (by kernel_rfl))
 f129:=Tryz.func199.trans (congrArg some (by kernel_rfl))
 f190:=Tryz.func154.trans (congrArg some (by kernel_rfl))
 f258:=Tryz.func172.trans (congrArg some (by kernel_rfl))
 f302:=Tryz.func190.trans (congrArg some (by kernel_rfl))
 f303:=Tryz.func191.trans (congrArg some (by kernel_rfl))
 f304:=Tryz.func192.trans (congrArg some (by kernel_rfl))
 f305:=Tryz.func193.trans (congrArg some (by kernel_rfl))
 f306:=Tryz.func194.trans (congrArg some (by kernel_rfl))
 f307:=Tryz.func195.trans (congrArg some (by kernel_rfl))
 f308:=Tryz.func174.trans (congrArg some (by kernel_rfl))
 f309:=Tryz.func196.trans (congrArg some (by kernel_rfl))
 f310:=Tryz.func197.trans (congrArg some (by kernel_rfl))
 f329:=Tryz.func211.trans (congrArg some (by kernel_rfl))
 f330:=Tryz.func212.trans (congrArg some (by kernel_rfl))
 f333:=Tryz.func210.trans (congrArg some (by kernel_rfl))
 f334:=Tryz.func213.trans (congrArg some (by kernel_rfl))
 f335:=Tryz.func214.trans (congrArg some (by kernel_rfl))
 f336:=Tryz.func200.trans (congrArg some (by kernel_rfl))
 f344:=Tryz.func219.trans (congrArg some (by kernel_rfl))
 t0:=Tryz.underlying0
 a0:=Tryz.isAgg0
 z0:=Tryz.sizeOf0
 v0:=Tryz.zeroValue0
 t3:=Tryz.underlying3
 a3:=Tryz.isAgg3
 z3:=Tryz.sizeOf3
 v3:=Tryz.zeroValue3
 t4:=Tryz.underlying4
 a4:=Tryz.isAgg4
 z4:=Tryz.sizeOf4
 v4:=Tryz.zeroValue4
 t5:=Tryz.underlying5
 a5:=Tryz.isAgg5
 z5:=Tryz.sizeOf5
 v5:=Tryz.zeroValue5
 t9:=Tryz.underlying9
 a9:=Tryz.isAgg9
 z9:=Tryz.sizeOf9
 v9:=Tryz.zeroValue9
 t31:=Tryz.underlying133
 a31:=Tryz.isAgg133
 z31:=Tryz.sizeOf133
 v31:=Tryz.zeroValue133
 t46:=Tryz.underlying35
 a46:=Tryz.isAgg35
 z46:=Tryz.sizeOf35
 v46:=Tryz.zeroValue35
 t51:=Tryz.underlying215
 a51:=Tryz.isAgg215
 z51:=Tryz.sizeOf215
 v51:=Tryz.zeroValue215
 t53:=Tryz.underlying74
 a53:=Tryz.isAgg74
 z53:=Tryz.sizeOf74
 v53:=Tryz.zeroValue74
 t131:=Tryz.underlying148
 a131:=Tryz.isAgg148
 z131:=Tryz.sizeOf148
 v131:=Tryz.zeroValue148
 t182:=Tryz.underlying219
 a182:=Tryz.isAgg219
 z182:=Tryz.sizeOf219
 v182:=Tryz.zeroValue219
 t183:=Tryz.underlying220
 a183:=Tryz.isAgg220
 z183:=Tryz.sizeOf220
 v183:=Tryz.zeroValue220
 t218:=Tryz.underlying240
 a218:=Tryz.isAgg240
 z218:=Tryz.sizeOf240
 v218:=Tryz.zeroValue240
 t222:=Tryz.underlying166
 a222:=Tryz.isAgg166
 z222:=Tryz.sizeOf166
 v222:=Tryz.zeroValue166
 t228:=Tryz.underlying251
 a228:=Tryz.isAgg251
 z228:=Tryz.sizeOf251
 v228:=Tryz.zeroValue251
 t229:=Tryz.underlying135
 a229:=Tryz.isAgg135
 z229:=Tryz.sizeOf135
 v229:=Tryz.zeroValue135}
open Go.Sort Go.RowKit in
theorem Tryz.slices_Sort_string (blk off cap:Nat)(ss:List (List UInt8))(w:World)(hH:Holds encStr w blk off ss.toArray)(hblk:blk<w.heap.size)(hsz:ss.length<4611686018427387904) :
  Calls Tryz.prog 154 #[.slice (some ⟨blk,off,none⟩) ss.length cap] w fun e w'=>
   e = .returned (.tuple #[])∧∃n os,w'=grow (putRow encStr (Sort.ahead w n) blk off (ss.mergeSort fun x y=>decide (x≤y)).toArray) os:=Any.slices_Sort_string Tryz.lays190 blk off cap ss w hH hblk hsz
def Tryz.lays212_ren:Go.Shelf.Ren:=⟨fun | 212=>215 | 263=>220 | 264=>221 | n=>n,fun | 46=>35 | 51=>215 | 146=>253 | 53=>74 | 148=>255 | n=>n,fun | n=>n⟩
theorem Tryz.lays212:Go.Proofs.Lays.n212 Tryz.prog Tryz.lays212_ren:= {
 mixed:=by kernel_rfl
 f212:=Tryz.func215.trans (congrArg some (by kernel_rfl))
 f263:=Tryz.func220.trans (congrArg some (by kernel_rfl))
 f264:=Tryz.func221.trans (congrArg some (by kernel_rfl))
 t46:=Tryz.underlying35
 a46:=Tryz.isAgg35
 z46:=Tryz.sizeOf35
 v46:=Tryz.zeroValue35
 t51:=Tryz.underlying215
 a51:=Tryz.isAgg215
 z51:=Tryz.sizeOf215
 v51:=Tryz.zeroValue215
 t53:=Tryz.underlying74
 a53:=Tryz.isAgg74
 z53:=Tryz.sizeOf74
 v53:=Tryz.zeroValue74
 t146:=Tryz.underlying253
 a146:=Tryz.isAgg253
 z146:=Tryz.sizeOf253
 v146:=Tryz.zeroValue253
 t148:=Tryz.underlying255
 a148:=Tryz.isAgg255
 z148:=Tryz.sizeOf255
 v148:=Tryz.zeroValue255}
open Go.RowKit Go.Lib in
theorem Tryz.bits_Mul (x y:Nat)(hx:x<18446744073709551616)(hy:y<18446744073709551616)(w:World) :
  Calls Tryz.prog 215 #[.int .u64 x, .int .u64 y] w fun e w'=>e = .returned (.tuple #[.int .u64 ((x*y/18446744073709551616:Nat):Int), .int .u64 ((x*y%18446744073709551616:Nat):Int)])∧w'=w:=Any.bits_Mul Tryz.lays212 x y hx hy w
def Tryz.laysNm220_ren:Go.Shelf.Ren:=⟨fun | 20=>204 | n=>n,fun | 22=>24 | 3=>3 | 4=>4 | 0=>0 | n=>n,fun | n=>n⟩
theorem Tryz.laysNm220:Go.Proofs.Lays2.n20 Tryz.prog Tryz.laysNm220_ren:= {
 mixed:=by kernel_rfl
 f20:=Tryz.func204.trans (congrArg some (by kernel_rfl))
 t0:=Tryz.underlying0
 a0:=Tryz.isAgg0
 z0:=Tryz.sizeOf0
 v0:=Tryz.zeroValue0
 t3:=Tryz.underlying3
 a3:=Tryz.isAgg3
 z3:=Tryz.sizeOf3
 v3:=Tryz.zeroValue3
 t4:=Tryz.underlying4
 a4:=Tryz.isAgg4
 z4:=Tryz.sizeOf4
 v4:=Tryz.zeroValue4
 t22:=Tryz.underlying24
 a22:=Tryz.isAgg24
 z22:=Tryz.sizeOf24
 v22:=Tryz.zeroValue24
 i3:=by kernel_rfl}
open Go.RowKit Go.Lib Go.Sort in
theorem Tryz.slices_Compact_int (blk off cap:Nat)(zs:List Int)(w:World)(hH:Holds (Value.int .i64) w blk off zs.toArray)(hsz:zs.length≤9223372036854775807)(hcap:zs.length≤cap) :
  Calls Tryz.prog 204 #[.slice (some ⟨blk,off,none⟩) zs.length cap] w fun e w'=>e = .returned (.slice (some ⟨blk,off,none⟩) (Lib.compact zs).length cap)∧∃q,w'=putRow (Value.int .i64) (Sort.ahead w q) blk off (Lib.compact zs++List.replicate (zs.length -(Lib.compact zs).length) 0).toArray:=Any.slices_Compact_int Tryz.laysNm220 blk off cap zs w hH hsz hcap
def Tryz.lays194_ren:Go.Shelf.Ren:=⟨fun | 194=>155 | n=>n,fun | 31=>133 | 9=>9 | 3=>3 | 4=>4 | 0=>0 | n=>n,fun | n=>n⟩
theorem Tryz.lays194:Go.Proofs.Lays.n194 Tryz.prog Tryz.lays194_ren:= {
 mixed:=by kernel_rfl
 f194:=Tryz.func155.trans (congrArg some (by kernel_rfl))
 t0:=Tryz.underlying0
 a0:=Tryz.isAgg0
 z0:=Tryz.sizeOf0
 v0:=Tryz.zeroValue0
 t3:=Tryz.underlying3
 a3:=Tryz.isAgg3
 z3:=Tryz.sizeOf3
 v3:=Tryz.zeroValue3
 t4:=Tryz.underlying4
 a4:=Tryz.isAgg4
 z4:=Tryz.sizeOf4
 v4:=Tryz.zeroValue4
 t9:=Tryz.underlying9
 a9:=Tryz.isAgg9
 z9:=Tryz.sizeOf9
 v9:=Tryz.zeroValue9
 t31:=Tryz.underlying133
 a31:=Tryz.isAgg133
 z31:=Tryz.sizeOf133
 v31:=Tryz.zeroValue133}
open Go.RowKit Go.Lib Go.Sort in
theorem Tryz.slices_Compact_string (blk off cap:Nat)(zs:List (List UInt8))(w:World)(hH:Holds encStr w blk off zs.toArray)(hsz:zs.length≤9223372036854775807)(hcap:zs.length≤cap) :
  Calls Tryz.prog 155 #[.slice (some ⟨blk,off,none⟩) zs.length cap] w fun e w'=>e = .returned (.slice (some ⟨blk,off,none⟩) (Lib.compact zs).length cap)∧∃q,w'=putRow encStr (Sort.ahead w q) blk off (Lib.compact zs++List.replicate (zs.length -(Lib.compact zs).length) []).toArray:=Any.slices_Compact_string Tryz.lays194 blk off cap zs w hH hsz hcap
end Go.Proofs
namespace Go.Proofs.YtocckceefcmeaaaGreatDoor.Cl
open Go Go.RowKit Go.Proofs Go.Proofs.YtocckceefcmeaaaGreatDoor.Vc Go.Proofs.YtocckceefcmeaaaGreatDoor.Ax
attribute [local irreducible] loadVar storeVar Instr.indexAt Instr.index Instr.sliceAt Instr.makeSlice Instr.lookup Instr.mapUpdate Instr.range Instr.next Instr.entry Instr.makeMap Builtin.append_ Builtin.copy_ Builtin.len_ Builtin.min_ Builtin.max_ Builtin.cap_ Builtin.delete_ Builtin.clear_ convert binOp eqGuard Op.unary Calls
theorem LY {lo x:Int}(h1:I64 lo)(h2:I64 x)(h:lo≤x):IntKind.u64.wrap (IntKind.u64.wrap x-IntKind.u64.wrap lo)=((dif lo x:Nat):Int)∧dif lo x<18446744073709551616:=by
 have e:IntKind.u64.bits=64:=rfl
 have s:IntKind.u64.signed=false:=rfl
 unfold I64 at h1 h2
 unfold dif
 simp only [IntKind.wrap,e,s,Bool.false_and,Bool.false_eq_true,if_false]
 omega
theorem Xo : ∀a,a<256→∀s,s<8→a.testBit s=false→a ||| 2^s=a+2^s:=by decide
theorem aaH {d k:Nat}(hd:d<18446744073709551616)(hk:k≤64):bn .and .u64 (Int.fdiv (d:Int) (2^min (Int.toNat (k:Int)) IntKind.u64.bits)) 1=(((if d.testBit k=true then 1 else 0):Nat):Int):=by
 have e:(1:Int)=((1:Nat):Int):=rfl
 have h1:d/2^k≤d:=Nat.div_le_self _ _
 rw [Xh d k hk,e,GV _ 1 (by omega) (by decide),and1,JI]
theorem w8 {n:Nat}(h:n<256):IntKind.u8.wrap (n:Int)=n:=ku h
theorem pw8 {c s:Nat}(hc:c≤1)(hs:s<8):c*2^s<256:=by
 have:2^s≤2^7:=Nat.pow_le_pow_right (by decide) (by omega)
 have h2:=Nat.mul_le_mul hc this
 have:(1:Nat)*2^7=128:=by decide
 omega
theorem Qu {c s:Nat}(hc:c≤1)(hs:s<8):IntKind.u8.wrap ((c:Int)*2^min (Int.toNat (s:Int)) IntKind.u8.bits)=((c*2^s:Nat):Int):=by
 have e:IntKind.u8.bits=8:=rfl
 rw [e,Int.toNat_natCast,Nat.min_eq_left (by omega)]
 have e2:(c:Int)*2^s=((c*2^s:Nat):Int):=by simp
 rw [e2,w8 (pw8 hc hs)]
theorem Xp (bit:Nat→Bool)(p:Nat):bn .or .u8 ((UInt8.ofNat (BK bit p (p/8) 8)).toNat:Int) (((if bit p=true then 1 else 0)*2^(p%8):Nat):Int)=((UInt8.ofNat (BK bit p (p/8) 8+(if bit p=true then 2^(p%8)else 0))).toNat:Int):=by
 have hlt:=JF bit p (p/8) 8
 have hb:=LJ bit p (p/8) 8 (p%8) (by omega)
 have e:8*(p/8)+p%8=p:=by omega
 rw [e,decide_eq_false (Nat.lt_irrefl p),Bool.false_and]at hb
 rw [toNat_ofNat (by omega)]
 by_cases h:bit p=true
 ·rw [if_pos h,if_pos h,Nat.one_mul]
  have h2:=pw8 (c:=1) (s:=p%8) (Nat.le_refl _) (by omega)
  have h3:=Xo _ hlt (p%8) (by omega) hb
  have h4:=Nat.or_lt_two_pow (n:=8) hlt (show 2^(p%8)<2^8 by omega)
  rw [JD _ _ (by omega) (by omega),h3,toNat_ofNat (by omega)]
 ·rw [if_neg h,if_neg h,Nat.zero_mul,JD _ _ (by omega) (by omega),Nat.or_zero,Nat.add_zero,toNat_ofNat (by omega)]
theorem aaI (bit:Nat→Bool)(n p:Nat):(pk bit n (p+1)).map dW=((pk bit n p).map dW).set (p/8) [FV.v (.int .u8 (bn .or .u8 ((UInt8.ofNat (BK bit p (p/8) 8)).toNat:Int) (((if bit p=true then 1 else 0)*2^(p%8):Nat):Int)))]:=by
 rw [Xp,WT,List.map_set];rfl
theorem RU {bit:Nat→Bool}{n p j:Nat}(h:j<n):(pk bit n p)[j]? = some (UInt8.ofNat (BK bit p j 8)):=by
 simp only [pk,List.getElem?_map,List.getElem?_range h,Option.map_some]
theorem Xq {l:Li}{i k:Nat}(hk:k<wd l)(hi:i<l.length):rG (lo l) (wd l) l (i*wd l+k)=(dif (lo l) l[i]).testBit k:=by
 unfold rG
 have hw:0<wd l:=by omega
 have e1:(i*wd l+k)/wd l=i:=by rw [Nat.mul_comm,Nat.mul_add_div hw,Nat.div_eq_of_lt hk,Nat.add_zero]
 have e2:(i*wd l+k)%wd l=k:=by rw [Nat.mul_comm,Nat.mul_add_mod,Nat.mod_eq_of_lt hk]
 rw [e1,e2,List.getD_eq_getElem?_getD,List.getElem?_eq_getElem hi];rfl
theorem YL {n w i k:Nat}(hi:i<n)(hk:k<w):i*w+k<n*w∧(i*w+k)/8<uI n w:=by
 have:=Nat.mul_le_mul_right w (show i+1≤n from hi)
 rw [Nat.add_mul,Nat.one_mul]at this
 unfold uI
 omega
theorem RV (b:By)(l:Li)(hl:cO l)(hne:l≠ [])(hb:b.length≤1000000)(hs:l.length≤10000):bD Tryz.prog GC 184 [bs b,li l] 0 [] (Is (bs (b++b5 l))):=by
 obtain⟨a,ha⟩:=List.exists_mem_of_ne_nil l hne
 have h1:=lo_le ha
 have h2:=LH ha
 have hlo:=hl _ h1.2
 have hhi:=hl _ h2.2
 have hd:=LY hlo hhi (by omega)
 have hw:=LK l hl
 have hlen:=RH (dif (lo l) (hi l)) hd.2
 have hwd:wid 64 (dif (lo l) (hi l))=wd l:=rfl
 rw [hwd]at hlen
 have n1:=(bF (lo l)).2
 have hmin:=aev l hne (by omega)
 have hmax:=aew l hne (by omega)
 clear hwd
 generalize hwe:wd l=w at *
 generalize hm:lo l=m at *
 generalize hM:hi l=M at *
 refine au Tryz.func184 rfl mixed (by kernel_rfl) ?_
 conv=>whnf
 (refine bf [] (by kernel_rfl) (hmin) rfl ?_ ?_;(focus trivial))
 conv=>whnf
 (refine bf [] (by kernel_rfl) (hmax) rfl ?_ ?_;(focus trivial))
 conv=>whnf
 refine aI.to rfl ?_
 conv=>whnf
 refine aI.to rfl ?_
 conv=>whnf
 refine aI.to hd.1 ?_
 conv=>whnf
 (refine bf [] (by kernel_rfl) (hlen) rfl ?_ ?_;(focus trivial))
 conv=>whnf
 (refine aj [] (by kernel_rfl) (iD b m hlo (by omega)) ?_ ?_;(focus trivial))
 rintro _ _ _ ⟨rfl,rfl,rfl⟩
 conv=>whnf
 (refine aj [0] (by kernel_rfl) (iD (b++num m) (w:Int) (bW (by omega)) (by rw [List.length_append];omega)) ?_ ?_;(focus trivial))
 rintro _ _ _ ⟨rfl,rfl,rfl⟩
 conv=>whnf
 have hlw:l.length*w≤640000:=by
  have:=Nat.mul_le_mul hs hw;omega
 refine aI.to (y:=((l.length*w:Nat):Int)) (by rw [List.length_map, ←Int.natCast_mul];exact IntWalk.i64_in _ (by omega)) ?_
 conv=>whnf
 refine aI.i64 (by omega) ?_
 conv=>whnf
 refine ay.mk (by decide) ?_
 conv=>whnf
 refine aI.to (y:=((uI l.length w:Nat):Int)) (by
  have e:Int.tdiv (((l.length*w:Nat):Int)+7) 8=((uI l.length w:Nat):Int):=rfl
  rw [e];exact IntWalk.i64_in _ (by unfold uI;omega)) ?_
 conv=>whnf
 refine KG.mk' (iQ:=1) (uI l.length w) rfl rfl (by unfold uI maxLen;omega) ?_
 conv=>whnf
 have hb3:(b++num m++num (w:Int)).length≤1000020:=by have:=(bF (w:Int)).2;simp only [List.length_append];omega
 refine bg VI 3 [36] (fun i:Nat=> [(36,iv i)]) (fun i=> [(2, .rows 5 1 ((pk (rG m w l) (uI l.length w) (i*w)).map dW)),(1, .rows 5 1 ((b++num m++num (w:Int)).map dW))]) (fun i=>i≤l.length) (fun i=>l.length-i) [] [] 0 (by kernel_rfl) (fun _=>rfl) rfl (Nat.zero_le _) ⟨⟨rfl,rfl,by rw [Nat.zero_mul,WR,List.map_replicate];rfl⟩,⟨rfl,rfl,rfl⟩,trivial⟩ ⟨rfl,trivial⟩ ?_
 rintro i hi
 conv=>whnf
 apply ah<;>intro h
 ·have hlt:i<l.length:=by simp at h;omega
  have hx:=lo_le (List.getElem_mem hlt)
  rw [hm]at hx
  have hxd:=LY hlo (hl _ (List.getElem_mem hlt)) hx.1
  conv=>whnf
  (repeat' ((first | refine And.intro ?_ ?_ | (apply ah<;>intro h<;>try simp only [bl]at h) | refine aI.i64 (by first | omega | ((try simp only [List.length_map]at *);omega)) ?_ | refine bC.mk' _ rfl (by first | omega | (simp only [ln];omega) | (simp only [ln]at *;omega)) ?_ | refine aS.aA (by assumption) ?_ | refine aS.set (by(try simp only [ln]at *);omega) ?_ | refine aS.map (by first | omega | (simp only [List.length_map]at *;omega)) ?_ | refine ay.mk (by first | decide | omega) ?_ | refine kG.mk (by kernel_rfl) rfl rfl ?_ | refine ay.mk (aG (by(try simp only [ln]at *);omega) (by kernel_rfl)) ?_)<;>conv=>whnf))
  refine aI.to rfl ?_
  conv=>whnf
  refine aI.to rfl ?_
  conv=>whnf
  refine aI.to hxd.1 ?_
  conv=>whnf
  have hbit : ∀k,k<w→rG m w l (i*w+k)=(dif m l[i]).testBit k:=fun k hk=>by
   have:=Xq (l:=l) (i:=i) (k:=k) (by rw [hwe];exact hk) hlt
   rwa [hm,hwe]at this
  generalize dif m l[i]=d at *
  refine bg VJ 3 [47] (fun k:Nat=> [(47,iv k)]) (fun k=> [(2, .rows 5 1 ((pk (rG m w l) (uI l.length w) (i*w+k)).map dW)),(1, .rows 5 1 ((b++num m++num (w:Int)).map dW))]) (fun k=>k≤w) (fun k=>w-k) [] [] 0 (by kernel_rfl) (fun _=>rfl) rfl (Nat.zero_le _) ⟨⟨rfl,rfl,rfl⟩,⟨rfl,rfl,rfl⟩,trivial⟩ ⟨rfl,trivial⟩ ?_
  rintro k hk
  conv=>whnf
  apply ah<;>intro h
  ·have hkw:k<w:=by simp at h;omega
   have hat:=YL hlt hkw
   have hmul:i*w+k≤640000:=by omega
   conv=>whnf
   refine aI.to (y:=((i*w:Nat):Int)) (by rw [←Int.natCast_mul];exact IntWalk.i64_in _ (by omega)) ?_
   conv=>whnf
   refine aI.to (y:=((i*w+k:Nat):Int)) (by rw [←Int.natCast_add];exact IntWalk.i64_in _ (by omega)) ?_
   conv=>whnf
   generalize hp:i*w+k=p at *
   (refine aP ZX [] (by kernel_rfl) ?_;conv=>whnf)
   refine ay.mk (by decide) ?_
   conv=>whnf
   refine aI.to (y:=((p/8:Nat):Int)) (by
    have e:Int.tdiv (p:Int) 8=((p/8:Nat):Int):=rfl
    rw [e];exact IntWalk.i64_in _ (by omega)) ?_
   conv=>whnf
   refine bC.mk' (p/8) rfl (by rw [List.length_map,pk_len];exact hat.2) ?_
   conv=>whnf
   refine aS.aA (RU hat.2) ?_
   conv=>whnf
   refine ay.mk (by omega) ?_
   conv=>whnf
   refine aI.to (y:=(((if d.testBit k=true then 1 else 0:Nat)):Int)) (by rw [aaH hxd.2 (by omega)];exact w8 (by split<;>omega)) ?_
   conv=>whnf
   refine ay.mk (by decide) ?_
   conv=>whnf
   refine ay.mk (by show (0:Int)≤((p%8:Nat):Int);omega) ?_
   conv=>whnf
   refine aI.to (y:=(((if d.testBit k=true then 1 else 0)*2^(p%8):Nat):Int)) (Qu (s:=p%8) (by split<;>omega) (Nat.mod_lt _ (by decide))) ?_
   conv=>whnf
   refine bC.mk' (p/8) rfl (by rw [List.length_map,pk_len];exact hat.2) ?_
   conv=>whnf
   refine aS.aA (RU hat.2) ?_
   conv=>whnf
   refine aI.i64 (by omega) ?_
   conv=>whnf
   have hbk:rG m w l p=d.testBit k:=by rw [←hp];exact hbit k hkw
   refine aF (k+1) [] [] rfl (by show w -(k+1)<w-k;omega) hkw ⟨⟨rfl,rfl, ?_⟩,⟨rfl,rfl,rfl⟩,trivial⟩ ⟨rfl,trivial⟩
   rw [show i*w+(k+1)=p+1 by omega,aaI,hbk]
  ·have:k=w:=by simp at h;omega
   subst this
   conv=>whnf
   refine aI.i64 (by omega) ?_
   conv=>whnf
   refine aF (i+1) [] [] rfl (by show l.length -(i+1)<l.length-i;omega) hlt ⟨⟨rfl,rfl, ?_⟩,⟨rfl,rfl,rfl⟩,trivial⟩ ⟨rfl,trivial⟩
   rw [show (i+1)*k=i*k+k by rw [Nat.add_mul,Nat.one_mul]]
 ·have:i=l.length:=by simp at h;omega
  subst this
  have hS:uI l.length w≤100000:=by unfold uI;omega
  conv=>whnf
  refine ay.mk (aG (by simp only [List.length_map,List.length_append,pk_len]at *;omega) (by kernel_rfl)) ?_
  conv=>whnf
  have e:b++b5 l=b++num m++num (w:Int)++pk (rG m w l) (uI l.length w) (l.length*w):=by
   unfold b5
   rw [hm,hwe]
   simp only [List.append_assoc]
  rw [e]
  refine aX [3] ⟨rfl,rfl, ?_⟩
  simp only [List.map_append]
def Xr (l:Li):Li:=l.mergeSort fun x y=>decide (x≤y)
theorem qw (l:Li):(Xr l).length=l.length:=List.length_mergeSort l
theorem Xt (l:Li)(y:Int):y∈Xr l↔y∈l:=List.mem_mergeSort
theorem JO (l:Li):(Xr l).Pairwise (· ≤ ·):=by
 have:=List.pairwise_mergeSort (le:=fun x y:Int=>decide (x≤y)) (fun a b c h1 h2=>by simp at *;omega) (fun a b=>by simp;omega) l
 exact this.imp fun h=>by simpa using h
theorem RY (z:Li)(hs:z.Pairwise (· ≤ ·)) : ∀m,m≤z.length→SS (Lib.compactUpTo z.toArray m)∧∀y,y∈Lib.compactUpTo z.toArray m↔y∈z.take m:=by
 intro m
 induction m with
 | zero=>intro _;simp [Lib.compactUpTo,SS]
 | succ m ih=>
  intro hm
  have hlt:m<z.length:=by omega
  obtain⟨h1,h2⟩:=ih (by omega)
  have em:z.toArray[m]! = z[m]:=by simp [hlt]
  have le : ∀j (hj:j<m),z[j]'(by omega)≤z[m]:=fun j hj=>List.pairwise_iff_getElem.1 hs j m (by omega) hlt hj
  rw [Lib.compactUpTo_succ,List.take_succ_eq_append_getElem hlt,em]
  by_cases hk:Lib.keeps z.toArray m=true
  ·rw [if_pos hk]
   refine⟨List.pairwise_append.2 ⟨h1,List.pairwise_singleton _ _,fun a ha b hb=> ?_⟩,fun y=>by simp only [List.mem_append,h2,List.mem_singleton]⟩
   rw [List.mem_singleton.1 hb]
   obtain⟨j,hj,e⟩:=List.getElem_of_mem ((h2 a).1 ha)
   rw [List.length_take]at hj
   rw [List.getElem_take]at e
   have hjm:j<m:=by omega
   have hne:z[m-1]'(by omega)≠z[m]:=by
    unfold Lib.keeps at hk
    rw [decide_eq_true_eq]at hk
    rcases hk with h | h
    ·omega
    ·rw [em]at h
     have e1:z.toArray[m-1]! = z[m-1]'(by omega):=by simp [show m-1<z.length by omega]
     rw [e1]at h
     exact fun e=>h e.symm
   have l1:z[m-1]'(by omega)≤z[m]:=le (m-1) (by omega)
   have l2:z[j]'(by omega)≤z[m-1]'(by omega):=by
    rcases Nat.lt_or_ge j (m-1)with h | h
    ·exact List.pairwise_iff_getElem.1 hs j (m-1) (by omega) (by omega) h
    ·have:j=m-1:=by omega
     subst this;exact Int.le_refl _
   rw [←e];omega
  ·rw [if_neg hk,List.append_nil]
   refine⟨h1,fun y=> ?_⟩
   rw [h2,List.mem_append,List.mem_singleton]
   constructor
   ·exact .inl
   ·rintro(h | h)
    ·exact h
    ·unfold Lib.keeps at hk
     rw [decide_eq_true_eq]at hk
     have h0:0<m:=by
      rcases Nat.eq_zero_or_pos m with e | e
      ·exact absurd (.inl e) hk
      ·exact e
     have e1:z.toArray[m-1]! = z[m-1]'(by omega):=by simp [show m-1<z.length by omega]
     have e2:z[m]=z[m-1]'(by omega):=by
      rw [em,e1]at hk
      exact Classical.byContradiction fun h=>hk (.inr h)
     rw [h,e2]
     exact List.mem_iff_getElem.2 ⟨m-1,by rw [List.length_take];omega,by rw [List.getElem_take]⟩
theorem Aj (l:Li):Lib.compact (Xr l)=ds l:=by
 have h:=RY (Xr l) (JO l) (Xr l).length (Nat.le_refl _)
 rw [List.take_length]at h
 exact acF h.1 fun y=>by
  have:=h.2 y
  rw [Xt]at this
  exact this
theorem acS (a:Int):(Value.int .i64 a).oneCell'=true:=rfl
theorem sortA (l:Li)(hne:l≠ [])(hs:l.length≤1000000):bD Tryz.prog GC 203 [.own 0] 1 [(0, .rows 3 1 (l.map oM))] (fun a n H=>a = .bH []∧n=1∧H = [(0, .rows 3 1 ((Xr l).map oM))]):=
 qo (enc:=Value.int .i64) (V:=fun _ _ v=>v = .tuple #[]) acS hne (qw l)
  (fun w blk cap hH hb _=>Calls.mono (Tryz.slices_Sort_int blk 0 cap l w hH hb (by omega)) fun e w' ⟨h1,h2⟩=>⟨_,h1,rfl,h2⟩)
  (fun w σ F blk cap v _ _ hv=>by subst hv;exact bJ.bH («as» := []) (vs:= []) trivial)
theorem RZ (l:Li)(hne:l≠ [])(hs:l.length≤1000000):bD Tryz.prog GC 204 [.own 0] 1 [(0, .rows 3 1 ((Xr l).map oM))] (fun a n H=>a = .sub 0 0 (ds l).length∧n=1∧H = [(0, .rows 3 1 ((ds l++List.replicate (l.length -(ds l).length) 0).map oM))]):=
 qo (enc:=Value.int .i64) (zs':=ds l++List.replicate (l.length -(ds l).length) 0) (V:=fun blk cap v=>v = .slice (some ⟨blk,0,none⟩) (ds l).length cap) acS (by intro h;have:=qw l;rw [h]at this;exact hne (List.eq_nil_of_length_eq_zero this.symm))
  (by have:=wo l;rw [qw,List.length_append,List.length_replicate];omega)
  (fun w blk cap hH hb hc=>Calls.mono (Tryz.slices_Compact_int blk 0 cap (Xr l) w hH (by rw [qw];omega) hc) fun e w' ⟨h1,q,h2⟩=>⟨_,h1,by rw [Aj],q, #[],by rw [h2,Aj,Sort.grow_empty,qw]⟩)
  (fun w σ F blk cap v hσ hc hv=>by
   subst hv
   have hd:=wo l
   rw [qw]at hσ hc
   refine .sub 0 0 _ _ cap (by decide) (by rw [hσ];show 0+_≤l.length;omega) (by omega) (fun h=>by cases h) fun _=>⟨blk,by rw [hσ],by rw [Nat.zero_mul]⟩)
theorem LZ (l:Li)(x:Li):(((ds l++x).map oM).drop 0).take (ds l).length=(ds l).map oM:=by
 rw [List.drop_zero,List.map_append]
 exact List.take_left' (List.length_map _)
theorem Si {d l:Li}{k:Nat}(h:k<l.length):ixs d (l.take (k+1))=ixs d (l.take k)++num (idx d l[k]):=by
 rw [List.take_succ_eq_append_getElem h]
 unfold ixs
 rw [List.flatMap_append,List.flatMap_cons,List.flatMap_nil,List.append_nil]
theorem Oi (b:By)(l:Li)(hl:cO l)(hne:l≠ [])(hb:b.length+20*l.length≤2000000):bD Tryz.prog GC 182 [bs b,li l] 0 [] (Is (bs (b++b4 l))):=by
 have hdl:=wo l
 have hda:cO (ds l):=fun x hx=>hl x ((oC l x).1 hx)
 have n1:=(bF ((ds l).length:Int)).2
 have n2:=Ad (ds l)
 refine au Tryz.func182 rfl mixed (by kernel_rfl) ?_
 conv=>whnf
 (refine aj [] (by kernel_rfl) (aaG l hne (by omega)) ?_ ?_;(focus trivial))
 rintro _ _ _ ⟨rfl,rfl,rfl⟩
 conv=>whnf
 refine aH [0] [] (by kernel_rfl) (sortA l hne (by omega)) rfl (by trivial) (by trivial) ?_
 rintro _ _ _ ⟨rfl,rfl,rfl⟩
 refine⟨rfl, ?_⟩
 conv=>whnf
 refine aH [0] [] (by kernel_rfl) (RZ l hne (by omega)) rfl (by trivial) (by trivial) ?_
 rintro _ _ _ ⟨rfl,rfl,rfl⟩
 refine⟨rfl, ?_⟩
 conv=>whnf
 (refine aj [] (by kernel_rfl) (iD b ((ds l).length:Int) (bW (by omega)) (by omega)) ?_ ?_;(focus trivial))
 rintro _ _ _ ⟨rfl,rfl,rfl⟩
 conv=>whnf
 refine aj [1,0] (by kernel_rfl) (CY (b++num ((ds l).length:Int)) (ds l) hda (by rw [List.length_append];omega)) ⟨⟨rfl,rfl,rfl⟩,⟨rfl,rfl,LZ l _⟩,trivial⟩ ?_
 rintro _ _ _ ⟨rfl,rfl,rfl⟩
 conv=>whnf
 have hix : ∀k,(ixs (ds l) (l.take k)).length≤10*l.length:=fun k=>by
  have h1:=Aa (fun x=>num (idx (ds l) x)) 10 (l.take k) fun x _=>(bF _).2
  rw [List.length_take]at h1
  have h2:(ixs (ds l) (l.take k)).length≤10*min k l.length:=h1
  omega
 refine bg VG 2 [0,24] (fun k:Nat=> [(0,bs (b++num ((ds l).length:Int)++b1 (ds l)++ixs (ds l) (l.take k))),(24,iv k)]) (fun _=> [(0, .fz 1 ((ds l++List.replicate (l.length -(ds l).length) 0).map oM))]) (fun k=>k≤l.length) (fun k=>l.length-k) [] [] 0 (by kernel_rfl) (fun _=>rfl) rfl (Nat.zero_le _) ⟨⟨rfl,rfl⟩,trivial⟩ ⟨⟨rfl,by rw [List.take_zero];simp [ixs]⟩,rfl,trivial⟩ ?_
 rintro k hk
 have hx:=hix k
 conv=>whnf
 apply ah<;>intro h
 ·have hlt:k<l.length:=by simp at h;omega
  have hmem:l[k]∈ds l:=(oC l _).2 (List.getElem_mem hlt)
  have hil:=(JE hmem).1
  conv=>whnf
  (repeat' ((first | refine And.intro ?_ ?_ | (apply ah<;>intro h<;>try simp only [bl]at h) | refine aI.i64 (by first | omega | ((try simp only [List.length_map]at *);omega)) ?_ | refine bC.mk' _ rfl (by first | omega | (simp only [ln];omega) | (simp only [ln]at *;omega)) ?_ | refine aS.aA (by assumption) ?_ | refine aS.set (by(try simp only [ln]at *);omega) ?_ | refine aS.map (by first | omega | (simp only [List.length_map]at *;omega)) ?_ | refine ay.mk (by first | decide | omega) ?_ | refine kG.mk (by kernel_rfl) rfl rfl ?_ | refine ay.mk (aG (by(try simp only [ln]at *);omega) (by kernel_rfl)) ?_)<;>conv=>whnf))
  refine bf [] (by kernel_rfl) (Xn (ds l) l[k] (LG l) hmem (by omega)) rfl ⟨⟨rfl,LZ l _⟩,rfl,trivial⟩ ?_
  conv=>whnf
  (refine aj [] (by kernel_rfl) (iD (b++num ((ds l).length:Int)++b1 (ds l)++ixs (ds l) (l.take k)) (idx (ds l) l[k]:Int) (bW (by omega)) (by simp only [List.length_append];omega)) ?_ ?_;(focus trivial))
  rintro _ _ _ ⟨rfl,rfl,rfl⟩
  conv=>whnf
  (repeat' ((first | refine And.intro ?_ ?_ | (apply ah<;>intro h<;>try simp only [bl]at h) | refine aI.i64 (by first | omega | ((try simp only [List.length_map]at *);omega)) ?_ | refine bC.mk' _ rfl (by first | omega | (simp only [ln];omega) | (simp only [ln]at *;omega)) ?_ | refine aS.aA (by assumption) ?_ | refine aS.set (by(try simp only [ln]at *);omega) ?_ | refine aS.map (by first | omega | (simp only [List.length_map]at *;omega)) ?_ | refine ay.mk (by first | decide | omega) ?_ | refine kG.mk (by kernel_rfl) rfl rfl ?_ | refine ay.mk (aG (by(try simp only [ln]at *);omega) (by kernel_rfl)) ?_)<;>conv=>whnf))
  refine aF (k+1) [] [2] rfl (by show l.length -(k+1)<l.length-k;omega) hlt ⟨⟨rfl,rfl⟩,trivial⟩ ⟨⟨rfl,rfl, ?_⟩,rfl,trivial⟩
  rw [Si hlt, ←List.append_assoc]
 ·have:k=l.length:=by simp at h;omega
  subst this
  conv=>whnf
  have e:b++b4 l=b++num ((ds l).length:Int)++b1 (ds l)++ixs (ds l) (l.take l.length):=by
   rw [List.take_length]
   unfold b4 ixs
   simp only [List.append_assoc]
  rw [e]
  exact aX [] (by trivial)
section
def bst (l:Li):Nat→AV
 | 0=> .v (.slice none 0 0)
 | k+1=>bs (best l k)
theorem Sj (l:Li)(h:cO l)(hs:l.length≤512) : ∀k,0<(best l k).length∧(best l k).length≤20000:=by
 intro k
 obtain⟨j,_,e⟩:=LM l k
 rw [e]
 have:=aay (j+1) l h
 have:=aaz (j+1) l
 omega
theorem Xu {l:Li}(h:l≠ []):ints l=best l 4:=by unfold ints;rw [if_neg h]
theorem Sl:ints []=num 1++num 0:=by unfold ints;rfl
theorem Oj (l:Li):best l 0=en 1 l:=rfl
theorem yx {l:Li}(k:Nat)(h:(en (k+2) l).length<(best l k).length):best l (k+1)=en (k+2) l:=by show sh _ _=_;unfold sh;rw [if_pos h]
theorem yA {l:Li}(k:Nat)(h : ¬(en (k+2) l).length<(best l k).length):best l (k+1)=best l k:=by show sh _ _=_;unfold sh;rw [if_neg h]
theorem en1 (l:Li):num (1:Int)++num l.length++b1 l=en 1 l:=rfl
theorem en2 (l:Li):num (2:Int)++num l.length++b2 l=en 2 l:=rfl
theorem en3 (l:Li):num (3:Int)++num l.length++b3 l=en 3 l:=rfl
theorem en4 (l:Li):num (4:Int)++num l.length++b4 l=en 4 l:=rfl
theorem en5 (l:Li):num (5:Int)++num l.length++b5 l=en 5 l:=rfl
attribute [local irreducible] best ints en bd
theorem lS (l:Li)(hl:cO l)(hs:l.length≤512):bD Tryz.prog GC 122 [li l] 0 [] (Is (bs (ints l))):=by
 have hb:=Sj l hl hs
 have n2:=(bF (l.length:Int)).2
 have nn : ∀k:Int,(num k).length≤10:=fun k=>(bF k).2
 have hlenA : ∀k:Int,bD Tryz.prog GC 28 [bs (num k),iv ((l.map oM).length:Nat)] 0 [] (lM 5 1 ((num k++num l.length).map dW)):=fun k=>by
  rw [List.length_map]
  exact iD (num k) l.length (bW (by omega)) (by have:=nn k;omega)
 have hz : ∀k:Int,(num k++num (l.length:Int)).length≤20:=fun k=>by have:=nn k;simp only [List.length_append];omega
 have hp1:=CY (num 1++num l.length) l hl (by have:=hz 1;omega)
 have hp2:=RP (num 2++num l.length) l hl (by have:=hz 2;omega)
 have hp3:=Og (num 3++num l.length) l (by have:=hz 3;omega)
 have Ak:=fun h=>Oi (num 4++num l.length) l hl h (by have:=hz 4;omega)
 have nT:=fun h=>RV (num 5++num l.length) l hl h (by have:=hz 5;omega) (by omega)
 refine au Tryz.func122 rfl mixed (by kernel_rfl) ?_
 conv=>whnf
 (refine aj [] (by kernel_rfl) (qp) ?_ ?_;(focus trivial))
 rintro _ _ _ ⟨rfl,rfl,rfl⟩
 conv=>whnf
 refine bg Vh 0 [3,8] (fun i:Nat=> [(3,bst l i),(8,iv i)]) (fun _=> []) (fun i=>i≤5∧(0<i→l≠ [])) (fun i=>5-i) [] [] 0 (by kernel_rfl) (fun _=>rfl) rfl ⟨Nat.zero_le _,fun h=>absurd h (Nat.lt_irrefl 0)⟩ trivial ⟨rfl,rfl,trivial⟩ ?_
 rintro i ⟨hi,hne⟩
 have hc:i=0∨i=1∨i=2∨i=3∨i=4∨i=5:=by omega
 rcases hc with rfl | rfl | rfl | rfl | rfl | rfl
 ·conv=>whnf
  refine bC.mk' 0 rfl (by decide) ?_
  conv=>whnf
  (repeat' ((first | refine And.intro ?_ ?_ | (apply ah<;>intro h<;>try simp only [bl]at h) | refine aI.i64 (by first | omega | ((try simp only [List.length_map]at *);omega)) ?_ | refine bC.mk' _ rfl (by first | omega | (simp only [ln];omega) | (simp only [ln]at *;omega)) ?_ | refine aS.aA (by assumption) ?_ | refine aS.set (by(try simp only [ln]at *);omega) ?_ | refine aS.map (by first | omega | (simp only [List.length_map]at *;omega)) ?_ | refine ay.mk (by first | decide | omega) ?_ | refine kG.mk (by kernel_rfl) rfl rfl ?_ | refine ay.mk (aG (by(try simp only [ln]at *);omega) (by kernel_rfl)) ?_)<;>conv=>whnf))
  (refine aj [] (by kernel_rfl) (iD [] 1 (by unfold I64;omega) (by simp)) ?_ ?_;(focus trivial))
  rintro _ _ _ ⟨rfl,rfl,rfl⟩
  conv=>whnf
  (refine aj [1] (by kernel_rfl) (hlenA 1) ?_ ?_;(focus trivial))
  rintro _ _ _ ⟨rfl,rfl,rfl⟩
  conv=>whnf
  apply ah<;>intro h
  ·have e:l = []:=List.eq_nil_of_length_eq_zero (by simp at h;simp [h])
   subst e
   conv=>whnf
   rw [Sl]
   exact aX [2] (by trivial)
  have hnn:l≠ []:=fun e=>by subst e;simp at h
  conv=>whnf
  (refine aj [2] (by kernel_rfl) (hp1) ?_ ?_;(focus trivial))
  rintro _ _ _ ⟨rfl,rfl,rfl⟩
  conv=>whnf
  (repeat' ((first | refine And.intro ?_ ?_ | (apply ah<;>intro h<;>try simp only [bl]at h) | refine aI.i64 (by first | omega | ((try simp only [List.length_map]at *);omega)) ?_ | refine bC.mk' _ rfl (by first | omega | (simp only [ln];omega) | (simp only [ln]at *;omega)) ?_ | refine aS.aA (by assumption) ?_ | refine aS.set (by(try simp only [ln]at *);omega) ?_ | refine aS.map (by first | omega | (simp only [List.length_map]at *;omega)) ?_ | refine ay.mk (by first | decide | omega) ?_ | refine kG.mk (by kernel_rfl) rfl rfl ?_ | refine ay.mk (aG (by(try simp only [ln]at *);omega) (by kernel_rfl)) ?_)<;>conv=>whnf))
  refine aF 1 [] [] rfl (by decide) ⟨by decide,fun _=>hnn⟩ trivial ⟨⟨rfl, ?_⟩,rfl,trivial⟩
  rw [Oj, ←en1]
 ·conv=>whnf
  refine bC.mk' 1 rfl (by decide) ?_
  conv=>whnf
  (repeat' ((first | refine And.intro ?_ ?_ | (apply ah<;>intro h<;>try simp only [bl]at h) | refine aI.i64 (by first | omega | ((try simp only [List.length_map]at *);omega)) ?_ | refine bC.mk' _ rfl (by first | omega | (simp only [ln];omega) | (simp only [ln]at *;omega)) ?_ | refine aS.aA (by assumption) ?_ | refine aS.set (by(try simp only [ln]at *);omega) ?_ | refine aS.map (by first | omega | (simp only [List.length_map]at *;omega)) ?_ | refine ay.mk (by first | decide | omega) ?_ | refine kG.mk (by kernel_rfl) rfl rfl ?_ | refine ay.mk (aG (by(try simp only [ln]at *);omega) (by kernel_rfl)) ?_)<;>conv=>whnf))
  (refine aj [] (by kernel_rfl) (iD [] 2 (by unfold I64;omega) (by simp)) ?_ ?_;(focus trivial))
  rintro _ _ _ ⟨rfl,rfl,rfl⟩
  conv=>whnf
  (refine aj [1] (by kernel_rfl) (hlenA 2) ?_ ?_;(focus trivial))
  rintro _ _ _ ⟨rfl,rfl,rfl⟩
  conv=>whnf
  apply ah<;>intro h
  ·exact absurd (List.eq_nil_of_length_eq_zero (by simp at h;simp [h])) (hne (by decide))
  have hnn:=hne (by decide)
  conv=>whnf
  (refine aj [2] (by kernel_rfl) (hp2) ?_ ?_;(focus trivial))
  rintro _ _ _ ⟨rfl,rfl,rfl⟩
  conv=>whnf
  have hbb:=hb (1-1)
  refine⟨fun b hbn=> ?_⟩
  rw [hbn (by rw [List.length_map];exact hbb.1)]
  conv=>whnf
  apply ah<;>intro h
  ·conv=>whnf
   (repeat' ((first | refine And.intro ?_ ?_ | (apply ah<;>intro h<;>try simp only [bl]at h) | refine aI.i64 (by first | omega | ((try simp only [List.length_map]at *);omega)) ?_ | refine bC.mk' _ rfl (by first | omega | (simp only [ln];omega) | (simp only [ln]at *;omega)) ?_ | refine aS.aA (by assumption) ?_ | refine aS.set (by(try simp only [ln]at *);omega) ?_ | refine aS.map (by first | omega | (simp only [List.length_map]at *;omega)) ?_ | refine ay.mk (by first | decide | omega) ?_ | refine kG.mk (by kernel_rfl) rfl rfl ?_ | refine ay.mk (aG (by(try simp only [ln]at *);omega) (by kernel_rfl)) ?_)<;>conv=>whnf))
   refine aF (1+1) [] [] rfl (by decide) ⟨by decide,fun _=>hnn⟩ trivial ⟨⟨rfl, ?_⟩,rfl,trivial⟩
   rw [yx 0 (by simp only [List.length_map,cond_false,decide_eq_true_eq,decide_eq_false_iff_not]at h;rw [←en2];omega), ←en2]
  ·conv=>whnf
   (repeat' ((first | refine And.intro ?_ ?_ | (apply ah<;>intro h<;>try simp only [bl]at h) | refine aI.i64 (by first | omega | ((try simp only [List.length_map]at *);omega)) ?_ | refine bC.mk' _ rfl (by first | omega | (simp only [ln];omega) | (simp only [ln]at *;omega)) ?_ | refine aS.aA (by assumption) ?_ | refine aS.set (by(try simp only [ln]at *);omega) ?_ | refine aS.map (by first | omega | (simp only [List.length_map]at *;omega)) ?_ | refine ay.mk (by first | decide | omega) ?_ | refine kG.mk (by kernel_rfl) rfl rfl ?_ | refine ay.mk (aG (by(try simp only [ln]at *);omega) (by kernel_rfl)) ?_)<;>conv=>whnf))
   refine aF (1+1) [] [] rfl (by decide) ⟨by decide,fun _=>hnn⟩ trivial ⟨⟨rfl, ?_⟩,rfl,trivial⟩
   rw [yA 0 (by simp only [List.length_map,cond_false,decide_eq_true_eq,decide_eq_false_iff_not]at h;rw [←en2];omega)]
 ·conv=>whnf
  refine bC.mk' 2 rfl (by decide) ?_
  conv=>whnf
  (repeat' ((first | refine And.intro ?_ ?_ | (apply ah<;>intro h<;>try simp only [bl]at h) | refine aI.i64 (by first | omega | ((try simp only [List.length_map]at *);omega)) ?_ | refine bC.mk' _ rfl (by first | omega | (simp only [ln];omega) | (simp only [ln]at *;omega)) ?_ | refine aS.aA (by assumption) ?_ | refine aS.set (by(try simp only [ln]at *);omega) ?_ | refine aS.map (by first | omega | (simp only [List.length_map]at *;omega)) ?_ | refine ay.mk (by first | decide | omega) ?_ | refine kG.mk (by kernel_rfl) rfl rfl ?_ | refine ay.mk (aG (by(try simp only [ln]at *);omega) (by kernel_rfl)) ?_)<;>conv=>whnf))
  (refine aj [] (by kernel_rfl) (iD [] 3 (by unfold I64;omega) (by simp)) ?_ ?_;(focus trivial))
  rintro _ _ _ ⟨rfl,rfl,rfl⟩
  conv=>whnf
  (refine aj [1] (by kernel_rfl) (hlenA 3) ?_ ?_;(focus trivial))
  rintro _ _ _ ⟨rfl,rfl,rfl⟩
  conv=>whnf
  apply ah<;>intro h
  ·exact absurd (List.eq_nil_of_length_eq_zero (by simp at h;simp [h])) (hne (by decide))
  have hnn:=hne (by decide)
  conv=>whnf
  (refine aj [2] (by kernel_rfl) (hp3) ?_ ?_;(focus trivial))
  rintro _ _ _ ⟨rfl,rfl,rfl⟩
  conv=>whnf
  have hbb:=hb (2-1)
  refine⟨fun b hbn=> ?_⟩
  rw [hbn (by rw [List.length_map];exact hbb.1)]
  conv=>whnf
  apply ah<;>intro h
  ·conv=>whnf
   (repeat' ((first | refine And.intro ?_ ?_ | (apply ah<;>intro h<;>try simp only [bl]at h) | refine aI.i64 (by first | omega | ((try simp only [List.length_map]at *);omega)) ?_ | refine bC.mk' _ rfl (by first | omega | (simp only [ln];omega) | (simp only [ln]at *;omega)) ?_ | refine aS.aA (by assumption) ?_ | refine aS.set (by(try simp only [ln]at *);omega) ?_ | refine aS.map (by first | omega | (simp only [List.length_map]at *;omega)) ?_ | refine ay.mk (by first | decide | omega) ?_ | refine kG.mk (by kernel_rfl) rfl rfl ?_ | refine ay.mk (aG (by(try simp only [ln]at *);omega) (by kernel_rfl)) ?_)<;>conv=>whnf))
   refine aF (2+1) [] [] rfl (by decide) ⟨by decide,fun _=>hnn⟩ trivial ⟨⟨rfl, ?_⟩,rfl,trivial⟩
   rw [yx 1 (by simp only [List.length_map,cond_false,decide_eq_true_eq,decide_eq_false_iff_not]at h;rw [←en3];omega), ←en3]
  ·conv=>whnf
   (repeat' ((first | refine And.intro ?_ ?_ | (apply ah<;>intro h<;>try simp only [bl]at h) | refine aI.i64 (by first | omega | ((try simp only [List.length_map]at *);omega)) ?_ | refine bC.mk' _ rfl (by first | omega | (simp only [ln];omega) | (simp only [ln]at *;omega)) ?_ | refine aS.aA (by assumption) ?_ | refine aS.set (by(try simp only [ln]at *);omega) ?_ | refine aS.map (by first | omega | (simp only [List.length_map]at *;omega)) ?_ | refine ay.mk (by first | decide | omega) ?_ | refine kG.mk (by kernel_rfl) rfl rfl ?_ | refine ay.mk (aG (by(try simp only [ln]at *);omega) (by kernel_rfl)) ?_)<;>conv=>whnf))
   refine aF (2+1) [] [] rfl (by decide) ⟨by decide,fun _=>hnn⟩ trivial ⟨⟨rfl, ?_⟩,rfl,trivial⟩
   rw [yA 1 (by simp only [List.length_map,cond_false,decide_eq_true_eq,decide_eq_false_iff_not]at h;rw [←en3];omega)]
 ·conv=>whnf
  refine bC.mk' 3 rfl (by decide) ?_
  conv=>whnf
  (repeat' ((first | refine And.intro ?_ ?_ | (apply ah<;>intro h<;>try simp only [bl]at h) | refine aI.i64 (by first | omega | ((try simp only [List.length_map]at *);omega)) ?_ | refine bC.mk' _ rfl (by first | omega | (simp only [ln];omega) | (simp only [ln]at *;omega)) ?_ | refine aS.aA (by assumption) ?_ | refine aS.set (by(try simp only [ln]at *);omega) ?_ | refine aS.map (by first | omega | (simp only [List.length_map]at *;omega)) ?_ | refine ay.mk (by first | decide | omega) ?_ | refine kG.mk (by kernel_rfl) rfl rfl ?_ | refine ay.mk (aG (by(try simp only [ln]at *);omega) (by kernel_rfl)) ?_)<;>conv=>whnf))
  (refine aj [] (by kernel_rfl) (iD [] 4 (by unfold I64;omega) (by simp)) ?_ ?_;(focus trivial))
  rintro _ _ _ ⟨rfl,rfl,rfl⟩
  conv=>whnf
  (refine aj [1] (by kernel_rfl) (hlenA 4) ?_ ?_;(focus trivial))
  rintro _ _ _ ⟨rfl,rfl,rfl⟩
  conv=>whnf
  apply ah<;>intro h
  ·exact absurd (List.eq_nil_of_length_eq_zero (by simp at h;simp [h])) (hne (by decide))
  have hnn:=hne (by decide)
  conv=>whnf
  (refine aj [2] (by kernel_rfl) ((Ak hnn)) ?_ ?_;(focus trivial))
  rintro _ _ _ ⟨rfl,rfl,rfl⟩
  conv=>whnf
  have hbb:=hb (3-1)
  refine⟨fun b hbn=> ?_⟩
  rw [hbn (by rw [List.length_map];exact hbb.1)]
  conv=>whnf
  apply ah<;>intro h
  ·conv=>whnf
   (repeat' ((first | refine And.intro ?_ ?_ | (apply ah<;>intro h<;>try simp only [bl]at h) | refine aI.i64 (by first | omega | ((try simp only [List.length_map]at *);omega)) ?_ | refine bC.mk' _ rfl (by first | omega | (simp only [ln];omega) | (simp only [ln]at *;omega)) ?_ | refine aS.aA (by assumption) ?_ | refine aS.set (by(try simp only [ln]at *);omega) ?_ | refine aS.map (by first | omega | (simp only [List.length_map]at *;omega)) ?_ | refine ay.mk (by first | decide | omega) ?_ | refine kG.mk (by kernel_rfl) rfl rfl ?_ | refine ay.mk (aG (by(try simp only [ln]at *);omega) (by kernel_rfl)) ?_)<;>conv=>whnf))
   refine aF (3+1) [] [] rfl (by decide) ⟨by decide,fun _=>hnn⟩ trivial ⟨⟨rfl, ?_⟩,rfl,trivial⟩
   rw [yx 2 (by simp only [List.length_map,cond_false,decide_eq_true_eq,decide_eq_false_iff_not]at h;rw [←en4];omega), ←en4]
  ·conv=>whnf
   (repeat' ((first | refine And.intro ?_ ?_ | (apply ah<;>intro h<;>try simp only [bl]at h) | refine aI.i64 (by first | omega | ((try simp only [List.length_map]at *);omega)) ?_ | refine bC.mk' _ rfl (by first | omega | (simp only [ln];omega) | (simp only [ln]at *;omega)) ?_ | refine aS.aA (by assumption) ?_ | refine aS.set (by(try simp only [ln]at *);omega) ?_ | refine aS.map (by first | omega | (simp only [List.length_map]at *;omega)) ?_ | refine ay.mk (by first | decide | omega) ?_ | refine kG.mk (by kernel_rfl) rfl rfl ?_ | refine ay.mk (aG (by(try simp only [ln]at *);omega) (by kernel_rfl)) ?_)<;>conv=>whnf))
   refine aF (3+1) [] [] rfl (by decide) ⟨by decide,fun _=>hnn⟩ trivial ⟨⟨rfl, ?_⟩,rfl,trivial⟩
   rw [yA 2 (by simp only [List.length_map,cond_false,decide_eq_true_eq,decide_eq_false_iff_not]at h;rw [←en4];omega)]
 ·conv=>whnf
  refine bC.mk' 4 rfl (by decide) ?_
  conv=>whnf
  (repeat' ((first | refine And.intro ?_ ?_ | (apply ah<;>intro h<;>try simp only [bl]at h) | refine aI.i64 (by first | omega | ((try simp only [List.length_map]at *);omega)) ?_ | refine bC.mk' _ rfl (by first | omega | (simp only [ln];omega) | (simp only [ln]at *;omega)) ?_ | refine aS.aA (by assumption) ?_ | refine aS.set (by(try simp only [ln]at *);omega) ?_ | refine aS.map (by first | omega | (simp only [List.length_map]at *;omega)) ?_ | refine ay.mk (by first | decide | omega) ?_ | refine kG.mk (by kernel_rfl) rfl rfl ?_ | refine ay.mk (aG (by(try simp only [ln]at *);omega) (by kernel_rfl)) ?_)<;>conv=>whnf))
  (refine aj [] (by kernel_rfl) (iD [] 5 (by unfold I64;omega) (by simp)) ?_ ?_;(focus trivial))
  rintro _ _ _ ⟨rfl,rfl,rfl⟩
  conv=>whnf
  (refine aj [1] (by kernel_rfl) (hlenA 5) ?_ ?_;(focus trivial))
  rintro _ _ _ ⟨rfl,rfl,rfl⟩
  conv=>whnf
  apply ah<;>intro h
  ·exact absurd (List.eq_nil_of_length_eq_zero (by simp at h;simp [h])) (hne (by decide))
  have hnn:=hne (by decide)
  conv=>whnf
  (refine aj [2] (by kernel_rfl) ((nT hnn)) ?_ ?_;(focus trivial))
  rintro _ _ _ ⟨rfl,rfl,rfl⟩
  conv=>whnf
  have hbb:=hb (4-1)
  refine⟨fun b hbn=> ?_⟩
  rw [hbn (by rw [List.length_map];exact hbb.1)]
  conv=>whnf
  apply ah<;>intro h
  ·conv=>whnf
   (repeat' ((first | refine And.intro ?_ ?_ | (apply ah<;>intro h<;>try simp only [bl]at h) | refine aI.i64 (by first | omega | ((try simp only [List.length_map]at *);omega)) ?_ | refine bC.mk' _ rfl (by first | omega | (simp only [ln];omega) | (simp only [ln]at *;omega)) ?_ | refine aS.aA (by assumption) ?_ | refine aS.set (by(try simp only [ln]at *);omega) ?_ | refine aS.map (by first | omega | (simp only [List.length_map]at *;omega)) ?_ | refine ay.mk (by first | decide | omega) ?_ | refine kG.mk (by kernel_rfl) rfl rfl ?_ | refine ay.mk (aG (by(try simp only [ln]at *);omega) (by kernel_rfl)) ?_)<;>conv=>whnf))
   refine aF (4+1) [] [] rfl (by decide) ⟨by decide,fun _=>hnn⟩ trivial ⟨⟨rfl, ?_⟩,rfl,trivial⟩
   rw [yx 3 (by simp only [List.length_map,cond_false,decide_eq_true_eq,decide_eq_false_iff_not]at h;rw [←en5];omega), ←en5]
  ·conv=>whnf
   (repeat' ((first | refine And.intro ?_ ?_ | (apply ah<;>intro h<;>try simp only [bl]at h) | refine aI.i64 (by first | omega | ((try simp only [List.length_map]at *);omega)) ?_ | refine bC.mk' _ rfl (by first | omega | (simp only [ln];omega) | (simp only [ln]at *;omega)) ?_ | refine aS.aA (by assumption) ?_ | refine aS.set (by(try simp only [ln]at *);omega) ?_ | refine aS.map (by first | omega | (simp only [List.length_map]at *;omega)) ?_ | refine ay.mk (by first | decide | omega) ?_ | refine kG.mk (by kernel_rfl) rfl rfl ?_ | refine ay.mk (aG (by(try simp only [ln]at *);omega) (by kernel_rfl)) ?_)<;>conv=>whnf))
   refine aF (4+1) [] [] rfl (by decide) ⟨by decide,fun _=>hnn⟩ trivial ⟨⟨rfl, ?_⟩,rfl,trivial⟩
   rw [yA 3 (by simp only [List.length_map,cond_false,decide_eq_true_eq,decide_eq_false_iff_not]at h;rw [←en5];omega)]
 ·conv=>whnf
  rw [Xu (hne (by decide))]
  exact aX [] (by trivial)
end
section
attribute [local irreducible] best ints en bd
theorem Hf (out:Li)(v:Int):(out++ [v]).map oM=out.map oM++ [[FV.v (.int .i64 v)]]:=by rw [List.map_append];rfl
structure BX where
 i:Nat
 out:Li
end
def jS (b:By)(e:Int):dU:= .var 109 [bs b,iv e]
def RdR (x:Int)(b:By)(e:Int)(a:AV)(n:Nat)(H:ak):Prop:=a=iv x∧n=1∧H = [(0,jS b e)]
theorem Ew (b:By)(hb:b.length≤3000000):bD Tryz.prog GC 33 [bs b] 0 [] (fun a n H=>a = .ptr 0 0∧n=1∧H = [(0,jS b 0)]):=by
 have h:=aaF b [] (by simp;omega)
 rw [List.append_nil]at h
 refine au Tryz.func33 rfl mixed (by kernel_rfl) ?_
 conv=>whnf
 (refine aj [] (by kernel_rfl) (h) ?_ ?_;(focus trivial))
 rintro _ _ _ ⟨rfl,rfl,rfl⟩
 conv=>whnf
 exact aV (.ptr 0 0) 1 _ [(0, .lab 1)] [0] ⟨rfl,rfl,rfl⟩ rfl (by trivial) (by trivial)
theorem tH (b:By)(e:Int):bD Tryz.prog GC 109 [.ptr 0 0] 1 [(0,jS b e)] (RdR e b e):=by
 refine au Tryz.func109 rfl mixed (by kernel_rfl) ?_
 conv=>whnf
 exact aV (iv e) 1 [(0,jS b e)] [] [] ⟨rfl,rfl,rfl⟩ rfl (by trivial) (by trivial)
theorem YM (b:By)(e f:Int):bD Tryz.prog GC 107 [.ptr 0 0,iv f] 1 [(0,jS b e)] (fun a n H=>a = .bH []∧n=1∧H = [(0,jS b (if e=0 then f else e))]):=by
 refine au Tryz.func107 rfl mixed (by kernel_rfl) ?_
 conv=>whnf
 apply ah<;>intro h
 ·have h0:e=0:=by simpa using h
  conv=>whnf
  exact aV (.bH []) 1 [(0,jS b f)] [] [] ⟨rfl,rfl,by rw [if_pos h0]⟩ rfl (by trivial) (by trivial)
 ·have h0:e≠0:=by simpa using h
  conv=>whnf
  exact aV (.bH []) 1 [(0,jS b e)] [] [] ⟨rfl,rfl,by rw [if_neg h0]⟩ rfl (by trivial) (by trivial)
theorem yB {b:By}{e:Int}(h:yu b 0 0 = .bad e):bT b 0=(0,0,e):=by unfold bT;rw [if_pos rfl,h]
theorem tJ {b:By}{n:Int}{k:Nat}(h:yu b 0 0 = .ok n k):bT b 0=(n,k,0):=by unfold bT;rw [if_pos rfl,h]
theorem Xv {b:By}{e:Int}(h:e≠0):bT b e=(0,0,e):=by unfold bT;rw [if_neg h]
structure NX where
 i:Nat
 u:Nat
def NI (b:By)(i u:Nat):Prop:=yu b 0 0=yu (b.drop i) i u∧u<128^i∧i≤9∧i≤b.length
theorem NI.last {b:By}{i u:Nat}(h:NI b i u)(hl:b.length≤i):yu b 0 0 = .bad 16:=by
 rw [h.1,List.drop_eq_nil_of_le hl];rfl
theorem NI.cons {b:By}{i u:Nat}(h:NI b i u)(hl:i<b.length):yu b 0 0=if i=9∧1<b[i].toNat then .bad 3 else if 128≤b[i].toNat then yu (b.drop (i+1)) (i+1) (u+b[i].toNat%128*128^i)else if b[i].toNat=0∧0<i then .bad 1 else .ok (zz (u+b[i].toNat%128*128^i)) (i+1):=by
 rw [h.1,List.drop_eq_getElem_cons hl];rfl
theorem NI.lt {i u c:Nat}(hu:u<128^i):u+c%128*128^i<128^(i+1):=by
 have h1:c%128≤127:=by omega
 have h2:=Nat.mul_le_mul_right (128^i) h1
 rw [rF];omega
theorem YN (c:UInt8):IntKind.u64.wrap (bn .and .u8 (c.toNat:Int) 127)=((c.toNat%128:Nat):Int):=by
 have e:(127:Int)=((127:Nat):Int):=rfl
 have hc:=c.toNat_lt
 rw [e,Lu _ _ (by omega) (by decide),aao,lN (by omega)]
theorem L6 {u:Nat}(hu:u<18446744073709551616):bn .and .u64 (u:Int) 1=((u%2:Nat):Int):=by
 have e:(1:Int)=((1:Nat):Int):=rfl
 rw [e,GV _ 1 hu (by decide),and1]
theorem jH (b:By)(e:Int)(hb:b.length≤3000000):bD Tryz.prog GC 106 [.ptr 0 0] 1 [(0,jS b e)] (RdR (bT b e).1 (b.drop (bT b e).2.1) (bT b e).2.2):=by
 refine au Tryz.func106 rfl mixed (by kernel_rfl) ?_
 conv=>whnf
 apply ah<;>intro h
 ·have h0:e≠0:=by simpa using h
  conv=>whnf
  exact aV (iv 0) 1 [(0,jS b e)] [] [] (by rw [Xv h0];exact⟨rfl,rfl,rfl⟩) rfl (by trivial) (by trivial)
 have h0:e=0:=by simpa using h
 subst h0
 conv=>whnf
 refine rE Va [3,4] (fun x:NX=> [(3,uv x.u),(4,iv x.i)]) (fun x=>NI b x.i x.u) (fun x=>b.length-x.i) ⟨0,0⟩ (by kernel_rfl) (fun _=>rfl) (by kernel_rfl) ⟨rfl,by decide,by decide,Nat.zero_le _⟩ (by trivial) (by trivial) ?_
 rintro⟨i,u⟩ hN
 change NI b i u at hN
 have hi:=hN.2.2.1
 have hu:=hN.2.1
 conv=>whnf
 refine ah (fun h1=> ?_) (fun h1=> ?_)
 ·have hil:b.length≤i:=by simp at h1;omega
  conv=>whnf
  exact aV (iv 0) 1 [(0,jS b 16)] [] [] (by rw [yB (hN.last hil)];exact⟨rfl,rfl,rfl⟩) rfl (by trivial) (by trivial)
 have hil:i<b.length:=by simp at h1;omega
 have hc:=hN.cons hil
 conv=>whnf
 refine bC.mk' i rfl (fQ hil) ?_
 conv=>whnf
 refine aS.map hil ?_
 conv=>whnf
 generalize b[i]=c at *
 have hcl:=c.toNat_lt
 refine ah (fun h2=> ?_) (fun h2=> ?_)
 ·have h9:i=9:=by simp at h2;omega
  conv=>whnf
  refine ah (fun h3=> ?_) (fun h3=> ?_)
  ·have hc1:1<c.toNat:=by simp at h3;omega
   conv=>whnf
   exact aV (iv 0) 1 [(0,jS b 3)] [] [] (by rw [yB (by rw [hc,if_pos ⟨h9,hc1⟩])];exact⟨rfl,rfl,rfl⟩) rfl (by trivial) (by trivial)
  ·have hc1:c.toNat≤1:=by simp at h3;omega
   have Xw : ¬(i=9∧1<c.toNat):=by omega
   have hx9:i=9→c.toNat%128≤1:=by omega
   have hx:=QL (x:=c.toNat%128) hi (Nat.mod_lt _ (by decide)) hx9
   have hU:u+c.toNat%128*128^i<18446744073709551616:=by
    have h1:=NI.lt (c:=c.toNat) hu
    rcases Nat.lt_or_ge i 9 with h2 | h2
    ·have h3:128^(i+1)≤128^9:=Nat.pow_le_pow_right (by decide) (by omega)
     have h4:(128:Nat)^9<18446744073709551616:=by decide
     omega
    ·have h3:i=9:=by omega
     have h4:=hx9 h3
     subst h3
     have h5:(128:Nat)^9=9223372036854775808:=by decide
     have h6:=Nat.mul_le_mul_right (128^9) h4
     rw [h5]at hu h6 ⊢
     omega
   conv=>whnf
   refine aI.to (YN c) ?_
   conv=>whnf
   refine aI.i64 (x:=7*(i:Int)) (by omega) ?_
   conv=>whnf
   refine ay.mk (by show (0:Int)≤7*(i:Int);omega) ?_
   conv=>whnf
   refine aI.to hx.1 ?_
   conv=>whnf
   rw [YI hu hi hx.2]
   conv=>whnf
   refine ah (fun h4=> ?_) (fun h4=> ?_)
   ·have h128:128≤c.toNat:=by simp at h4;omega
    conv=>whnf
    refine aI.i64 (x:=(i:Int)+1) (by omega) ?_
    conv=>whnf
    exact aF ⟨i+1,u+c.toNat%128*128^i⟩ [] [] rfl (by show b.length -(i+1)<b.length-i;omega) ⟨by rw [hc,if_neg Xw,if_pos h128],NI.lt hu,(show i+1≤9 by omega),hil⟩ (by trivial) ⟨rfl,rfl,trivial⟩
   ·have h128:c.toNat<128:=by simp at h4;omega
    conv=>whnf
    refine ah (fun h5=> ?_) (fun h5=> ?_)
    ·have hc0:c.toNat=0:=by simp at h5;omega
     conv=>whnf
     refine ah (fun h6=> ?_) (fun h6=> ?_)
     ·have hi0:0<i:=by simp at h6;omega
      conv=>whnf
      exact aV (iv 0) 1 [(0,jS b 1)] [] [] (by rw [yB (by rw [hc,if_neg Xw,if_neg (by omega),if_pos ⟨hc0,hi0⟩])];exact⟨rfl,rfl,rfl⟩) rfl (by trivial) (by trivial)
     have hi0:i=0:=by simp at h6;omega
     conv=>whnf
     have hok:yu b 0 0 = .ok (zz (u+c.toNat%128*128^i)) (i+1):=by rw [hc,if_neg Xw,if_neg (by omega),if_neg (by omega)]
     refine aI.i64 (x:=(i:Int)+1) (by omega) ?_
     conv=>whnf
     refine lT.mk' (i+1) b.length rfl (by rw [List.length_map]) (by omega) (by rw [List.length_map];exact Nat.le_refl _) ?_
     conv=>whnf
     refine ay.mk (by decide) ?_
     conv=>whnf
     generalize u+c.toNat%128*128^i=U at *
     refine aI.to (y:=((U/2:Nat):Int)) (by rw [CZ];exact IntWalk.i64_in _ (by omega)) ?_
     conv=>whnf
     refine aI.to (y:=((U%2:Nat):Int)) (by rw [L6 hU];exact IntWalk.i64_in _ (by omega)) ?_
     conv=>whnf
     refine aI.i64 (by omega) ?_
     conv=>whnf
     refine aV (iv (zz U)) 1 [(0,jS (b.drop (i+1)) 0)] [] [] (by rw [tJ hok];exact⟨rfl,rfl,rfl⟩) rfl ⟨⟨rfl,⟨rfl,List.map_drop.symm⟩,rfl,trivial⟩,trivial⟩ ?_
     exact Eb (yw hU)
    ·have hc0:c.toNat≠0:=by simp at h5;omega
     conv=>whnf
     have hok:yu b 0 0 = .ok (zz (u+c.toNat%128*128^i)) (i+1):=by rw [hc,if_neg Xw,if_neg (by omega),if_neg (by omega)]
     refine aI.i64 (x:=(i:Int)+1) (by omega) ?_
     conv=>whnf
     refine lT.mk' (i+1) b.length rfl (by rw [List.length_map]) (by omega) (by rw [List.length_map];exact Nat.le_refl _) ?_
     conv=>whnf
     refine ay.mk (by decide) ?_
     conv=>whnf
     generalize u+c.toNat%128*128^i=U at *
     refine aI.to (y:=((U/2:Nat):Int)) (by rw [CZ];exact IntWalk.i64_in _ (by omega)) ?_
     conv=>whnf
     refine aI.to (y:=((U%2:Nat):Int)) (by rw [L6 hU];exact IntWalk.i64_in _ (by omega)) ?_
     conv=>whnf
     refine aI.i64 (by omega) ?_
     conv=>whnf
     refine aV (iv (zz U)) 1 [(0,jS (b.drop (i+1)) 0)] [] [] (by rw [tJ hok];exact⟨rfl,rfl,rfl⟩) rfl ⟨⟨rfl,⟨rfl,List.map_drop.symm⟩,rfl,trivial⟩,trivial⟩ ?_
     exact Eb (yw hU)
 ·have h9:i≠9:=by simp at h2;omega
  have Xw : ¬(i=9∧1<c.toNat):=by omega
  have hx9:i=9→c.toNat%128≤1:=by omega
  ·skip
   have hx:=QL (x:=c.toNat%128) hi (Nat.mod_lt _ (by decide)) hx9
   have hU:u+c.toNat%128*128^i<18446744073709551616:=by
    have h1:=NI.lt (c:=c.toNat) hu
    rcases Nat.lt_or_ge i 9 with h2 | h2
    ·have h3:128^(i+1)≤128^9:=Nat.pow_le_pow_right (by decide) (by omega)
     have h4:(128:Nat)^9<18446744073709551616:=by decide
     omega
    ·have h3:i=9:=by omega
     have h4:=hx9 h3
     subst h3
     have h5:(128:Nat)^9=9223372036854775808:=by decide
     have h6:=Nat.mul_le_mul_right (128^9) h4
     rw [h5]at hu h6 ⊢
     omega
   conv=>whnf
   refine aI.to (YN c) ?_
   conv=>whnf
   refine aI.i64 (x:=7*(i:Int)) (by omega) ?_
   conv=>whnf
   refine ay.mk (by show (0:Int)≤7*(i:Int);omega) ?_
   conv=>whnf
   refine aI.to hx.1 ?_
   conv=>whnf
   rw [YI hu hi hx.2]
   conv=>whnf
   refine ah (fun h4=> ?_) (fun h4=> ?_)
   ·have h128:128≤c.toNat:=by simp at h4;omega
    conv=>whnf
    refine aI.i64 (x:=(i:Int)+1) (by omega) ?_
    conv=>whnf
    exact aF ⟨i+1,u+c.toNat%128*128^i⟩ [] [] rfl (by show b.length -(i+1)<b.length-i;omega) ⟨by rw [hc,if_neg Xw,if_pos h128],NI.lt hu,(show i+1≤9 by omega),hil⟩ (by trivial) ⟨rfl,rfl,trivial⟩
   ·have h128:c.toNat<128:=by simp at h4;omega
    conv=>whnf
    refine ah (fun h5=> ?_) (fun h5=> ?_)
    ·have hc0:c.toNat=0:=by simp at h5;omega
     conv=>whnf
     refine ah (fun h6=> ?_) (fun h6=> ?_)
     ·have hi0:0<i:=by simp at h6;omega
      conv=>whnf
      exact aV (iv 0) 1 [(0,jS b 1)] [] [] (by rw [yB (by rw [hc,if_neg Xw,if_neg (by omega),if_pos ⟨hc0,hi0⟩])];exact⟨rfl,rfl,rfl⟩) rfl (by trivial) (by trivial)
     have hi0:i=0:=by simp at h6;omega
     conv=>whnf
     have hok:yu b 0 0 = .ok (zz (u+c.toNat%128*128^i)) (i+1):=by rw [hc,if_neg Xw,if_neg (by omega),if_neg (by omega)]
     refine aI.i64 (x:=(i:Int)+1) (by omega) ?_
     conv=>whnf
     refine lT.mk' (i+1) b.length rfl (by rw [List.length_map]) (by omega) (by rw [List.length_map];exact Nat.le_refl _) ?_
     conv=>whnf
     refine ay.mk (by decide) ?_
     conv=>whnf
     generalize u+c.toNat%128*128^i=U at *
     refine aI.to (y:=((U/2:Nat):Int)) (by rw [CZ];exact IntWalk.i64_in _ (by omega)) ?_
     conv=>whnf
     refine aI.to (y:=((U%2:Nat):Int)) (by rw [L6 hU];exact IntWalk.i64_in _ (by omega)) ?_
     conv=>whnf
     refine aI.i64 (by omega) ?_
     conv=>whnf
     refine aV (iv (zz U)) 1 [(0,jS (b.drop (i+1)) 0)] [] [] (by rw [tJ hok];exact⟨rfl,rfl,rfl⟩) rfl ⟨⟨rfl,⟨rfl,List.map_drop.symm⟩,rfl,trivial⟩,trivial⟩ ?_
     exact Eb (yw hU)
    ·have hc0:c.toNat≠0:=by simp at h5;omega
     conv=>whnf
     have hok:yu b 0 0 = .ok (zz (u+c.toNat%128*128^i)) (i+1):=by rw [hc,if_neg Xw,if_neg (by omega),if_neg (by omega)]
     refine aI.i64 (x:=(i:Int)+1) (by omega) ?_
     conv=>whnf
     refine lT.mk' (i+1) b.length rfl (by rw [List.length_map]) (by omega) (by rw [List.length_map];exact Nat.le_refl _) ?_
     conv=>whnf
     refine ay.mk (by decide) ?_
     conv=>whnf
     generalize u+c.toNat%128*128^i=U at *
     refine aI.to (y:=((U/2:Nat):Int)) (by rw [CZ];exact IntWalk.i64_in _ (by omega)) ?_
     conv=>whnf
     refine aI.to (y:=((U%2:Nat):Int)) (by rw [L6 hU];exact IntWalk.i64_in _ (by omega)) ?_
     conv=>whnf
     refine aI.i64 (by omega) ?_
     conv=>whnf
     refine aV (iv (zz U)) 1 [(0,jS (b.drop (i+1)) 0)] [] [] (by rw [tJ hok];exact⟨rfl,rfl,rfl⟩) rfl ⟨⟨rfl,⟨rfl,List.map_drop.symm⟩,rfl,trivial⟩,trivial⟩ ?_
     exact Eb (yw hU)
theorem kS (b:By)(e most em:Int):iT b e most em=(if(if(bT b e).2.2=0 then(if(bT b e).1<0 then 3 else if most<(bT b e).1 then em else 0)else(bT b e).2.2)=0 then(bT b e).1 else 0,(bT b e).2.1,if(bT b e).2.2=0 then(if(bT b e).1<0 then 3 else if most<(bT b e).1 then em else 0)else(bT b e).2.2):=rfl
theorem Ey (b:By)(e most em:Int)(hb:b.length≤3000000)(hem:em≠0)(YO:0≤most):bD Tryz.prog GC 73 [.ptr 0 0,iv most,iv em] 1 [(0,jS b e)] (RdR (iT b e most em).1 (b.drop (iT b e most em).2.1) (iT b e most em).2.2):=by
 have hN:=jH b e hb
 have hz:=(jv b e).2.2.2
 rw [kS]
 generalize bT b e=t at *
 obtain⟨x,k,e'⟩:=t
 simp only at hN hz ⊢
 generalize b.drop k=b' at *
 by_cases he:e'=0
 ·subst he
  clear hz
  simp only [if_true]
  refine au Tryz.func73 rfl mixed (by kernel_rfl) ?_
  conv=>whnf
  refine aH [0] [] (by kernel_rfl) hN rfl (by trivial) (by trivial) ?_
  rintro _ _ _ ⟨rfl,rfl,rfl⟩
  refine⟨rfl, ?_⟩
  conv=>whnf
  apply ah<;>intro h
  ·have hx:x<0:=by simpa using h
   conv=>whnf
   refine aH [0] [] (by kernel_rfl) (YM b' 0 3) rfl (by trivial) (by trivial) ?_
   rintro _ _ _ ⟨rfl,rfl,rfl⟩
   refine⟨rfl, ?_⟩
   conv=>whnf
   exact aV (iv 0) 1 [(0,jS b' 3)] [] [] (by rw [if_pos hx];exact⟨rfl,rfl,rfl⟩) rfl (by trivial) (by trivial)
  have hx : ¬x<0:=by simpa using h
  conv=>whnf
  apply ah<;>intro h
  ·have hm:most<x:=by simpa using h
   conv=>whnf
   refine aH [0] [] (by kernel_rfl) (YM b' 0 em) rfl (by trivial) (by trivial) ?_
   rintro _ _ _ ⟨rfl,rfl,rfl⟩
   refine⟨rfl, ?_⟩
   rw [if_pos rfl]
   conv=>whnf
   apply ah<;>intro h
   rotate_left 1
   ·exact absurd (by simpa using h) hem
   conv=>whnf
   exact aV (iv 0) 1 [(0,jS b' em)] [] [] (by rw [if_neg hx,if_pos hm,if_neg hem];exact⟨rfl,rfl,rfl⟩) rfl (by trivial) (by trivial)
  have hm : ¬most<x:=by simpa using h
  conv=>whnf
  exact aV (iv x) 1 [(0,jS b' 0)] [] [] (by rw [if_neg hx,if_neg hm,if_pos rfl];exact⟨rfl,rfl,rfl⟩) rfl (by trivial) (by trivial)
 ·obtain⟨rfl,rfl⟩:=hz he
  simp only [he,if_false]
  refine au Tryz.func73 rfl mixed (by kernel_rfl) ?_
  conv=>whnf
  refine aH [0] [] (by kernel_rfl) hN rfl (by trivial) (by trivial) ?_
  rintro _ _ _ ⟨rfl,rfl,rfl⟩
  refine⟨rfl, ?_⟩
  conv=>whnf
  apply ah<;>intro h
  ·exfalso;simp at h;omega
  conv=>whnf
  apply ah<;>intro h
  rotate_left 1
  ·exfalso;simp at h;exact he h
  conv=>whnf
  exact aV (iv 0) 1 [(0,jS b' e')] [] [] ⟨rfl,rfl,rfl⟩ rfl (by trivial) (by trivial)
theorem wF (b:By)(e most:Int)(hb:b.length≤3000000)(YO:0≤most):bD Tryz.prog GC 108 [.ptr 0 0,iv most] 1 [(0,jS b e)] (RdR (iT b e most 5).1 (b.drop (iT b e most 5).2.1) (iT b e most 5).2.2):=by
 have hN:=Ey b e most 5 hb (by decide) YO
 generalize iT b e most 5=t at *
 obtain⟨x,k,e'⟩:=t
 simp only at hN ⊢
 generalize b.drop k=b' at *
 refine au Tryz.func108 rfl mixed (by kernel_rfl) ?_
 conv=>whnf
 refine aH [0] [] (by kernel_rfl) hN rfl (by trivial) (by trivial) ?_
 rintro _ _ _ ⟨rfl,rfl,rfl⟩
 refine⟨rfl, ?_⟩
 conv=>whnf
 exact aV (iv x) 1 [(0,jS b' e')] [] [] ⟨rfl,rfl,rfl⟩ rfl (by trivial) (by trivial)
end Go.Proofs.YtocckceefcmeaaaGreatDoor.Cl
