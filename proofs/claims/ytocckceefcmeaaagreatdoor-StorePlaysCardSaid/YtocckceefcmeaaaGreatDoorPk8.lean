/- Joined parts of the proof. Library contracts at this program (written by the kit's command lay-plain) -/
import Derived.Shelf.Sort.Plain
import Derived.Shelf.Bits.Mul64
import Derived.Ground.Names2Prog
import Derived.Shelf.Slices.CompactI
import Derived.Shelf.Slices.CompactS
import Derived.Test.YtocckceefcmeaaaGreatDoorProg
import Derived.Test.YtocckceefcmeaaaGreatDoorPk7
import Derived.Sort.Walk0
set_option linter.unusedVariables false
set_option linter.unusedSimpArgs false
set_option maxRecDepth 100000
set_option maxHeartbeats 16000000
namespace Go.Proofs
open Go.Shelf
def Tryz.lays189_ren:Go.Shelf.Ren:=⟨fun|189=>203|125=>173|257=>216|128=>198|129=>199|294=>222|295=>223|296=>224|297=>225|298=>226|299=>227|216=>217|300=>228|301=>229|328=>231|329=>211|330=>212|331=>232|332=>233|215=>230|343=>234|n=>n,fun|28=>24|3=>3|46=>35|0=>0|51=>215|53=>74|4=>4|183=>220|182=>219|131=>148|5=>5|9=>9|218=>240|222=>166|228=>251|229=>135|n=>n,fun|n=>n⟩
theorem Tryz.lays189:Go.Proofs.Lays.n189 Tryz.prog Tryz.lays189_ren:= {
 mixed:=by kernel_rfl
 f125:=func173.trans (congrArg some (by kernel_rfl))
 f128:=func198.trans (congrArg some (by kernel_rfl))
 f129:=func199.trans (congrArg some (by kernel_rfl))
 f189:=func203.trans (congrArg some (by kernel_rfl))
 f215:=func230.trans (congrArg some (by kernel_rfl))
 f216:=func217.trans (congrArg some (by kernel_rfl))
 f257:=func216.trans (congrArg some (by kernel_rfl))
 f294:=func222.trans (congrArg some (by kernel_rfl))
 f295:=func223.trans (congrArg some (by kernel_rfl))
 f296:=func224.trans (congrArg some (by kernel_rfl))
 f297:=func225.trans (congrArg some (by kernel_rfl))
 f298:=func226.trans (congrArg some (by kernel_rfl))
 f299:=func227.trans (congrArg some (by kernel_rfl))
 f300:=func228.trans (congrArg some (by kernel_rfl))
 f301:=func229.trans (congrArg some (by kernel_rfl))
 f328:=func231.trans (congrArg some (by kernel_rfl))
 f329:=func211.trans (congrArg some (by kernel_rfl))
 f330:=func212.trans (congrArg some (by kernel_rfl))
 f331:=func232.trans (congrArg some (by kernel_rfl))
 f332:=func233.trans (congrArg some (by kernel_rfl))
 f343:=func234.trans (congrArg some (by kernel_rfl))
 t0:=underlying0
 a0:=Tryz.isAgg0
 z0:=Tryz.sizeOf0
 v0:=Tryz.zeroValue0
 t3:=underlying3
 a3:=Tryz.isAgg3
 z3:=Tryz.sizeOf3
 v3:=Tryz.zeroValue3
 t4:=underlying4
 a4:=Tryz.isAgg4
 z4:=Tryz.sizeOf4
 v4:=Tryz.zeroValue4
 t5:=underlying5
 a5:=Tryz.isAgg5
 z5:=Tryz.sizeOf5
 v5:=Tryz.zeroValue5
 t9:=underlying9
 a9:=Tryz.isAgg9
 z9:=Tryz.sizeOf9
 v9:=Tryz.zeroValue9
 t28:=underlying24
 a28:=Tryz.isAgg24
 z28:=Tryz.sizeOf24
 v28:=Tryz.zeroValue24
 t46:=underlying35
 a46:=Tryz.isAgg35
 z46:=Tryz.sizeOf35
 v46:=Tryz.zeroValue35
 t51:=underlying215
 a51:=Tryz.isAgg215
 z51:=Tryz.sizeOf215
 v51:=Tryz.zeroValue215
 t53:=underlying74
 a53:=Tryz.isAgg74
 z53:=Tryz.sizeOf74
 v53:=Tryz.zeroValue74
 t131:=underlying148
 a131:=Tryz.isAgg148
 z131:=Tryz.sizeOf148
 v131:=Tryz.zeroValue148
 t182:=underlying219
 a182:=Tryz.isAgg219
 z182:=Tryz.sizeOf219
 v182:=Tryz.zeroValue219
 t183:=underlying220
 a183:=Tryz.isAgg220
 z183:=Tryz.sizeOf220
 v183:=Tryz.zeroValue220
 t218:=underlying240
 a218:=Tryz.isAgg240
 z218:=Tryz.sizeOf240
 v218:=Tryz.zeroValue240
 t222:=underlying166
 a222:=Tryz.isAgg166
 z222:=Tryz.sizeOf166
 v222:=Tryz.zeroValue166
 t228:=underlying251
 a228:=Tryz.isAgg251
 z228:=Tryz.sizeOf251
 v228:=Tryz.zeroValue251
 t229:=underlying135
 a229:=Tryz.isAgg135
 z229:=Tryz.sizeOf135
 v229:=Tryz.zeroValue135}
open Go.Sort Go.RowKit in
theorem Tryz.slices_Sort_int (blk off cap:Nat)(zs:List Int)(w:World)(hH:Holds (Value.int .i64) w blk off zs.toArray)(hblk:blk<w.heap.size)(hsz:zs.length<4611686018427387904) :
  Calls Tryz.prog 203 #[.slice (some ⟨blk,off,none⟩) zs.length cap] w fun e w'=>
   e = .returned (.tuple #[])∧∃n os,w'=grow (putRow (Value.int .i64) (Sort.ahead w n) blk off (zs.mergeSort fun x y=>decide (x<=y)).toArray) os:=Any.slices_Sort_int Tryz.lays189 blk off cap zs w hH hblk hsz
def Tryz.lays190_ren:Go.Shelf.Ren:=⟨fun|190=>154|125=>173|258=>172|128=>198|129=>199|302=>190|303=>191|304=>192|305=>193|306=>194|307=>195|308=>174|309=>196|310=>197|333=>210|329=>211|330=>212|334=>213|335=>214|336=>200|344=>219|n=>n,fun|31=>133|9=>9|3=>3|46=>35|0=>0|51=>215|53=>74|4=>4|183=>220|182=>219|131=>148|5=>5|218=>240|222=>166|228=>251|229=>135|n=>n,fun|n=>n⟩
theorem Tryz.lays190:Go.Proofs.Lays.n190 Tryz.prog Tryz.lays190_ren:= {
 mixed:=by kernel_rfl
 f125:=func173.trans (congrArg some (by kernel_rfl))
 f128:=func198.trans (congrArg some (by kernel_rfl))
 f129:=func199.trans (congrArg some (by kernel_rfl))
 f190:=func154.trans (congrArg some (by kernel_rfl))
 f258:=func172.trans (congrArg some (by kernel_rfl))
 f302:=func190.trans (congrArg some (by kernel_rfl))
 f303:=func191.trans (congrArg some (by kernel_rfl))
 f304:=func192.trans (congrArg some (by kernel_rfl))
 f305:=func193.trans (congrArg some (by kernel_rfl))
 f306:=func194.trans (congrArg some (by kernel_rfl))
 f307:=func195.trans (congrArg some (by kernel_rfl))
 f308:=func174.trans (congrArg some (by kernel_rfl))
 f309:=func196.trans (congrArg some (by kernel_rfl))
 f310:=func197.trans (congrArg some (by kernel_rfl))
 f329:=func211.trans (congrArg some (by kernel_rfl))
 f330:=func212.trans (congrArg some (by kernel_rfl))
 f333:=func210.trans (congrArg some (by kernel_rfl))
 f334:=func213.trans (congrArg some (by kernel_rfl))
 f335:=func214.trans (congrArg some (by kernel_rfl))
 f336:=func200.trans (congrArg some (by kernel_rfl))
 f344:=func219.trans (congrArg some (by kernel_rfl))
 t0:=underlying0
 a0:=Tryz.isAgg0
 z0:=Tryz.sizeOf0
 v0:=Tryz.zeroValue0
 t3:=underlying3
 a3:=Tryz.isAgg3
 z3:=Tryz.sizeOf3
 v3:=Tryz.zeroValue3
 t4:=underlying4
 a4:=Tryz.isAgg4
 z4:=Tryz.sizeOf4
 v4:=Tryz.zeroValue4
 t5:=underlying5
 a5:=Tryz.isAgg5
 z5:=Tryz.sizeOf5
 v5:=Tryz.zeroValue5
 t9:=underlying9
 a9:=Tryz.isAgg9
 z9:=Tryz.sizeOf9
 v9:=Tryz.zeroValue9
 t31:=underlying133
 a31:=Tryz.isAgg133
 z31:=Tryz.sizeOf133
 v31:=Tryz.zeroValue133
 t46:=underlying35
 a46:=Tryz.isAgg35
 z46:=Tryz.sizeOf35
 v46:=Tryz.zeroValue35
 t51:=underlying215
 a51:=Tryz.isAgg215
 z51:=Tryz.sizeOf215
 v51:=Tryz.zeroValue215
 t53:=underlying74
 a53:=Tryz.isAgg74
 z53:=Tryz.sizeOf74
 v53:=Tryz.zeroValue74
 t131:=underlying148
 a131:=Tryz.isAgg148
 z131:=Tryz.sizeOf148
 v131:=Tryz.zeroValue148
 t182:=underlying219
 a182:=Tryz.isAgg219
 z182:=Tryz.sizeOf219
 v182:=Tryz.zeroValue219
 t183:=underlying220
 a183:=Tryz.isAgg220
 z183:=Tryz.sizeOf220
 v183:=Tryz.zeroValue220
 t218:=underlying240
 a218:=Tryz.isAgg240
 z218:=Tryz.sizeOf240
 v218:=Tryz.zeroValue240
 t222:=underlying166
 a222:=Tryz.isAgg166
 z222:=Tryz.sizeOf166
 v222:=Tryz.zeroValue166
 t228:=underlying251
 a228:=Tryz.isAgg251
 z228:=Tryz.sizeOf251
 v228:=Tryz.zeroValue251
 t229:=underlying135
 a229:=Tryz.isAgg135
 z229:=Tryz.sizeOf135
 v229:=Tryz.zeroValue135}
open Go.Sort Go.RowKit in
theorem Tryz.slices_Sort_string (blk off cap:Nat)(ss:List (List UInt8))(w:World)(hH:Holds encStr w blk off ss.toArray)(hblk:blk<w.heap.size)(hsz:ss.length<4611686018427387904) :
  Calls Tryz.prog 154 #[.slice (some ⟨blk,off,none⟩) ss.length cap] w fun e w'=>
   e = .returned (.tuple #[])∧∃n os,w'=grow (putRow encStr (Sort.ahead w n) blk off (ss.mergeSort fun x y=>decide (x<=y)).toArray) os:=Any.slices_Sort_string Tryz.lays190 blk off cap ss w hH hblk hsz
def Tryz.lays212_ren:Go.Shelf.Ren:=⟨fun|212=>215|263=>220|264=>221|n=>n,fun|46=>35|51=>215|146=>253|53=>74|148=>255|n=>n,fun|n=>n⟩
theorem Tryz.lays212:Go.Proofs.Lays.n212 Tryz.prog Tryz.lays212_ren:= {
 mixed:=by kernel_rfl
 f212:=func215.trans (congrArg some (by kernel_rfl))
 f263:=func220.trans (congrArg some (by kernel_rfl))
 f264:=func221.trans (congrArg some (by kernel_rfl))
 t46:=underlying35
 a46:=Tryz.isAgg35
 z46:=Tryz.sizeOf35
 v46:=Tryz.zeroValue35
 t51:=underlying215
 a51:=Tryz.isAgg215
 z51:=Tryz.sizeOf215
 v51:=Tryz.zeroValue215
 t53:=underlying74
 a53:=Tryz.isAgg74
 z53:=Tryz.sizeOf74
 v53:=Tryz.zeroValue74
 t146:=underlying253
 a146:=Tryz.isAgg253
 z146:=Tryz.sizeOf253
 v146:=Tryz.zeroValue253
 t148:=underlying255
 a148:=Tryz.isAgg255
 z148:=Tryz.sizeOf255
 v148:=Tryz.zeroValue255}
open Go.RowKit Go.Lib in
theorem Tryz.bits_Mul (x y:Nat)(hx:x<18446744073709551616)(hy:y<18446744073709551616)(w:World) :
  Calls Tryz.prog 215 #[.int .u64 x, .int .u64 y] w fun e w'=>e = .returned (.tuple #[.int .u64 ((x*y/18446744073709551616:Nat):Int), .int .u64 ((x*y%18446744073709551616:Nat):Int)])∧w'=w:=Any.bits_Mul Tryz.lays212 x y hx hy w
def Tryz.laysNm220_ren:Go.Shelf.Ren:=⟨fun|20=>204|n=>n,fun|22=>24|3=>3|4=>4|0=>0|n=>n,fun|n=>n⟩
theorem Tryz.laysNm220:Go.Proofs.Lays2.n20 Tryz.prog Tryz.laysNm220_ren:= {
 mixed:=by kernel_rfl
 f20:=func204.trans (congrArg some (by kernel_rfl))
 t0:=underlying0
 a0:=Tryz.isAgg0
 z0:=Tryz.sizeOf0
 v0:=Tryz.zeroValue0
 t3:=underlying3
 a3:=Tryz.isAgg3
 z3:=Tryz.sizeOf3
 v3:=Tryz.zeroValue3
 t4:=underlying4
 a4:=Tryz.isAgg4
 z4:=Tryz.sizeOf4
 v4:=Tryz.zeroValue4
 t22:=underlying24
 a22:=Tryz.isAgg24
 z22:=Tryz.sizeOf24
 v22:=Tryz.zeroValue24
 i3:=by kernel_rfl}
open Go.RowKit Go.Lib Go.Sort in
theorem Tryz.slices_Compact_int (blk off cap:Nat)(zs:List Int)(w:World)(hH:Holds (Value.int .i64) w blk off zs.toArray)(hsz:zs.length<=9223372036854775807)(hcap:zs.length<=cap) :
  Calls Tryz.prog 204 #[.slice (some ⟨blk,off,none⟩) zs.length cap] w fun e w'=>e = .returned (.slice (some ⟨blk,off,none⟩) (Lib.compact zs).length cap)∧∃q,w'=putRow (Value.int .i64) (Sort.ahead w q) blk off (Lib.compact zs++List.replicate (zs.length -(Lib.compact zs).length) 0).toArray:=Any.slices_Compact_int Tryz.laysNm220 blk off cap zs w hH hsz hcap
def Tryz.lays194_ren:Go.Shelf.Ren:=⟨fun|194=>155|n=>n,fun|31=>133|9=>9|3=>3|4=>4|0=>0|n=>n,fun|n=>n⟩
theorem Tryz.lays194:Go.Proofs.Lays.n194 Tryz.prog Tryz.lays194_ren:= {
 mixed:=by kernel_rfl
 f194:=func155.trans (congrArg some (by kernel_rfl))
 t0:=underlying0
 a0:=Tryz.isAgg0
 z0:=Tryz.sizeOf0
 v0:=Tryz.zeroValue0
 t3:=underlying3
 a3:=Tryz.isAgg3
 z3:=Tryz.sizeOf3
 v3:=Tryz.zeroValue3
 t4:=underlying4
 a4:=Tryz.isAgg4
 z4:=Tryz.sizeOf4
 v4:=Tryz.zeroValue4
 t9:=underlying9
 a9:=Tryz.isAgg9
 z9:=Tryz.sizeOf9
 v9:=Tryz.zeroValue9
 t31:=underlying133
 a31:=Tryz.isAgg133
 z31:=Tryz.sizeOf133
 v31:=Tryz.zeroValue133}
open Go.RowKit Go.Lib Go.Sort in
theorem Tryz.slices_Compact_string (blk off cap:Nat)(zs:List (List UInt8))(w:World)(hH:Holds encStr w blk off zs.toArray)(hsz:zs.length<=9223372036854775807)(hcap:zs.length<=cap) :
  Calls Tryz.prog 155 #[.slice (some ⟨blk,off,none⟩) zs.length cap] w fun e w'=>e = .returned (.slice (some ⟨blk,off,none⟩) (Lib.compact zs).length cap)∧∃q,w'=putRow encStr (Sort.ahead w q) blk off (Lib.compact zs++List.replicate (zs.length -(Lib.compact zs).length) []).toArray:=Any.slices_Compact_string Tryz.lays194 blk off cap zs w hH hsz hcap
end Go.Proofs
namespace Go.Proofs.YtocckceefcmeaaaGreatDoor.Cl
open RowKit Vc Ax Go.Proofs.Tryz
attribute [local irreducible] loadVar storeVar Instr.indexAt Instr.index Instr.sliceAt Instr.makeSlice Instr.lookup Instr.mapUpdate Instr.range Instr.next Instr.entry Instr.makeMap Builtin.append_ Builtin.copy_ Builtin.len_ Builtin.min_ Builtin.max_ Builtin.cap_ Builtin.delete_ Builtin.clear_ convert binOp eqGuard Op.unary Calls
theorem Gz {lo x:Int}(h1:I64 lo)(h2:I64 x)(h:lo<=x):IntKind.u64.wrap (IntKind.u64.wrap x-IntKind.u64.wrap lo)=((dif lo x:Nat):Int)∧dif lo x<18446744073709551616:=by
 have e:IntKind.u64.bits=64:=rfl
 have s:IntKind.u64.signed=false:=rfl
 unfold I64 at h1 h2
 unfold dif
 simp only [IntKind.wrap,e,s,dY,bf,if_false]
 omega
theorem adQ : ∀a,a<256->∀s,s<8->a.testBit s=false->a ||| 2^s=a+2^s:=by decide
theorem Zh {d k:Nat}(hd:d<18446744073709551616)(hk:k<=64):nD .and .u64 (Int.fdiv (d:Int) (2^min (Int.toNat (k:Int)) IntKind.u64.bits)) 1=(((if d.testBit k=true then 1 else 0):Nat):Int):=by
 have e:(1:Int)=((1:Nat):Int):=rfl
 have h1:d/2^k<=d:=ku _ _
 rw [adJ d k hk,e,I4 _ 1 (by omega) (by decide),and1,Tf]
theorem w8 {n:Nat}(h:n<256):IntKind.u8.wrap (n:Int)=n:=yH h
theorem pw8 {c s:Nat}(hc:c<=1)(hs:s<8):c*2^s<256:=by
 have:2^s<=2^7:=dL (by decide) (by omega)
 have h2:=jd hc this
 have:(1:Nat)*2^7=128:=by decide
 omega
theorem V6 {c s:Nat}(hc:c<=1)(hs:s<8):IntKind.u8.wrap ((c:Int)*2^min (Int.toNat (s:Int)) IntKind.u8.bits)=((c*2^s:Nat):Int):=by
 have e:IntKind.u8.bits=8:=rfl
 rw [e,dh,dW (by omega)]
 have e2:(c:Int)*2^s=((c*2^s:Nat):Int):=by simp
 rw [e2,w8 (pw8 hc hs)]
theorem adR (bit:Nat->Bool)(p:Nat):nD .or .u8 ((UInt8.ofNat (Ko bit p (p/8) 8)).toNat:Int) (((if bit p=true then 1 else 0)*2^(p%8):Nat):Int)=((UInt8.ofNat (Ko bit p (p/8) 8+(if bit p=true then 2^(p%8)else 0))).toNat:Int):=by
 have hlt:=SY bit p (p/8) 8
 have hb:=UJ bit p (p/8) 8 (p%8) (by omega)
 have e:8*(p/8)+p%8=p:=by omega
 rw [e,decide_eq_false (jF p),dY]at hb
 rw [toNat_ofNat (by omega)]
 by_cases h:bit p=true
 ·rw [if_pos h,if_pos h,dF]
  have h2:=pw8 (c:=1) (s:=p%8) (aA _) (by omega)
  have h3:=adQ _ hlt (p%8) (by omega) hb
  have h4:=jP (n:=8) hlt (show 2^(p%8)<2^8 by omega)
  rw [NG _ _ (by omega) (by omega),h3,toNat_ofNat (by omega)]
 ·rw [if_neg h,if_neg h,fJ,NG _ _ (by omega) (by omega),Nat.or_zero,dS,toNat_ofNat (by omega)]
theorem Zi (bit:Nat->Bool)(n p:Nat):(pk bit n (p+1)).map oh=((pk bit n p).map oh).set (p/8) [FV.v (.int .u8 (nD .or .u8 ((UInt8.ofNat (Ko bit p (p/8) 8)).toNat:Int) (((if bit p=true then 1 else 0)*2^(p%8):Nat):Int)))]:=by
 rw [adR,adw,bT];rfl
theorem NR {bit:Nat->Bool}{n p j:Nat}(h:j<n):(pk bit n p)[j]? = some (UInt8.ofNat (Ko bit p j 8)):=by
 simp only [pk,aU,gV h,bU]
theorem UR {l:Li}{i k:Nat}(hk:k<wd l)(hi:i<l.length):x9 (lo l) (wd l) l (i*wd l+k)=(dif (lo l) l[i]).testBit k:=by
 unfold x9
 have hw:0<wd l:=by omega
 have e1:(i*wd l+k)/wd l=i:=by rw [gY,Nat.mul_add_div hw,Nat.div_eq_of_lt hk,dS]
 have e2:(i*wd l+k)%wd l=k:=by rw [gY,kV,cZ hk]
 rw [e1,e2,ay,aj hi];rfl
theorem UU {n w i k:Nat}(hi:i<n)(hk:k<w):i*w+k<n*w∧(i*w+k)/8<vZ n w:=by
 have:=aX w (show i+1<=n from hi)
 rw [bJ,dF]at this
 unfold vZ
 omega
theorem Zj (b:By)(l:Li)(hl:nP l)(hne:l≠ [])(hb:b.length<=1000000)(hs:l.length<=10000):mQ Tryz.prog GC 184 [bs b,li l] 0 [] (Is (bs (b++b5 l))):=by
 obtain⟨a,ha⟩:=kH l hne
 have h1:=lo_le ha
 have h2:=Qd ha
 have hlo:=hl _ h1.2
 have hhi:=hl _ h2.2
 have hd:=Gz hlo hhi (by omega)
 have hw:=Lj l hl
 have hlen:=Zd (dif (lo l) (hi l)) hd.2
 have hwd:wid 64 (dif (lo l) (hi l))=wd l:=rfl
 rw [hwd]at hlen
 have n1:=(ni (lo l)).2
 have hmin:=alb l hne (by omega)
 have hmax:=alc l hne (by omega)
 clear hwd
 generalize hwe:wd l=w at *
 generalize hm:lo l=m at *
 generalize hM:hi l=M at *
 refine lQ func184 rfl mixed (by kernel_rfl) ?_
 (refine mF [] (by kernel_rfl) (hmin) rfl ?_ ?_;(focus trivial))
 (refine mF [] (by kernel_rfl) (hmax) rfl ?_ ?_;(focus trivial))
 refine lV.to rfl ?_
 refine lV.to rfl ?_
 refine lV.to hd.1 ?_
 (refine mF [] (by kernel_rfl) (hlen) rfl ?_ ?_;(focus trivial))
 refine mY [] (by kernel_rfl) (rE b m hlo (by omega)) (by trivial) ?_
 refine mY [0] (by kernel_rfl) (rE (b++num m) (w:Int) (nJ (by omega)) (by rw [ak];omega)) (by trivial) ?_
 conv=>whnf
 have hlw:l.length*w<=640000:=by
  have:=jd hs hw;omega
 refine lV.to (y:=((l.length*w:Nat):Int)) (by rw [ah, <-dN];exact IntWalk.i64_in _ (by omega)) ?_
 refine lV.i64 (by omega) ?_
 refine lN.mk (by decide) ?_
 refine lV.to (y:=((vZ l.length w:Nat):Int)) (by
  have e:Int.tdiv (((l.length*w:Nat):Int)+7) 8=((vZ l.length w:Nat):Int):=rfl
  rw [e];exact IntWalk.i64_in _ (by unfold vZ;omega)) ?_
 refine KG.mk' (qY:=1) (vZ l.length w) rfl rfl (by unfold vZ maxLen;omega) ?_
 conv=>whnf
 have hb3:(b++num m++num (w:Int)).length<=1000020:=by have:=(ni (w:Int)).2;simp only [ak];omega
 refine mO acA 3 [36] (fun i:Nat=> [(36,iv i)]) (fun i=> [(2, .rows 5 1 ((pk (x9 m w l) (vZ l.length w) (i*w)).map oh)),(1, .rows 5 1 ((b++num m++num (w:Int)).map oh))]) (fun i=>i<=l.length) (fun i=>l.length-i) [] [] 0 (by kernel_rfl) (fun _=>rfl) rfl (au _) ⟨⟨rfl,rfl,by rw [fJ,UK,eG];rfl⟩,⟨rfl,rfl,rfl⟩,trivial⟩ ⟨rfl,trivial⟩ ?_
 rintro i hi
 apply lK<;>intro h
 ·have hlt:i<l.length:=by simp at h;omega
  have hx:=lo_le (aT hlt)
  rw [hm]at hx
  have hxd:=Gz hlo (hl _ (aT hlt)) hx.1
  conv=>whnf
  (repeat' ((first|refine And.intro ?_ ?_|(apply lK<;>intro h<;>try simp only [bl]at h)|refine lV.i64 (by first|omega|(simp only [ln]at *;omega)) ?_|refine mZ.mk' _ rfl (by first|omega|(simp only [ln]at *;omega)) ?_|refine mD.lT (by assumption) ?_|refine mD.set (by first|omega|(simp only [ln]at *;omega)) ?_|refine mD.map (by first|omega|(simp only [ln]at *;omega)) ?_|refine lN.mk (by first|decide|omega) ?_|refine sO.mk (by kernel_rfl) rfl rfl ?_|refine lN.mk (lS (by first|omega|(simp only [ln]at *;omega)) (by kernel_rfl)) ?_)<;>conv=>whnf))
  refine lV.to rfl ?_
  refine lV.to rfl ?_
  refine lV.to hxd.1 ?_
  conv=>whnf
  have hbit : ∀k,k<w->x9 m w l (i*w+k)=(dif m l[i]).testBit k:=fun k hk=>by
   have:=UR (l:=l) (i:=i) (k:=k) (by rw [hwe];exact hk) hlt
   rwa [hm,hwe]at this
  generalize dif m l[i]=d at *
  refine mO acB 3 [47] (fun k:Nat=> [(47,iv k)]) (fun k=> [(2, .rows 5 1 ((pk (x9 m w l) (vZ l.length w) (i*w+k)).map oh)),(1, .rows 5 1 ((b++num m++num (w:Int)).map oh))]) (fun k=>k<=w) (fun k=>w-k) [] [] 0 (by kernel_rfl) (fun _=>rfl) rfl (au _) ⟨⟨rfl,rfl,rfl⟩,⟨rfl,rfl,rfl⟩,trivial⟩ ⟨rfl,trivial⟩ ?_
  rintro k hk
  apply lK<;>intro h
  ·have hkw:k<w:=by simp at h;omega
   have hat:=UU hlt hkw
   have hmul:i*w+k<=640000:=by omega
   refine lV.to (y:=((i*w:Nat):Int)) (by rw [<-dN];exact IntWalk.i64_in _ (by omega)) ?_
   refine lV.to (y:=((i*w+k:Nat):Int)) (by rw [<-fM];exact IntWalk.i64_in _ (by omega)) ?_
   conv=>whnf
   generalize hp:i*w+k=p at *
   (refine mP agQ [] (by kernel_rfl) ?_;conv=>whnf)
   refine lN.mk (by decide) ?_
   refine lV.to (y:=((p/8:Nat):Int)) (by
    have e:Int.tdiv (p:Int) 8=((p/8:Nat):Int):=rfl
    rw [e];exact IntWalk.i64_in _ (by omega)) ?_
   refine mZ.mk' (p/8) rfl (by rw [ah,pk_len];exact hat.2) ?_
   refine mD.lT (NR hat.2) ?_
   refine lN.mk (by omega) ?_
   refine lV.to (y:=(((if d.testBit k=true then 1 else 0:Nat)):Int)) (by rw [Zh hxd.2 (by omega)];exact w8 (by split<;>omega)) ?_
   refine lN.mk (by decide) ?_
   refine lN.mk (by show (0:Int)<=((p%8:Nat):Int);omega) ?_
   refine lV.to (y:=(((if d.testBit k=true then 1 else 0)*2^(p%8):Nat):Int)) (V6 (s:=p%8) (by split<;>omega) (iM _ (by decide))) ?_
   refine mZ.mk' (p/8) rfl (by rw [ah,pk_len];exact hat.2) ?_
   refine mD.lT (NR hat.2) ?_
   refine lV.i64 (by omega) ?_
   conv=>whnf
   have hbk:x9 m w l p=d.testBit k:=by rw [<-hp];exact hbit k hkw
   refine lU (k+1) [] [] rfl (by show w -(k+1)<w-k;omega) hkw ⟨⟨rfl,rfl, ?_⟩,⟨rfl,rfl,rfl⟩,trivial⟩ ⟨rfl,trivial⟩
   rw [show i*w+(k+1)=p+1 by omega,Zi,hbk]
  ·have:k=w:=by simp at h;omega
   subst this
   refine lV.i64 (by omega) ?_
   refine lU (i+1) [] [] rfl (by show l.length -(i+1)<l.length-i;omega) hlt ⟨⟨rfl,rfl, ?_⟩,⟨rfl,rfl,rfl⟩,trivial⟩ ⟨rfl,trivial⟩
   rw [show (i+1)*k=i*k+k by rw [bJ,dF]]
 ·have:i=l.length:=by simp at h;omega
  subst this
  have hS:vZ l.length w<=100000:=by unfold vZ;omega
  refine lN.mk (lS (by simp only [ah,ak,pk_len]at *;omega) (by kernel_rfl)) ?_
  conv=>whnf
  have e:b++b5 l=b++num m++num (w:Int)++pk (x9 m w l) (vZ l.length w) (l.length*w):=by
   unfold b5
   rw [hm,hwe]
   simp only [aH]
  rw [e]
  refine lZ [3] ⟨rfl,rfl, ?_⟩
  simp only [aJ]
def srt (l:Li):Li:=l.mergeSort fun x y=>decide (x<=y)
theorem Az (l:Li):(srt l).length=l.length:=lq l
theorem adT (l:Li)(y:Int):y∈srt l↔y∈l:=List.mem_mergeSort
theorem Tm (l:Li):(srt l).Pairwise (· <= ·):=by
 have:=kQ (le:=fun x y:Int=>decide (x<=y)) (fun a b c h1 h2=>by simp at *;omega) (fun a b=>by simp;omega) l
 exact this.imp fun h=>by simpa using h
theorem Zk (z:Li)(hs:z.Pairwise (· <= ·)) : ∀m,m<=z.length->SS (Lib.compactUpTo z.toArray m)∧∀y,y∈Lib.compactUpTo z.toArray m↔y∈z.take m:=by
 intro m
 induction m with
 | zero=>intro _;simp [Lib.compactUpTo,SS]
 | succ m ih=>
  intro hm
  have hlt:m<z.length:=by omega
  obtain⟨h1,h2⟩:=ih (by omega)
  have em:z.toArray[m]! = z[m]:=by simp [hlt]
  have le : ∀j (hj:j<m),z[j]'(by omega)<=z[m]:=fun j hj=>gU.1 hs j m (by omega) hlt hj
  rw [Lib.compactUpTo_succ,aG hlt,em]
  by_cases hk:Lib.keeps z.toArray m=true
  ·rw [if_pos hk]
   refine⟨jX.2 ⟨h1,jK _ _,fun a ha b hb=> ?_⟩,fun y=>by simp only [bK,h2,bF]⟩
   rw [bF.1 hb]
   obtain⟨j,hj,e⟩:=jc ((h2 a).1 ha)
   rw [aK]at hj
   rw [jm]at e
   have hjm:j<m:=by omega
   have hne:z[m-1]'(by omega)≠z[m]:=by
    unfold Lib.keeps at hk
    rw [decide_eq_true_eq]at hk
    rcases hk with h|h
    ·omega
    ·rw [em]at h
     have e1:z.toArray[m-1]! = z[m-1]'(by omega):=by simp [show m-1<z.length by omega]
     rw [e1]at h
     exact fun e=>h e.symm
   have l1:z[m-1]'(by omega)<=z[m]:=le (m-1) (by omega)
   have l2:z[j]'(by omega)<=z[m-1]'(by omega):=by
    rcases dP j (m-1)with h|h
    ·exact gU.1 hs j (m-1) (by omega) (by omega) h
    ·have:j=m-1:=by omega
     subst this;exact je _
   rw [<-e];omega
  ·rw [if_neg hk,bY]
   refine⟨h1,fun y=> ?_⟩
   rw [h2,bK,bF]
   constructor
   ·exact .inl
   ·rintro(h|h)
    ·exact h
    ·unfold Lib.keeps at hk
     rw [decide_eq_true_eq]at hk
     have h0:0<m:=by
      rcases cO m with e|e
      ·exact absurd (.inl e) hk
      ·exact e
     have e1:z.toArray[m-1]! = z[m-1]'(by omega):=by simp [show m-1<z.length by omega]
     have e2:z[m]=z[m-1]'(by omega):=by
      rw [em,e1]at hk
      exact fP fun h=>hk (.inr h)
     rw [h,e2]
     exact jY.2 ⟨m-1,by rw [aK];omega,by rw [jm]⟩
theorem Je (l:Li):Lib.compact (srt l)=ds l:=by
 have h:=Zk (srt l) (Tm l) (srt l).length (aA _)
 rw [aW]at h
 exact ai8 h.1 fun y=>by
  have:=h.2 y
  rw [adT]at this
  exact this
theorem ajk (a:Int):(Value.int .i64 a).oneCell'=true:=rfl
theorem sortA (l:Li)(hne:l≠ [])(hs:l.length<=1000000):mQ Tryz.prog GC 203 [.own 0] 1 [(0, .rows 3 1 (l.map qX))] (fun a n H=>a = .nN []∧n=1∧H = [(0, .rows 3 1 ((srt l).map qX))]):=
 Ap (enc:=Value.int .i64) (V:=fun _ _ v=>v = .tuple #[]) ajk hne (Az l)
  (fun w blk cap hH hb _=>Calls.mono (Tryz.slices_Sort_int blk 0 cap l w hH hb (by omega)) fun e w' ⟨h1,h2⟩=>⟨_,h1,rfl,h2⟩)
  (fun w σ F blk cap v _ _ hv=>by subst hv;exact nX.nN («as» := []) (vs:= []) trivial)
theorem Zl (l:Li)(hne:l≠ [])(hs:l.length<=1000000):mQ Tryz.prog GC 204 [.own 0] 1 [(0, .rows 3 1 ((srt l).map qX))] (fun a n H=>a = .sub 0 0 (ds l).length∧n=1∧H = [(0, .rows 3 1 ((ds l++List.replicate (l.length -(ds l).length) 0).map qX))]):=
 Ap (enc:=Value.int .i64) (zs':=ds l++List.replicate (l.length -(ds l).length) 0) (V:=fun blk cap v=>v = .slice (some ⟨blk,0,none⟩) (ds l).length cap) ajk (by intro h;have:=Az l;rw [h]at this;exact hne (aI this.symm))
  (by have:=yZ l;rw [Az,ak,cu];omega)
  (fun w blk cap hH hb hc=>Calls.mono (Tryz.slices_Compact_int blk 0 cap (srt l) w hH (by rw [Az];omega) hc) fun e w' ⟨h1,q,h2⟩=>⟨_,h1,by rw [Je],q, #[],by rw [h2,Je,Sort.grow_empty,Az]⟩)
  (fun w σ F blk cap v hσ hc hv=>by
   subst hv
   have hd:=yZ l
   rw [Az]at hσ hc
   refine .sub 0 0 _ _ cap (by decide) (by rw [hσ];show 0+_<=l.length;omega) (by omega) (fun h=>by cases h) fun _=>⟨blk,by rw [hσ],by rw [fJ]⟩)
theorem UW (l:Li)(x:Li):(((ds l++x).map qX).drop 0).take (ds l).length=(ds l).map qX:=by
 rw [dJ,aJ]
 exact dZ (ah _)
theorem Qk {d l:Li}{k:Nat}(h:k<l.length):ixs d (l.take (k+1))=ixs d (l.take k)++num (idx d l[k]):=by
 rw [aG h]
 unfold ixs
 rw [iZ,iC,jW,bY]
theorem Wv (b:By)(l:Li)(hl:nP l)(hne:l≠ [])(hb:b.length+20*l.length<=2000000):mQ Tryz.prog GC 182 [bs b,li l] 0 [] (Is (bs (b++b4 l))):=by
 have hdl:=yZ l
 have hda:nP (ds l):=fun x hx=>hl x ((uU l x).1 hx)
 have n1:=(ni ((ds l).length:Int)).2
 have n2:=I9 (ds l)
 refine lQ func182 rfl mixed (by kernel_rfl) ?_
 refine mY [] (by kernel_rfl) (ahq l hne (by omega)) (by trivial) ?_
 refine pW [0] [] (by kernel_rfl) (sortA l hne (by omega)) rfl (by trivial) (by trivial) rfl ?_
 refine pW [0] [] (by kernel_rfl) (Zl l hne (by omega)) rfl (by trivial) (by trivial) rfl ?_
 refine mY [] (by kernel_rfl) (rE b ((ds l).length:Int) (nJ (by omega)) (by omega)) (by trivial) ?_
 refine mY [1,0] (by kernel_rfl) (LC (b++num ((ds l).length:Int)) (ds l) hda (by rw [ak];omega)) ⟨⟨rfl,rfl,rfl⟩,⟨rfl,rfl,UW l _⟩,trivial⟩ ?_
 conv=>whnf
 have hix : ∀k,(ixs (ds l) (l.take k)).length<=10*l.length:=fun k=>by
  have h1:=EJ (fun x=>num (idx (ds l) x)) 10 (l.take k) fun x _=>(ni _).2
  rw [aK]at h1
  have h2:(ixs (ds l) (l.take k)).length<=10*min k l.length:=h1
  omega
 refine mO acy 2 [0,24] (fun k:Nat=> [(0,bs (b++num ((ds l).length:Int)++b1 (ds l)++ixs (ds l) (l.take k))),(24,iv k)]) (fun _=> [(0, .fz 1 ((ds l++List.replicate (l.length -(ds l).length) 0).map qX))]) (fun k=>k<=l.length) (fun k=>l.length-k) [] [] 0 (by kernel_rfl) (fun _=>rfl) rfl (au _) ⟨⟨rfl,rfl⟩,trivial⟩ ⟨⟨rfl,by rw [jv];simp [ixs]⟩,rfl,trivial⟩ ?_
 rintro k hk
 have hx:=hix k
 apply lK<;>intro h
 ·have hlt:k<l.length:=by simp at h;omega
  have hmem:l[k]∈ds l:=(uU l _).2 (aT hlt)
  have hil:=(I8 hmem).1
  conv=>whnf
  (repeat' ((first|refine And.intro ?_ ?_|(apply lK<;>intro h<;>try simp only [bl]at h)|refine lV.i64 (by first|omega|(simp only [ln]at *;omega)) ?_|refine mZ.mk' _ rfl (by first|omega|(simp only [ln]at *;omega)) ?_|refine mD.lT (by assumption) ?_|refine mD.set (by first|omega|(simp only [ln]at *;omega)) ?_|refine mD.map (by first|omega|(simp only [ln]at *;omega)) ?_|refine lN.mk (by first|decide|omega) ?_|refine sO.mk (by kernel_rfl) rfl rfl ?_|refine lN.mk (lS (by first|omega|(simp only [ln]at *;omega)) (by kernel_rfl)) ?_)<;>conv=>whnf))
  refine mF [] (by kernel_rfl) (adP (ds l) l[k] (UH l) hmem (by omega)) rfl ⟨⟨rfl,UW l _⟩,rfl,trivial⟩ ?_
  refine mY [] (by kernel_rfl) (rE (b++num ((ds l).length:Int)++b1 (ds l)++ixs (ds l) (l.take k)) (idx (ds l) l[k]:Int) (nJ (by omega)) (by simp only [ak];omega)) (by trivial) ?_
  conv=>whnf
  (repeat' ((first|refine And.intro ?_ ?_|(apply lK<;>intro h<;>try simp only [bl]at h)|refine lV.i64 (by first|omega|(simp only [ln]at *;omega)) ?_|refine mZ.mk' _ rfl (by first|omega|(simp only [ln]at *;omega)) ?_|refine mD.lT (by assumption) ?_|refine mD.set (by first|omega|(simp only [ln]at *;omega)) ?_|refine mD.map (by first|omega|(simp only [ln]at *;omega)) ?_|refine lN.mk (by first|decide|omega) ?_|refine sO.mk (by kernel_rfl) rfl rfl ?_|refine lN.mk (lS (by first|omega|(simp only [ln]at *;omega)) (by kernel_rfl)) ?_)<;>conv=>whnf))
  refine lU (k+1) [] [2] rfl (by show l.length -(k+1)<l.length-k;omega) hlt ⟨⟨rfl,rfl⟩,trivial⟩ ⟨⟨rfl,rfl, ?_⟩,rfl,trivial⟩
  rw [Qk hlt, <-aH]
 ·have:k=l.length:=by simp at h;omega
  subst this
  conv=>whnf
  have e:b++b4 l=b++num ((ds l).length:Int)++b1 (ds l)++ixs (ds l) (l.take l.length):=by
   rw [aW]
   unfold b4 ixs
   simp only [aH]
  rw [e]
  exact lZ [] (by trivial)
section
def bst (l:Li):Nat->AV
 | 0=> .v (.slice none 0 0)
 | k+1=>bs (best l k)
theorem Zm (l:Li)(h:nP l)(hs:l.length<=512) : ∀k,0<(best l k).length∧(best l k).length<=20000:=by
 intro k
 obtain⟨j,_,e⟩:=UL l k
 rw [e]
 have:=ahk (j+1) l h
 have:=ahl (j+1) l
 omega
theorem UY {l:Li}(h:l≠ []):ints l=best l 4:=by unfold ints;rw [if_neg h]
theorem Zn:ints []=num 1++num 0:=by unfold ints;rfl
theorem LD (l:Li):best l 0=en 1 l:=rfl
theorem xM {l:Li}(k:Nat)(h:(en (k+2) l).length<(best l k).length):best l (k+1)=en (k+2) l:=by show sh _ _=_;unfold sh;rw [if_pos h]
theorem xO {l:Li}(k:Nat)(h : ¬(en (k+2) l).length<(best l k).length):best l (k+1)=best l k:=by show sh _ _=_;unfold sh;rw [if_neg h]
theorem en1 (l:Li):num (1:Int)++num l.length++b1 l=en 1 l:=rfl
theorem en2 (l:Li):num (2:Int)++num l.length++b2 l=en 2 l:=rfl
theorem en3 (l:Li):num (3:Int)++num l.length++b3 l=en 3 l:=rfl
theorem en4 (l:Li):num (4:Int)++num l.length++b4 l=en 4 l:=rfl
theorem en5 (l:Li):num (5:Int)++num l.length++b5 l=en 5 l:=rfl
attribute [local irreducible] best ints en bd
theorem xg (l:Li)(hl:nP l)(hs:l.length<=512):mQ Tryz.prog GC 122 [li l] 0 [] (Is (bs (ints l))):=by
 have hb:=Zm l hl hs
 have n2:=(ni (l.length:Int)).2
 have nn : ∀k:Int,(num k).length<=10:=fun k=>(ni k).2
 have hlenA : ∀k:Int,mQ Tryz.prog GC 28 [bs (num k),iv ((l.map qX).length:Nat)] 0 [] (sW 5 1 ((num k++num l.length).map oh)):=fun k=>by
  rw [ah]
  exact rE (num k) l.length (nJ (by omega)) (by have:=nn k;omega)
 have hz : ∀k:Int,(num k++num (l.length:Int)).length<=20:=fun k=>by have:=nn k;simp only [ak];omega
 have hp1:=LC (num 1++num l.length) l hl (by have:=hz 1;omega)
 have hp2:=Zg (num 2++num l.length) l hl (by have:=hz 2;omega)
 have hp3:=Wu (num 3++num l.length) l (by have:=hz 3;omega)
 have Jf:=fun h=>Wv (num 4++num l.length) l hl h (by have:=hz 4;omega)
 have yM:=fun h=>Zj (num 5++num l.length) l hl h (by have:=hz 5;omega) (by omega)
 refine lQ func122 rfl mixed (by kernel_rfl) ?_
 refine mY [] (by kernel_rfl) (Aw) (by trivial) ?_
 refine mO abD 0 [3,8] (fun i:Nat=> [(3,bst l i),(8,iv i)]) (fun _=> []) (fun i=>i<=5∧(0<i->l≠ [])) (fun i=>5-i) [] [] 0 (by kernel_rfl) (fun _=>rfl) rfl ⟨au _,fun h=>absurd h (jF 0)⟩ trivial ⟨rfl,rfl,trivial⟩ ?_
 rintro i ⟨hi,hne⟩
 have hc:i=0∨i=1∨i=2∨i=3∨i=4∨i=5:=by omega
 rcases hc with rfl|rfl|rfl|rfl|rfl|rfl
 ·refine mZ.mk' 0 rfl (by decide) ?_
  conv=>whnf
  (repeat' ((first|refine And.intro ?_ ?_|(apply lK<;>intro h<;>try simp only [bl]at h)|refine lV.i64 (by first|omega|(simp only [ln]at *;omega)) ?_|refine mZ.mk' _ rfl (by first|omega|(simp only [ln]at *;omega)) ?_|refine mD.lT (by assumption) ?_|refine mD.set (by first|omega|(simp only [ln]at *;omega)) ?_|refine mD.map (by first|omega|(simp only [ln]at *;omega)) ?_|refine lN.mk (by first|decide|omega) ?_|refine sO.mk (by kernel_rfl) rfl rfl ?_|refine lN.mk (lS (by first|omega|(simp only [ln]at *;omega)) (by kernel_rfl)) ?_)<;>conv=>whnf))
  refine mY [] (by kernel_rfl) (rE [] 1 (by unfold I64;omega) (by simp)) (by trivial) ?_
  refine mY [1] (by kernel_rfl) (hlenA 1) (by trivial) ?_
  apply lK<;>intro h
  ·have e:l = []:=aI (by simp at h;simp [h])
   subst e
   conv=>whnf
   rw [Zn]
   exact lZ [2] (by trivial)
  have hnn:l≠ []:=fun e=>by subst e;simp at h
  refine mY [2] (by kernel_rfl) (hp1) (by trivial) ?_
  conv=>whnf
  (repeat' ((first|refine And.intro ?_ ?_|(apply lK<;>intro h<;>try simp only [bl]at h)|refine lV.i64 (by first|omega|(simp only [ln]at *;omega)) ?_|refine mZ.mk' _ rfl (by first|omega|(simp only [ln]at *;omega)) ?_|refine mD.lT (by assumption) ?_|refine mD.set (by first|omega|(simp only [ln]at *;omega)) ?_|refine mD.map (by first|omega|(simp only [ln]at *;omega)) ?_|refine lN.mk (by first|decide|omega) ?_|refine sO.mk (by kernel_rfl) rfl rfl ?_|refine lN.mk (lS (by first|omega|(simp only [ln]at *;omega)) (by kernel_rfl)) ?_)<;>conv=>whnf))
  refine lU 1 [] [] rfl (by decide) ⟨by decide,fun _=>hnn⟩ trivial ⟨⟨rfl, ?_⟩,rfl,trivial⟩
  rw [LD, <-en1]
 ·refine mZ.mk' 1 rfl (by decide) ?_
  conv=>whnf
  (repeat' ((first|refine And.intro ?_ ?_|(apply lK<;>intro h<;>try simp only [bl]at h)|refine lV.i64 (by first|omega|(simp only [ln]at *;omega)) ?_|refine mZ.mk' _ rfl (by first|omega|(simp only [ln]at *;omega)) ?_|refine mD.lT (by assumption) ?_|refine mD.set (by first|omega|(simp only [ln]at *;omega)) ?_|refine mD.map (by first|omega|(simp only [ln]at *;omega)) ?_|refine lN.mk (by first|decide|omega) ?_|refine sO.mk (by kernel_rfl) rfl rfl ?_|refine lN.mk (lS (by first|omega|(simp only [ln]at *;omega)) (by kernel_rfl)) ?_)<;>conv=>whnf))
  refine mY [] (by kernel_rfl) (rE [] 2 (by unfold I64;omega) (by simp)) (by trivial) ?_
  refine mY [1] (by kernel_rfl) (hlenA 2) (by trivial) ?_
  apply lK<;>intro h
  ·exact absurd (aI (by simp at h;simp [h])) (hne (by decide))
  have hnn:=hne (by decide)
  refine mY [2] (by kernel_rfl) (hp2) (by trivial) ?_
  conv=>whnf
  have hbb:=hb (1-1)
  refine⟨fun b hbn=> ?_⟩
  rw [hbn (by rw [ah];exact hbb.1)]
  apply lK<;>intro h
  ·conv=>whnf
   (repeat' ((first|refine And.intro ?_ ?_|(apply lK<;>intro h<;>try simp only [bl]at h)|refine lV.i64 (by first|omega|(simp only [ln]at *;omega)) ?_|refine mZ.mk' _ rfl (by first|omega|(simp only [ln]at *;omega)) ?_|refine mD.lT (by assumption) ?_|refine mD.set (by first|omega|(simp only [ln]at *;omega)) ?_|refine mD.map (by first|omega|(simp only [ln]at *;omega)) ?_|refine lN.mk (by first|decide|omega) ?_|refine sO.mk (by kernel_rfl) rfl rfl ?_|refine lN.mk (lS (by first|omega|(simp only [ln]at *;omega)) (by kernel_rfl)) ?_)<;>conv=>whnf))
   refine lU (1+1) [] [] rfl (by decide) ⟨by decide,fun _=>hnn⟩ trivial ⟨⟨rfl, ?_⟩,rfl,trivial⟩
   rw [xM 0 (by simp only [ah,cond_false,decide_eq_true_eq,decide_eq_false_iff_not]at h;rw [<-en2];omega), <-en2]
  ·conv=>whnf
   (repeat' ((first|refine And.intro ?_ ?_|(apply lK<;>intro h<;>try simp only [bl]at h)|refine lV.i64 (by first|omega|(simp only [ln]at *;omega)) ?_|refine mZ.mk' _ rfl (by first|omega|(simp only [ln]at *;omega)) ?_|refine mD.lT (by assumption) ?_|refine mD.set (by first|omega|(simp only [ln]at *;omega)) ?_|refine mD.map (by first|omega|(simp only [ln]at *;omega)) ?_|refine lN.mk (by first|decide|omega) ?_|refine sO.mk (by kernel_rfl) rfl rfl ?_|refine lN.mk (lS (by first|omega|(simp only [ln]at *;omega)) (by kernel_rfl)) ?_)<;>conv=>whnf))
   refine lU (1+1) [] [] rfl (by decide) ⟨by decide,fun _=>hnn⟩ trivial ⟨⟨rfl, ?_⟩,rfl,trivial⟩
   rw [xO 0 (by simp only [ah,cond_false,decide_eq_true_eq,decide_eq_false_iff_not]at h;rw [<-en2];omega)]
 ·refine mZ.mk' 2 rfl (by decide) ?_
  conv=>whnf
  (repeat' ((first|refine And.intro ?_ ?_|(apply lK<;>intro h<;>try simp only [bl]at h)|refine lV.i64 (by first|omega|(simp only [ln]at *;omega)) ?_|refine mZ.mk' _ rfl (by first|omega|(simp only [ln]at *;omega)) ?_|refine mD.lT (by assumption) ?_|refine mD.set (by first|omega|(simp only [ln]at *;omega)) ?_|refine mD.map (by first|omega|(simp only [ln]at *;omega)) ?_|refine lN.mk (by first|decide|omega) ?_|refine sO.mk (by kernel_rfl) rfl rfl ?_|refine lN.mk (lS (by first|omega|(simp only [ln]at *;omega)) (by kernel_rfl)) ?_)<;>conv=>whnf))
  refine mY [] (by kernel_rfl) (rE [] 3 (by unfold I64;omega) (by simp)) (by trivial) ?_
  refine mY [1] (by kernel_rfl) (hlenA 3) (by trivial) ?_
  apply lK<;>intro h
  ·exact absurd (aI (by simp at h;simp [h])) (hne (by decide))
  have hnn:=hne (by decide)
  refine mY [2] (by kernel_rfl) (hp3) (by trivial) ?_
  conv=>whnf
  have hbb:=hb (2-1)
  refine⟨fun b hbn=> ?_⟩
  rw [hbn (by rw [ah];exact hbb.1)]
  apply lK<;>intro h
  ·conv=>whnf
   (repeat' ((first|refine And.intro ?_ ?_|(apply lK<;>intro h<;>try simp only [bl]at h)|refine lV.i64 (by first|omega|(simp only [ln]at *;omega)) ?_|refine mZ.mk' _ rfl (by first|omega|(simp only [ln]at *;omega)) ?_|refine mD.lT (by assumption) ?_|refine mD.set (by first|omega|(simp only [ln]at *;omega)) ?_|refine mD.map (by first|omega|(simp only [ln]at *;omega)) ?_|refine lN.mk (by first|decide|omega) ?_|refine sO.mk (by kernel_rfl) rfl rfl ?_|refine lN.mk (lS (by first|omega|(simp only [ln]at *;omega)) (by kernel_rfl)) ?_)<;>conv=>whnf))
   refine lU (2+1) [] [] rfl (by decide) ⟨by decide,fun _=>hnn⟩ trivial ⟨⟨rfl, ?_⟩,rfl,trivial⟩
   rw [xM 1 (by simp only [ah,cond_false,decide_eq_true_eq,decide_eq_false_iff_not]at h;rw [<-en3];omega), <-en3]
  ·conv=>whnf
   (repeat' ((first|refine And.intro ?_ ?_|(apply lK<;>intro h<;>try simp only [bl]at h)|refine lV.i64 (by first|omega|(simp only [ln]at *;omega)) ?_|refine mZ.mk' _ rfl (by first|omega|(simp only [ln]at *;omega)) ?_|refine mD.lT (by assumption) ?_|refine mD.set (by first|omega|(simp only [ln]at *;omega)) ?_|refine mD.map (by first|omega|(simp only [ln]at *;omega)) ?_|refine lN.mk (by first|decide|omega) ?_|refine sO.mk (by kernel_rfl) rfl rfl ?_|refine lN.mk (lS (by first|omega|(simp only [ln]at *;omega)) (by kernel_rfl)) ?_)<;>conv=>whnf))
   refine lU (2+1) [] [] rfl (by decide) ⟨by decide,fun _=>hnn⟩ trivial ⟨⟨rfl, ?_⟩,rfl,trivial⟩
   rw [xO 1 (by simp only [ah,cond_false,decide_eq_true_eq,decide_eq_false_iff_not]at h;rw [<-en3];omega)]
 ·refine mZ.mk' 3 rfl (by decide) ?_
  conv=>whnf
  (repeat' ((first|refine And.intro ?_ ?_|(apply lK<;>intro h<;>try simp only [bl]at h)|refine lV.i64 (by first|omega|(simp only [ln]at *;omega)) ?_|refine mZ.mk' _ rfl (by first|omega|(simp only [ln]at *;omega)) ?_|refine mD.lT (by assumption) ?_|refine mD.set (by first|omega|(simp only [ln]at *;omega)) ?_|refine mD.map (by first|omega|(simp only [ln]at *;omega)) ?_|refine lN.mk (by first|decide|omega) ?_|refine sO.mk (by kernel_rfl) rfl rfl ?_|refine lN.mk (lS (by first|omega|(simp only [ln]at *;omega)) (by kernel_rfl)) ?_)<;>conv=>whnf))
  refine mY [] (by kernel_rfl) (rE [] 4 (by unfold I64;omega) (by simp)) (by trivial) ?_
  refine mY [1] (by kernel_rfl) (hlenA 4) (by trivial) ?_
  apply lK<;>intro h
  ·exact absurd (aI (by simp at h;simp [h])) (hne (by decide))
  have hnn:=hne (by decide)
  refine mY [2] (by kernel_rfl) ((Jf hnn)) (by trivial) ?_
  conv=>whnf
  have hbb:=hb (3-1)
  refine⟨fun b hbn=> ?_⟩
  rw [hbn (by rw [ah];exact hbb.1)]
  apply lK<;>intro h
  ·conv=>whnf
   (repeat' ((first|refine And.intro ?_ ?_|(apply lK<;>intro h<;>try simp only [bl]at h)|refine lV.i64 (by first|omega|(simp only [ln]at *;omega)) ?_|refine mZ.mk' _ rfl (by first|omega|(simp only [ln]at *;omega)) ?_|refine mD.lT (by assumption) ?_|refine mD.set (by first|omega|(simp only [ln]at *;omega)) ?_|refine mD.map (by first|omega|(simp only [ln]at *;omega)) ?_|refine lN.mk (by first|decide|omega) ?_|refine sO.mk (by kernel_rfl) rfl rfl ?_|refine lN.mk (lS (by first|omega|(simp only [ln]at *;omega)) (by kernel_rfl)) ?_)<;>conv=>whnf))
   refine lU (3+1) [] [] rfl (by decide) ⟨by decide,fun _=>hnn⟩ trivial ⟨⟨rfl, ?_⟩,rfl,trivial⟩
   rw [xM 2 (by simp only [ah,cond_false,decide_eq_true_eq,decide_eq_false_iff_not]at h;rw [<-en4];omega), <-en4]
  ·conv=>whnf
   (repeat' ((first|refine And.intro ?_ ?_|(apply lK<;>intro h<;>try simp only [bl]at h)|refine lV.i64 (by first|omega|(simp only [ln]at *;omega)) ?_|refine mZ.mk' _ rfl (by first|omega|(simp only [ln]at *;omega)) ?_|refine mD.lT (by assumption) ?_|refine mD.set (by first|omega|(simp only [ln]at *;omega)) ?_|refine mD.map (by first|omega|(simp only [ln]at *;omega)) ?_|refine lN.mk (by first|decide|omega) ?_|refine sO.mk (by kernel_rfl) rfl rfl ?_|refine lN.mk (lS (by first|omega|(simp only [ln]at *;omega)) (by kernel_rfl)) ?_)<;>conv=>whnf))
   refine lU (3+1) [] [] rfl (by decide) ⟨by decide,fun _=>hnn⟩ trivial ⟨⟨rfl, ?_⟩,rfl,trivial⟩
   rw [xO 2 (by simp only [ah,cond_false,decide_eq_true_eq,decide_eq_false_iff_not]at h;rw [<-en4];omega)]
 ·refine mZ.mk' 4 rfl (by decide) ?_
  conv=>whnf
  (repeat' ((first|refine And.intro ?_ ?_|(apply lK<;>intro h<;>try simp only [bl]at h)|refine lV.i64 (by first|omega|(simp only [ln]at *;omega)) ?_|refine mZ.mk' _ rfl (by first|omega|(simp only [ln]at *;omega)) ?_|refine mD.lT (by assumption) ?_|refine mD.set (by first|omega|(simp only [ln]at *;omega)) ?_|refine mD.map (by first|omega|(simp only [ln]at *;omega)) ?_|refine lN.mk (by first|decide|omega) ?_|refine sO.mk (by kernel_rfl) rfl rfl ?_|refine lN.mk (lS (by first|omega|(simp only [ln]at *;omega)) (by kernel_rfl)) ?_)<;>conv=>whnf))
  refine mY [] (by kernel_rfl) (rE [] 5 (by unfold I64;omega) (by simp)) (by trivial) ?_
  refine mY [1] (by kernel_rfl) (hlenA 5) (by trivial) ?_
  apply lK<;>intro h
  ·exact absurd (aI (by simp at h;simp [h])) (hne (by decide))
  have hnn:=hne (by decide)
  refine mY [2] (by kernel_rfl) ((yM hnn)) (by trivial) ?_
  conv=>whnf
  have hbb:=hb (4-1)
  refine⟨fun b hbn=> ?_⟩
  rw [hbn (by rw [ah];exact hbb.1)]
  apply lK<;>intro h
  ·conv=>whnf
   (repeat' ((first|refine And.intro ?_ ?_|(apply lK<;>intro h<;>try simp only [bl]at h)|refine lV.i64 (by first|omega|(simp only [ln]at *;omega)) ?_|refine mZ.mk' _ rfl (by first|omega|(simp only [ln]at *;omega)) ?_|refine mD.lT (by assumption) ?_|refine mD.set (by first|omega|(simp only [ln]at *;omega)) ?_|refine mD.map (by first|omega|(simp only [ln]at *;omega)) ?_|refine lN.mk (by first|decide|omega) ?_|refine sO.mk (by kernel_rfl) rfl rfl ?_|refine lN.mk (lS (by first|omega|(simp only [ln]at *;omega)) (by kernel_rfl)) ?_)<;>conv=>whnf))
   refine lU (4+1) [] [] rfl (by decide) ⟨by decide,fun _=>hnn⟩ trivial ⟨⟨rfl, ?_⟩,rfl,trivial⟩
   rw [xM 3 (by simp only [ah,cond_false,decide_eq_true_eq,decide_eq_false_iff_not]at h;rw [<-en5];omega), <-en5]
  ·conv=>whnf
   (repeat' ((first|refine And.intro ?_ ?_|(apply lK<;>intro h<;>try simp only [bl]at h)|refine lV.i64 (by first|omega|(simp only [ln]at *;omega)) ?_|refine mZ.mk' _ rfl (by first|omega|(simp only [ln]at *;omega)) ?_|refine mD.lT (by assumption) ?_|refine mD.set (by first|omega|(simp only [ln]at *;omega)) ?_|refine mD.map (by first|omega|(simp only [ln]at *;omega)) ?_|refine lN.mk (by first|decide|omega) ?_|refine sO.mk (by kernel_rfl) rfl rfl ?_|refine lN.mk (lS (by first|omega|(simp only [ln]at *;omega)) (by kernel_rfl)) ?_)<;>conv=>whnf))
   refine lU (4+1) [] [] rfl (by decide) ⟨by decide,fun _=>hnn⟩ trivial ⟨⟨rfl, ?_⟩,rfl,trivial⟩
   rw [xO 3 (by simp only [ah,cond_false,decide_eq_true_eq,decide_eq_false_iff_not]at h;rw [<-en5];omega)]
 ·conv=>whnf
  rw [UY (hne (by decide))]
  exact lZ [] (by trivial)
end
section
theorem ex2:ints [] = [2,0]:=by decide
attribute [local irreducible] best ints en bd
theorem zT (out:Li)(v:Int):(out++ [v]).map qX=out.map qX++ [[FV.v (.int .i64 v)]]:=by rw [aJ];rfl
theorem ajl (x s:Int):IntKind.i64.wrap (IntKind.u64.wrap (IntKind.u64.wrap x+IntKind.u64.wrap s))=wQ (x+s):=by
 have e:IntKind.u64.bits=64:=rfl
 have e1:IntKind.u64.signed=false:=rfl
 have:=yc (IntKind.u64.wrap (IntKind.u64.wrap x+IntKind.u64.wrap s))
 unfold wQ at this
 rw [this,yc]
 simp only [IntKind.wrap,e,e1,dY,bf,if_false]
 omega
structure BX where
 i:Nat
 out:Li
end
def vw (b:By)(e:Int):oZ:= .var 109 [bs b,iv e]
def RdR (x:Int)(b:By)(e:Int)(a:AV)(n:Nat)(H:lM):Prop:=a=iv x∧n=1∧H = [(0,vw b e)]
theorem NT (b:By)(hb:b.length<=3000000):mQ Tryz.prog GC 33 [bs b] 0 [] (fun a n H=>a = .ptr 0 0∧n=1∧H = [(0,vw b 0)]):=by
 have h:=aho b [] (by simp;omega)
 rw [bY]at h
 refine lQ func33 rfl mixed (by kernel_rfl) ?_
 refine mY [] (by kernel_rfl) (h) (by trivial) ?_
 exact lX (.ptr 0 0) 1 _ [(0, .lab 1)] [0] ⟨rfl,rfl,rfl⟩ rfl (by trivial) (by trivial)
theorem Dn (b:By)(e:Int):mQ Tryz.prog GC 109 [.ptr 0 0] 1 [(0,vw b e)] (RdR e b e):=by
 refine lQ func109 rfl mixed (by kernel_rfl) ?_
 exact lX (iv e) 1 [(0,vw b e)] [] [] ⟨rfl,rfl,rfl⟩ rfl (by trivial) (by trivial)
theorem afa (b:By)(e f:Int):mQ Tryz.prog GC 107 [.ptr 0 0,iv f] 1 [(0,vw b e)] (fun a n H=>a = .nN []∧n=1∧H = [(0,vw b (if e=0 then f else e))]):=by
 refine lQ func107 rfl mixed (by kernel_rfl) ?_
 apply lK<;>intro h
 ·have h0:e=0:=by simpa using h
  exact lX (.nN []) 1 [(0,vw b f)] [] [] ⟨rfl,rfl,by rw [if_pos h0]⟩ rfl (by trivial) (by trivial)
 ·have h0:e≠0:=by simpa using h
  exact lX (.nN []) 1 [(0,vw b e)] [] [] ⟨rfl,rfl,by rw [if_neg h0]⟩ rfl (by trivial) (by trivial)
theorem xP {b:By}{e:Int}(h:DW b 0 0 = .bad e):ny b 0=(0,0,e):=by unfold ny;rw [if_pos rfl,h]
theorem rM {b:By}{n:Int}{k:Nat}(h:DW b 0 0 = .ok n k):ny b 0=(n,k,0):=by unfold ny;rw [if_pos rfl,h]
theorem UZ {b:By}{e:Int}(h:e≠0):ny b e=(0,0,e):=by unfold ny;rw [if_neg h]
structure NX where
 i:Nat
 u:Nat
def NI (b:By)(i u:Nat):Prop:=DW b 0 0=DW (b.drop i) i u∧u<128^i∧i<=9∧i<=b.length
theorem NI.last {b:By}{i u:Nat}(h:NI b i u)(hl:b.length<=i):DW b 0 0 = .bad 16:=by
 rw [h.1,jh hl];rfl
theorem NI.cons {b:By}{i u:Nat}(h:NI b i u)(hl:i<b.length):DW b 0 0=if i=9∧1<b[i].toNat then .bad 3 else if 128<=b[i].toNat then DW (b.drop (i+1)) (i+1) (u+b[i].toNat%128*128^i)else if b[i].toNat=0∧0<i then .bad 1 else .ok (zz (u+b[i].toNat%128*128^i)) (i+1):=by
 rw [h.1,dI hl];rfl
theorem NI.lt {i u c:Nat}(hu:u<128^i):u+c%128*128^i<128^(i+1):=by
 have h1:c%128<=127:=by omega
 have h2:=aX (128^i) h1
 rw [BK];omega
theorem U0 (c:UInt8):IntKind.u64.wrap (nD .and .u8 (c.toNat:Int) 127)=((c.toNat%128:Nat):Int):=by
 have e:(127:Int)=((127:Nat):Int):=rfl
 have hc:=c.toNat_lt
 rw [e,UD _ _ (by omega) (by decide),YF,sH (by omega)]
theorem FD {u:Nat}(hu:u<18446744073709551616):nD .and .u64 (u:Int) 1=((u%2:Nat):Int):=by
 have e:(1:Int)=((1:Nat):Int):=rfl
 rw [e,I4 _ 1 hu (by decide),and1]
theorem uK (b:By)(e:Int)(hb:b.length<=3000000):mQ Tryz.prog GC 106 [.ptr 0 0] 1 [(0,vw b e)] (RdR (ny b e).1 (b.drop (ny b e).2.1) (ny b e).2.2):=by
 refine lQ func106 rfl mixed (by kernel_rfl) ?_
 apply lK<;>intro h
 ·have h0:e≠0:=by simpa using h
  exact lX (iv 0) 1 [(0,vw b e)] [] [] (by rw [UZ h0];exact⟨rfl,rfl,rfl⟩) rfl (by trivial) (by trivial)
 have h0:e=0:=by simpa using h
 subst h0
 refine uj abx [3,4] (fun x:NX=> [(3,uv x.u),(4,iv x.i)]) (fun x=>NI b x.i x.u) (fun x=>b.length-x.i) ⟨0,0⟩ (by kernel_rfl) (fun _=>rfl) (by kernel_rfl) ⟨rfl,by decide,by decide,au _⟩ (by trivial) (by trivial) ?_
 rintro⟨i,u⟩ hN
 change NI b i u at hN
 have hi:=hN.2.2.1
 have hu:=hN.2.1
 refine lK (fun h1=> ?_) (fun h1=> ?_)
 ·have hil:b.length<=i:=by simp at h1;omega
  exact lX (iv 0) 1 [(0,vw b 16)] [] [] (by rw [xP (hN.last hil)];exact⟨rfl,rfl,rfl⟩) rfl (by trivial) (by trivial)
 have hil:i<b.length:=by simp at h1;omega
 have hc:=hN.cons hil
 refine mZ.mk' i rfl (pU hil) ?_
 refine mD.map hil ?_
 conv=>whnf
 generalize b[i]=c at *
 have hcl:=c.toNat_lt
 refine lK (fun h2=> ?_) (fun h2=> ?_)
 ·have h9:i=9:=by simp at h2;omega
  refine lK (fun h3=> ?_) (fun h3=> ?_)
  ·have hc1:1<c.toNat:=by simp at h3;omega
   exact lX (iv 0) 1 [(0,vw b 3)] [] [] (by rw [xP (by rw [hc,if_pos ⟨h9,hc1⟩])];exact⟨rfl,rfl,rfl⟩) rfl (by trivial) (by trivial)
  ·have hc1:c.toNat<=1:=by simp at h3;omega
   have NU : ¬(i=9∧1<c.toNat):=by omega
   have Zo:i=9->c.toNat%128<=1:=by omega
   have hx:=NH (x:=c.toNat%128) hi (iM _ (by decide)) Zo
   have hU:u+c.toNat%128*128^i<18446744073709551616:=by
    have h1:=NI.lt (c:=c.toNat) hu
    rcases dP i 9 with h2|h2
    ·have h3:128^(i+1)<=128^9:=dL (by decide) (by omega)
     have h4:(128:Nat)^9<18446744073709551616:=by decide
     omega
    ·have h3:i=9:=by omega
     have h4:=Zo h3
     subst h3
     have h5:(128:Nat)^9=9223372036854775808:=by decide
     have h6:=aX (128^9) h4
     rw [h5]at hu h6 ⊢
     omega
   refine lV.to (U0 c) ?_
   refine lV.i64 (x:=7*(i:Int)) (by omega) ?_
   refine lN.mk (by show (0:Int)<=7*(i:Int);omega) ?_
   refine lV.to hx.1 ?_
   conv=>whnf
   rw [UE hu hi hx.2]
   refine lK (fun h4=> ?_) (fun h4=> ?_)
   ·have h128:128<=c.toNat:=by simp at h4;omega
    refine lV.i64 (x:=(i:Int)+1) (by omega) ?_
    exact lU ⟨i+1,u+c.toNat%128*128^i⟩ [] [] rfl (by show b.length -(i+1)<b.length-i;omega) ⟨by rw [hc,if_neg NU,if_pos h128],NI.lt hu,(show i+1<=9 by omega),hil⟩ (by trivial) ⟨rfl,rfl,trivial⟩
   ·have h128:c.toNat<128:=by simp at h4;omega
    refine lK (fun h5=> ?_) (fun h5=> ?_)
    ·have hc0:c.toNat=0:=by simp at h5;omega
     refine lK (fun h6=> ?_) (fun h6=> ?_)
     ·have hi0:0<i:=by simp at h6;omega
      exact lX (iv 0) 1 [(0,vw b 1)] [] [] (by rw [xP (by rw [hc,if_neg NU,if_neg (by omega),if_pos ⟨hc0,hi0⟩])];exact⟨rfl,rfl,rfl⟩) rfl (by trivial) (by trivial)
     have hi0:i=0:=by simp at h6;omega
     conv=>whnf
     have hok:DW b 0 0 = .ok (zz (u+c.toNat%128*128^i)) (i+1):=by rw [hc,if_neg NU,if_neg (by omega),if_neg (by omega)]
     refine lV.i64 (x:=(i:Int)+1) (by omega) ?_
     refine sN.mk' (i+1) b.length rfl (by rw [ah]) (by omega) (by rw [ah];exact aA _) ?_
     refine lN.mk (by decide) ?_
     conv=>whnf
     generalize u+c.toNat%128*128^i=U at *
     refine lV.to (y:=((U/2:Nat):Int)) (by rw [wZ];exact IntWalk.i64_in _ (by omega)) ?_
     refine lV.to (y:=((U%2:Nat):Int)) (by rw [FD hU];exact IntWalk.i64_in _ (by omega)) ?_
     refine lV.i64 (by omega) ?_
     refine lX (iv (zz U)) 1 [(0,vw (b.drop (i+1)) 0)] [] [] (by rw [rM hok];exact⟨rfl,rfl,rfl⟩) rfl ⟨⟨rfl,⟨rfl,bI.symm⟩,rfl,trivial⟩,trivial⟩ ?_
     exact Ak (Gu hU)
    ·have hc0:c.toNat≠0:=by simp at h5;omega
     conv=>whnf
     have hok:DW b 0 0 = .ok (zz (u+c.toNat%128*128^i)) (i+1):=by rw [hc,if_neg NU,if_neg (by omega),if_neg (by omega)]
     refine lV.i64 (x:=(i:Int)+1) (by omega) ?_
     refine sN.mk' (i+1) b.length rfl (by rw [ah]) (by omega) (by rw [ah];exact aA _) ?_
     refine lN.mk (by decide) ?_
     conv=>whnf
     generalize u+c.toNat%128*128^i=U at *
     refine lV.to (y:=((U/2:Nat):Int)) (by rw [wZ];exact IntWalk.i64_in _ (by omega)) ?_
     refine lV.to (y:=((U%2:Nat):Int)) (by rw [FD hU];exact IntWalk.i64_in _ (by omega)) ?_
     refine lV.i64 (by omega) ?_
     refine lX (iv (zz U)) 1 [(0,vw (b.drop (i+1)) 0)] [] [] (by rw [rM hok];exact⟨rfl,rfl,rfl⟩) rfl ⟨⟨rfl,⟨rfl,bI.symm⟩,rfl,trivial⟩,trivial⟩ ?_
     exact Ak (Gu hU)
 ·have h9:i≠9:=by simp at h2;omega
  have NU : ¬(i=9∧1<c.toNat):=by omega
  have Zo:i=9->c.toNat%128<=1:=by omega
  ·skip
   have hx:=NH (x:=c.toNat%128) hi (iM _ (by decide)) Zo
   have hU:u+c.toNat%128*128^i<18446744073709551616:=by
    have h1:=NI.lt (c:=c.toNat) hu
    rcases dP i 9 with h2|h2
    ·have h3:128^(i+1)<=128^9:=dL (by decide) (by omega)
     have h4:(128:Nat)^9<18446744073709551616:=by decide
     omega
    ·have h3:i=9:=by omega
     have h4:=Zo h3
     subst h3
     have h5:(128:Nat)^9=9223372036854775808:=by decide
     have h6:=aX (128^9) h4
     rw [h5]at hu h6 ⊢
     omega
   refine lV.to (U0 c) ?_
   refine lV.i64 (x:=7*(i:Int)) (by omega) ?_
   refine lN.mk (by show (0:Int)<=7*(i:Int);omega) ?_
   refine lV.to hx.1 ?_
   conv=>whnf
   rw [UE hu hi hx.2]
   refine lK (fun h4=> ?_) (fun h4=> ?_)
   ·have h128:128<=c.toNat:=by simp at h4;omega
    refine lV.i64 (x:=(i:Int)+1) (by omega) ?_
    exact lU ⟨i+1,u+c.toNat%128*128^i⟩ [] [] rfl (by show b.length -(i+1)<b.length-i;omega) ⟨by rw [hc,if_neg NU,if_pos h128],NI.lt hu,(show i+1<=9 by omega),hil⟩ (by trivial) ⟨rfl,rfl,trivial⟩
   ·have h128:c.toNat<128:=by simp at h4;omega
    refine lK (fun h5=> ?_) (fun h5=> ?_)
    ·have hc0:c.toNat=0:=by simp at h5;omega
     refine lK (fun h6=> ?_) (fun h6=> ?_)
     ·have hi0:0<i:=by simp at h6;omega
      exact lX (iv 0) 1 [(0,vw b 1)] [] [] (by rw [xP (by rw [hc,if_neg NU,if_neg (by omega),if_pos ⟨hc0,hi0⟩])];exact⟨rfl,rfl,rfl⟩) rfl (by trivial) (by trivial)
     have hi0:i=0:=by simp at h6;omega
     conv=>whnf
     have hok:DW b 0 0 = .ok (zz (u+c.toNat%128*128^i)) (i+1):=by rw [hc,if_neg NU,if_neg (by omega),if_neg (by omega)]
     refine lV.i64 (x:=(i:Int)+1) (by omega) ?_
     refine sN.mk' (i+1) b.length rfl (by rw [ah]) (by omega) (by rw [ah];exact aA _) ?_
     refine lN.mk (by decide) ?_
     conv=>whnf
     generalize u+c.toNat%128*128^i=U at *
     refine lV.to (y:=((U/2:Nat):Int)) (by rw [wZ];exact IntWalk.i64_in _ (by omega)) ?_
     refine lV.to (y:=((U%2:Nat):Int)) (by rw [FD hU];exact IntWalk.i64_in _ (by omega)) ?_
     refine lV.i64 (by omega) ?_
     refine lX (iv (zz U)) 1 [(0,vw (b.drop (i+1)) 0)] [] [] (by rw [rM hok];exact⟨rfl,rfl,rfl⟩) rfl ⟨⟨rfl,⟨rfl,bI.symm⟩,rfl,trivial⟩,trivial⟩ ?_
     exact Ak (Gu hU)
    ·have hc0:c.toNat≠0:=by simp at h5;omega
     conv=>whnf
     have hok:DW b 0 0 = .ok (zz (u+c.toNat%128*128^i)) (i+1):=by rw [hc,if_neg NU,if_neg (by omega),if_neg (by omega)]
     refine lV.i64 (x:=(i:Int)+1) (by omega) ?_
     refine sN.mk' (i+1) b.length rfl (by rw [ah]) (by omega) (by rw [ah];exact aA _) ?_
     refine lN.mk (by decide) ?_
     conv=>whnf
     generalize u+c.toNat%128*128^i=U at *
     refine lV.to (y:=((U/2:Nat):Int)) (by rw [wZ];exact IntWalk.i64_in _ (by omega)) ?_
     refine lV.to (y:=((U%2:Nat):Int)) (by rw [FD hU];exact IntWalk.i64_in _ (by omega)) ?_
     refine lV.i64 (by omega) ?_
     refine lX (iv (zz U)) 1 [(0,vw (b.drop (i+1)) 0)] [] [] (by rw [rM hok];exact⟨rfl,rfl,rfl⟩) rfl ⟨⟨rfl,⟨rfl,bI.symm⟩,rfl,trivial⟩,trivial⟩ ?_
     exact Ak (Gu hU)
theorem sZ (b:By)(e most em:Int):qg b e most em=(if(if(ny b e).2.2=0 then(if(ny b e).1<0 then 3 else if most<(ny b e).1 then em else 0)else(ny b e).2.2)=0 then(ny b e).1 else 0,(ny b e).2.1,if(ny b e).2.2=0 then(if(ny b e).1<0 then 3 else if most<(ny b e).1 then em else 0)else(ny b e).2.2):=rfl
theorem NV (b:By)(e most em:Int)(hb:b.length<=3000000)(hem:em≠0)(Zp:0<=most):mQ Tryz.prog GC 73 [.ptr 0 0,iv most,iv em] 1 [(0,vw b e)] (RdR (qg b e most em).1 (b.drop (qg b e most em).2.1) (qg b e most em).2.2):=by
 have hN:=uK b e hb
 have hz:=(oN b e).2.2.2
 rw [sZ]
 generalize ny b e=t at *
 obtain⟨x,k,e'⟩:=t
 simp only at hN hz ⊢
 generalize b.drop k=b' at *
 by_cases he:e'=0
 ·subst he
  clear hz
  simp only [if_true]
  refine lQ func73 rfl mixed (by kernel_rfl) ?_
  refine pW [0] [] (by kernel_rfl) hN rfl (by trivial) (by trivial) rfl ?_
  apply lK<;>intro h
  ·have hx:x<0:=by simpa using h
   refine pW [0] [] (by kernel_rfl) (afa b' 0 3) rfl (by trivial) (by trivial) rfl ?_
   exact lX (iv 0) 1 [(0,vw b' 3)] [] [] (by rw [if_pos hx];exact⟨rfl,rfl,rfl⟩) rfl (by trivial) (by trivial)
  have hx : ¬x<0:=by simpa using h
  apply lK<;>intro h
  ·have hm:most<x:=by simpa using h
   refine pW [0] [] (by kernel_rfl) (afa b' 0 em) rfl (by trivial) (by trivial) rfl ?_
   rw [if_pos rfl]
   apply lK<;>intro h
   rotate_left
   ·exact absurd (by simpa using h) hem
   exact lX (iv 0) 1 [(0,vw b' em)] [] [] (by rw [if_neg hx,if_pos hm,if_neg hem];exact⟨rfl,rfl,rfl⟩) rfl (by trivial) (by trivial)
  have hm : ¬most<x:=by simpa using h
  exact lX (iv x) 1 [(0,vw b' 0)] [] [] (by rw [if_neg hx,if_neg hm,if_pos rfl];exact⟨rfl,rfl,rfl⟩) rfl (by trivial) (by trivial)
 ·obtain⟨rfl,rfl⟩:=hz he
  simp only [he,if_false]
  refine lQ func73 rfl mixed (by kernel_rfl) ?_
  refine pW [0] [] (by kernel_rfl) hN rfl (by trivial) (by trivial) rfl ?_
  apply lK<;>intro h
  ·exfalso;simp at h;omega
  apply lK<;>intro h
  rotate_left
  ·exfalso;simp at h;exact he h
  exact lX (iv 0) 1 [(0,vw b' e')] [] [] ⟨rfl,rfl,rfl⟩ rfl (by trivial) (by trivial)
theorem EM (b:By)(e most:Int)(hb:b.length<=3000000)(Zp:0<=most):mQ Tryz.prog GC 108 [.ptr 0 0,iv most] 1 [(0,vw b e)] (RdR (qg b e most 5).1 (b.drop (qg b e most 5).2.1) (qg b e most 5).2.2):=by
 have hN:=NV b e most 5 hb (by decide) Zp
 generalize qg b e most 5=t at *
 obtain⟨x,k,e'⟩:=t
 simp only at hN ⊢
 generalize b.drop k=b' at *
 refine lQ func108 rfl mixed (by kernel_rfl) ?_
 refine pW [0] [] (by kernel_rfl) hN rfl (by trivial) (by trivial) rfl ?_
 exact lX (iv x) 1 [(0,vw b' e')] [] [] ⟨rfl,rfl,rfl⟩ rfl (by trivial) (by trivial)
theorem ald (x y:Nat)(hx:x<18446744073709551616)(hy:y<18446744073709551616):mQ Tryz.prog GC 215 [uv x,uv y] 0 [] (Is (.nN [uv (x*y/18446744073709551616),uv (x*y%18446744073709551616)])):=
 Ze (l:= [.int .u64 (x:Int), .int .u64 (y:Int)]) fun w=>Calls.mono (Tryz.bits_Mul x y hx hy w) fun e w' ⟨h1,h2⟩=>⟨_,h1,rfl,by rw [h2];exact Below.refl _ _⟩
def BL (x:Int)(n k:Nat):List (List FV):=(List.replicate n x++List.replicate (k-n) 0).map qX
theorem Ql (x:Int){n k:Nat}(h:n<=k):(BL x n k).length=k:=by simp [BL];omega
theorem Jg (x:Int){n c k:Nat}(h:n+c<=k)(ys:List (List FV))(hy:ys=List.replicate c (qX x)):splice (BL x n k) n ys=BL x (n+c) k:=by
 subst hy
 unfold splice BL
 rw [cu,aJ,aJ,eG,eG,eG,eG]
 rw [dZ (by simp),List.drop_append,cu,jh (by simp),dO,List.drop_replicate,jQ]
 congr 2
 omega
theorem adU (x:Int)(k:Nat)(hk:1<=k)(hk2:k<=100000):mQ Tryz.prog GC 201 [li [x],iv k] 0 [] (sW 3 1 ((List.replicate k x).map qX)):=by
 have hm:=ald 1 k (by decide) (by omega)
 refine lQ func201 rfl mixed (by kernel_rfl) ?_
 refine lV.to (y:=((1:Nat):Int)) (sH (n:=1) (by decide)) ?_
 refine lV.to (y:=((k:Nat):Int)) (sH (by omega)) ?_
 (refine mF [] (by kernel_rfl) (hm) rfl ?_ ?_;(focus trivial))
 apply lK<;>intro h
 ·exfalso;simp at h;omega
 apply lK<;>intro h
 ·exfalso;simp at h;omega
 refine lV.to (y:=((k:Nat):Int)) (by
  have e:1*k%18446744073709551616=k:=by omega
  rw [e];exact IntWalk.i64_in _ (by omega)) ?_
 refine KG.mk' (qY:=8) k rfl rfl (by unfold maxLen;omega) ?_
 refine mO acK 1 [8] (fun n:Nat=> [(8,iv n)]) (fun n=> [(0, .rows 3 1 (BL x n k))]) (fun n=>1<=n∧n<=k) (fun n=>k-n) [] [] 1 (by kernel_rfl) (fun _=>rfl) rfl ⟨aA _,hk⟩ ⟨⟨rfl,rfl, ?_⟩,trivial⟩ ⟨?_,trivial⟩ ?_
 ·have e:=Jg x (n:=0) (c:=1) (k:=k) (by omega) [qX x] rfl
  have e2:List.replicate k [FV.v (.int .i64 0)]=BL x 0 k:=by unfold BL;rw [kC,dO,iU,eG];rfl
  show splice (List.replicate k [FV.v (.int .i64 0)]) 0 (List.take (min 1 (List.replicate k [FV.v (.int .i64 0)]).length) [qX x])=_
  rw [e2,Ql x (au _),dW hk]
  exact e
 ·show Value.int .i64 ((min 1 (List.replicate k [FV.v (.int .i64 0)]).length:Nat):Int)=Value.int .i64 ((1:Nat):Int)
  rw [cu,dW hk]
 rintro n ⟨hn1,hn2⟩
 have hrl:=Ql x hn2
 apply lK<;>intro h
 ·have hlt:n<k:=by rw [hrl]at h;simp at h;omega
  (refine mP agR [0] (by kernel_rfl) ?_;conv=>whnf)
  refine sN.mk' n k rfl (by rw [hrl]) hn2 (by rw [hrl];exact aA _) ?_
  refine sN.mk' 0 n rfl rfl (au _) (by rw [hrl];exact hn2) ?_
  conv=>whnf
  have hy:((BL x n k).drop 0).take (n-0)=List.replicate n (qX x):=by
   unfold BL
   rw [dJ,iU,aJ,eG,dZ (by simp)]
  have hc:min (((BL x n k).drop 0).take (n-0)).length (k-n)=min n (k-n):=by rw [hy,cu]
  have hys:List.take (min (((BL x n k).drop 0).take (n-0)).length (k-n)) (((BL x n k).drop 0).take (n-0))=List.replicate (min n (k-n)) (qX x):=by
   rw [hc,hy,List.take_replicate]
   congr 1;omega
  have hsp:=Jg x (n:=n) (c:=min n (k-n)) (k:=k) (by omega) _ hys
  refine lV.to (y:=((n+min n (k-n):Nat):Int)) (by rw [hc,IntWalk.i64_in _ (by omega)];omega) ?_
  exact lU (n+min n (k-n)) [] [] rfl (by show k -(n+min n (k-n))<k-n;omega) ⟨by omega,by omega⟩ ⟨⟨rfl,rfl,hsp⟩,trivial⟩ ⟨rfl,trivial⟩
 ·have:n=k:=by rw [hrl]at h;simp at h;omega
  subst this
  conv=>whnf
  have e:BL x n n=(List.replicate n x).map qX:=by unfold BL;rw [gQ,kC,bY]
  exact lX (.own 0) 1 _ [(0, .lab 0)] [] ⟨rfl,rfl,rfl⟩ rfl ⟨⟨rfl,rfl,e⟩,trivial⟩ (by trivial)
def Kq (body:Li->By)(b:By)(n:Nat)(a:AV)(m:Nat)(H:lM):Prop:= ∃l ok,Tc body b n l ok∧a = .nN [.own 0,bv ok]∧m=1∧H = [(0, .rows 3 1 (l.map qX))]
structure RX where
 b:By
 e:Int
 out:Li
theorem qh {b:By}{m k:Nat}(h:b.length<=m):(b.drop k).length<=m:=by rw [aS];omega
theorem Jh (b:By)(n:Nat)(hb:b.length<=3000000)(hn:n<=512):mQ Tryz.prog GC 177 [bs b,iv n] 0 [] (Kq b1 b n):=by
 refine lQ func177 rfl mixed (by kernel_rfl) ?_
 refine mY [] (by kernel_rfl) (NT b hb) (by trivial) ?_
 refine mO acp 2 [7] (fun _:RX=> [(7, .own 1)]) (fun x=> [(1, .rows 3 1 (x.out.map qX)),(0,vw x.b x.e)]) (fun x=>x.out.length<=n∧nP x.out∧x.b.length<=3000000∧Pr b n b1 (Q1 x.b x.out x.e)) (fun x=>n-x.out.length) [(1, .nil)] [] ⟨b,0,[]⟩ (by kernel_rfl) (fun _=>rfl) rfl ⟨au _,nP.nil,hb,(Pr.start b n b1).mono fun l0 r _ _ h=>Q1.start h⟩ ⟨rfl,(by trivial),trivial⟩ ⟨trivial,trivial⟩ ?_
 rintro⟨b',e,out⟩ ⟨h1,h2,h3,h4⟩
 change out.length<=n at h1
 change nP out at h2
 change b'.length<=3000000 at h3
 change Pr b n b1 (Q1 b' out e)at h4
 have fin:((e=0->out.length=n))->Tc b1 b n out (e==0):=fun hx=>⟨h2,h1,h4.mono fun l0 r _ hl h=>by
  have:=h.fin fun he=>by rw [hx he,hl]
  exact⟨by simp [this.1],this.2.1⟩⟩
 apply lK<;>intro h
 ·have hlt:out.length<n:=by simp at h;omega
  refine pW [0] [] (by kernel_rfl) (Dn b' e) rfl (by trivial) (by trivial) rfl ?_
  apply lK<;>intro h
  ·have he:e=0:=by simpa using h
   refine pW [0] [] (by kernel_rfl) (uK b' e h3) rfl (by trivial) (by trivial) rfl ?_
   refine lN.mk (lS (by simp only [ln];omega) (by kernel_rfl)) ?_
   refine lU ⟨b'.drop (ny b' e).2.1,(ny b' e).2.2,out++ [(ny b' e).1]⟩ [(1, .lab 3)] [] rfl (by show n -(out++ [(ny b' e).1]).length<n-out.length;rw [ak];simp;omega)
    ⟨by show (out++ [(ny b' e).1]).length<=n;rw [ak];simp;omega,h2.snoc (oN b' e).1,qh h3,fun l0 r ha hl hb0=>(h4 l0 r ha hl hb0).step ha (by omega)⟩ ⟨⟨rfl,rfl,(zT out _).symm⟩,(by trivial),trivial⟩ ⟨rfl,trivial⟩
  ·have he:e≠0:=by simpa using h
   refine pW [0] [] (by kernel_rfl) (Dn b' e) rfl (by trivial) (by trivial) rfl ?_
   exact lX (.nN [.own 0,bv (e==0)]) 1 _ [(0, .lab 1)] [] ⟨out,e==0,fin fun h=>absurd h he,rfl,rfl,rfl⟩ rfl (by trivial) (by trivial)
 ·have hlt:out.length=n:=by simp at h;omega
  refine pW [0] [] (by kernel_rfl) (Dn b' e) rfl (by trivial) (by trivial) rfl ?_
  exact lX (.nN [.own 0,bv (e==0)]) 1 _ [(0, .lab 1)] [] ⟨out,e==0,fin fun _=>hlt,rfl,rfl,rfl⟩ rfl (by trivial) (by trivial)
def QZ (l:Li)(i:Nat):Li:=(sm 0 l).take i++l.drop i
theorem adV (l:Li)(i:Nat)(h:i<=l.length):(QZ l i).length=l.length:=by unfold QZ;rw [ak,aK,aS,yg];omega
theorem ahs {l:Li}{i:Nat}(h:i<l.length):(QZ l i)[i]? = some l[i]:=by
 unfold QZ
 rw [dG (by rw [aK,yg];omega),aK,yg,dW (by omega),gQ,dA,dS,aj h]
theorem Tn {l:Li}{i:Nat}(h:i<l.length)(h0:0<i):(QZ l i)[i-1]? = some ((sm 0 l).getD (i-1) 0):=by
 unfold QZ
 rw [dQ (by rw [aK,yg];omega),bQ,if_pos (by omega),ay,aj (by rw [yg];omega)]
 rfl
theorem Zq {l:Li}{i:Nat}(h:i<l.length)(h0:0<i):QZ l (i+1)=(QZ l i).set i (wQ (l[i]+(sm 0 l).getD (i-1) 0)):=by
 obtain⟨j,rfl⟩ : ∃j,i=j+1:=⟨i-1,by omega⟩
 have hs:=sm_at l 0 j h
 have hg:l.getD (j+1) 0=l[j+1]:=by rw [ay,aj h];rfl
 rw [hg,Int.add_comm]at hs
 have hlt:j+1<(sm 0 l).length:=by rw [yg];exact h
 unfold QZ
 rw [aG hlt,iH _ _ (by rw [aK];omega),aK,dW (by omega),gQ,drop_cons h,List.set_cons_zero,aH]
 rw [aj hlt]at hs
 injection hs with hs
 rw [hs]
 rfl
theorem adW {l:Li}(h:nP l):QZ l 1=l:=by
 cases l with
 | nil=>rfl
 | cons x r=>
  have:=NJ (h x bG)
  simp only [QZ,sm,Int.zero_add,this]
  rfl
theorem Wx {b:By}{n:Nat}{l:Li}{ok:Bool}(h:Tc b1 b n l ok):Tc b3 b n (sm 0 l) ok:=by
 refine⟨YN l 0,by rw [yg];exact h.2.1,fun l0 r ha hl hb=> ?_⟩
 have:=h.2.2 (dl 0 l0) r (YL l0 0) (by rw [Td];exact hl) (by rw [hb, <-ae6];rfl)
 exact⟨this.1,by rw [this.2,ae7 l0 0 ha]⟩
theorem Tq (b:By)(n:Nat)(hb:b.length<=3000000)(hn:n<=512):mQ Tryz.prog GC 181 [bs b,iv n] 0 [] (Kq b3 b n):=by
 refine lQ func181 rfl mixed (by kernel_rfl) ?_
 (refine nO [] (by kernel_rfl) (Jh b n hb hn) ?_ ?_;(focus trivial))
 rintro _ _ _ ⟨l,ok,hd,rfl,rfl,rfl⟩
 conv=>whnf
 have hll:=hd.2.1
 refine mO acw 1 [8] (fun i:Nat=> [(8,iv i)]) (fun i=> [(0, .rows 3 1 ((QZ l i).map qX))]) (fun i=>1<=i∧(l.length=0∨i<=l.length)) (fun i=>l.length-i) [] [] 1 (by kernel_rfl) (fun _=>rfl) rfl ⟨aA _,by omega⟩ ⟨⟨rfl,rfl,by rw [adW hd.1]⟩,trivial⟩ ⟨rfl,trivial⟩ ?_
 rintro i ⟨hi1,hi2⟩
 have hsl:(QZ l i).length=l.length:=by
  rcases hi2 with h|h
  ·have:l = []:=aI h
   subst this;simp [QZ,sm]
  ·exact adV l i h
 apply lK<;>intro h
 ·have hlt:i<l.length:=by simp only [ah,hsl]at h;simp at h;omega
  (refine mP agP [] (by kernel_rfl) ?_;conv=>whnf)
  repeat' (first
   | (refine mZ.mk' i rfl (by rw [ah,hsl];exact hlt) ?_;conv=>whnf)
   | (refine mZ.mk' (i-1) (by show (i:Int)-1=_;omega) (by rw [ah,hsl];omega) ?_;conv=>whnf)
   | (refine mD.lT (ahs hlt) ?_;conv=>whnf)
   | (refine mD.lT (Tn hlt hi1) ?_;conv=>whnf)
   | (refine lV.i64 (x:=(i:Int)-1) (by omega) ?_;conv=>whnf)
   | (refine lV.i64 (x:=(i:Int)+1) (by omega) ?_;conv=>whnf)
   | (refine lV.to rfl ?_;conv=>whnf))
  refine lU (i+1) [] [] rfl (by show l.length -(i+1)<l.length-i;omega) ⟨by omega, .inr hlt⟩ ⟨⟨rfl,rfl, ?_⟩,trivial⟩ ⟨rfl,trivial⟩
  rw [Zq hlt hi1,bT]
  rfl
 ·have hge:l.length<=i:=by simp only [ah,hsl]at h;simp at h;omega
  have e:QZ l i=sm 0 l:=by unfold QZ;rw [jh hge,bY,dD (by rw [yg];exact hge)]
  exact lX (.nN [.own 0,bv ok]) 1 _ [(0, .lab 0)] [] ⟨sm 0 l,ok,Wx hd,rfl,rfl,by rw [<-e]⟩ rfl (by trivial) (by trivial)
structure SX where
 b:By
 out:Li
theorem Wy (b:By)(n:Nat)(hb:b.length<=3000000)(hn:n<=512):mQ Tryz.prog GC 179 [bs b,iv n] 0 [] (Kq b2 b n):=by
 refine lQ func179 rfl mixed (by kernel_rfl) ?_
 refine mY [] (by kernel_rfl) (NT b hb) (by trivial) ?_
 refine mO acu 2 [7] (fun _:SX=> [(7, .own 1)]) (fun x=> [(1, .rows 3 1 (x.out.map qX)),(0,vw x.b 0)]) (fun x=>x.out.length<=n∧nP x.out∧x.b.length<=3000000∧Pr b n b2 (Q2 x.b x.out 0)) (fun x=>n-x.out.length) [(1, .nil)] [] ⟨b,[]⟩ (by kernel_rfl) (fun _=>rfl) rfl ⟨au _,nP.nil,hb,(Pr.start b n b2).mono fun l0 r _ _ h=>Q2.start h⟩ ⟨rfl,(by trivial),trivial⟩ ⟨trivial,trivial⟩ ?_
 rintro⟨b',out⟩ ⟨h1,h2,h3,h4⟩
 change out.length<=n at h1
 change nP out at h2
 change b'.length<=3000000 at h3
 change Pr b n b2 (Q2 b' out 0)at h4
 apply lK<;>intro h
 rotate_left
 ·have hlt:out.length=n:=by simp at h;omega
  exact lX (.nN [.own 0,bv true]) 1 _ [(0, .lab 1)] [] ⟨out,true,⟨h2,h1,h4.mono fun l0 r _ hl h=>⟨rfl,(h.fin (by omega)).1⟩⟩,rfl,rfl,rfl⟩ rfl (by trivial) (by trivial)
 have hlt:out.length<n:=by simp at h;omega
 refine pW [0] [] (by kernel_rfl) (uK b' 0 h3) rfl (by trivial) (by trivial) rfl ?_
 refine pW [0] [] (by kernel_rfl) (uK (b'.drop (ny b' 0).2.1) (ny b' 0).2.2 (qh h3)) rfl (by trivial) (by trivial) rfl ?_
 conv=>whnf
 have hx:=(oN b' 0).1
 have hb2:((b'.drop (ny b' 0).2.1).drop (ny (b'.drop (ny b' 0).2.1) (ny b' 0).2.2).2.1).length<=3000000:=qh (qh h3)
 have step:Pr b n b2 fun l0 r=> ∃m:Nat,(ny (b'.drop (ny b' 0).2.1) (ny b' 0).2.2).2.2=0∧(ny (b'.drop (ny b' 0).2.1) (ny b' 0).2.2).1=((m+1:Nat):Int)∧m+1+out.length<=n∧
   Q2 ((b'.drop (ny b' 0).2.1).drop (ny (b'.drop (ny b' 0).2.1) (ny b' 0).2.2).2.1) (out++List.replicate (m+1) (ny b' 0).1) 0 l0 r:=fun l0 r ha hl hb0=>by
  have:=(h4 l0 r ha hl hb0).step ha (by omega) (by omega)
  rw [hl]at this
  exact this
 generalize (ny b' 0).1=x at *
 generalize hq:ny (b'.drop (ny b' 0).2.1) (ny b' 0).2.2=t at *
 obtain⟨kk,j,e⟩:=t
 simp only at step hb2 ⊢
 generalize (b'.drop (ny b' 0).2.1).drop j=b2' at *
 refine pW [0] [] (by kernel_rfl) (Dn b2' e) rfl (by trivial) (by trivial) rfl ?_
 conv=>whnf
 have bad:(¬(e=0∧1<=kk∧kk<=(n:Int) -(out.length:Int)))->Tc b2 b n [] false:=fun hbad=>⟨nP.nil,au _,fun l0 r ha hl hb0=>by
  obtain⟨m,m1,m2,m3,_⟩:=step l0 r ha hl hb0
  exact absurd ⟨m1,by omega,by omega⟩ hbad⟩
 apply lK<;>intro h
 ·have he:e≠0:=by simpa using h
  exact lX (.nN [.own 0,bv false]) 1 [(0, .rows 3 1 [])] [(0, .nil)] [] ⟨[],false,bad fun h=>he h.1,rfl,rfl,rfl⟩ rfl (by trivial) (by trivial)
 have he:e=0:=by simpa using h
 subst he
 apply lK<;>intro h
 ·have hk:kk<1:=by simpa using h
  exact lX (.nN [.own 0,bv false]) 1 [(0, .rows 3 1 [])] [(0, .nil)] [] ⟨[],false,bad fun h=>by omega,rfl,rfl,rfl⟩ rfl (by trivial) (by trivial)
 have hk:1<=kk:=by simp at h;omega
 refine lV.to (y:=(n:Int) -(out.length:Int)) (by rw [ah];exact IntWalk.i64_in _ (by show _<=(n:Int) -(out.length:Int)∧(n:Int) -(out.length:Int)<=_;omega)) ?_
 apply lK<;>intro h
 ·have hk2:(n:Int) -(out.length:Int)<kk:=by simp at h;omega
  exact lX (.nN [.own 0,bv false]) 1 [(0, .rows 3 1 [])] [(0, .nil)] [] ⟨[],false,bad fun h=>by omega,rfl,rfl,rfl⟩ rfl (by trivial) (by trivial)
 have hk2:kk<=(n:Int) -(out.length:Int):=by simp at h;omega
 obtain⟨k,rfl⟩ : ∃k:Nat,kk=(k:Int):=⟨kk.toNat,by omega⟩
 refine mY [2] (by kernel_rfl) (adU x k (by omega) (by omega)) (by trivial) ?_
 refine lN.mk (lS (by simp only [ln];omega) (by kernel_rfl)) ?_
 refine lU ⟨b2',out++List.replicate k x⟩ [(1, .lab 4)] [] rfl (by show n -(out++List.replicate k x).length<n-out.length;rw [ak,cu];omega)
  ⟨by show (out++List.replicate k x).length<=n;rw [ak,cu];omega,h2.app (nP.rep hx k),hb2,fun l0 r ha hl hb0=> ?_⟩ ⟨⟨rfl,rfl,by rw [aJ]⟩,(by trivial),trivial⟩ ⟨rfl,trivial⟩
 obtain⟨m,m1,m2,m3,m4⟩:=step l0 r ha hl hb0
 have:m+1=k:=by omega
 rw [this]at m4
 exact m4
theorem rW (b:By)(e most em:Int)(hm:0<=most)(hem:em≠0):0<=(qg b e most em).1∧(qg b e most em).1<=most∧(qg b e most em).2.1=(ny b e).2.1∧((qg b e most em).2.2=0->(ny b e).2.2=0∧(qg b e most em).1=(ny b e).1):=by
 rw [sZ]
 generalize ny b e=t
 obtain⟨x,k,e'⟩:=t
 simp only
 by_cases h1:e'=0
 ·by_cases h2:x<0
  ·simp [h1,h2,hm]
  ·by_cases h3:most<x
   ·simp [h1,h2,h3,hm,hem]
   ·simp [h1,h2,h3];omega
 ·simp [h1,hm]
theorem Tt (b:By)(n:Nat)(hb:b.length<=3000000)(hn:n<=512):mQ Tryz.prog GC 183 [bs b,iv n] 0 [] (Kq b4 b n):=by
 have hstart:=Q4k.start (b:=b) (n:=n) hn (most:=(n:Int)) (em:=5) (je _)
 have hcb:(b.drop (qg b 0 n 5).2.1).length<=3000000:=qh hb
 have hcnt:=EM b 0 n hb (by omega)
 have hkk:=rW b 0 (n:Int) 5 (by omega) (by decide)
 generalize qg b 0 n 5=t at *
 obtain⟨kk,j,e0⟩:=t
 simp only at hstart hcb hcnt hkk
 have hkk:=And.intro hkk.1 hkk.2.1
 generalize b.drop j=b0 at *
 obtain⟨k,rfl⟩ : ∃k:Nat,kk=(k:Int):=⟨kk.toNat,by omega⟩
 refine lQ func183 rfl mixed (by kernel_rfl) ?_
 refine mY [] (by kernel_rfl) (NT b hb) (by trivial) ?_
 refine pW [0] [] (by kernel_rfl) hcnt rfl (by trivial) (by trivial) rfl ?_
 refine mO acz 2 [8] (fun _:RX=> [(8, .own 1)]) (fun x=> [(1, .rows 3 1 (x.out.map qX)),(0,vw x.b x.e)]) (fun x=>x.out.length<=k∧nP x.out∧x.b.length<=3000000∧Pr b n b4 (Q4k k x.b x.out x.e)) (fun x=>k-x.out.length) [(1, .nil)] [] ⟨b0,e0,[]⟩ (by kernel_rfl) (fun _=>rfl) rfl ⟨au _,nP.nil,hcb,fun l0 r ha hl hb0=>(hstart l0 r ha hl hb0).2⟩ ⟨rfl,(by trivial),trivial⟩ ⟨trivial,trivial⟩ ?_
 rintro⟨b',e,keys⟩ ⟨h1,h2,h3,h4⟩
 change keys.length<=k at h1
 change nP keys at h2
 change b'.length<=3000000 at h3
 change Pr b n b4 (Q4k k b' keys e)at h4
 apply lK<;>intro h
 ·have hlt:keys.length<k:=by simp at h;omega
  refine pW [0] [] (by kernel_rfl) (Dn b' e) rfl (by trivial) (by trivial) rfl ?_
  apply lK<;>intro h
  ·have he:e=0:=by simpa using h
   refine pW [0] [] (by kernel_rfl) (uK b' e h3) rfl (by trivial) (by trivial) rfl ?_
   refine lN.mk (lS (by simp only [ln];omega) (by kernel_rfl)) ?_
   refine lU ⟨b'.drop (ny b' e).2.1,(ny b' e).2.2,keys++ [(ny b' e).1]⟩ [(1, .lab 3)] [] rfl (by show k -(keys++ [(ny b' e).1]).length<k-keys.length;rw [ak];simp;omega)
    ⟨by show (keys++ [(ny b' e).1]).length<=k;rw [ak];simp;omega,h2.snoc (oN b' e).1,qh h3,fun l0 r ha hl hb0=> ?_⟩ ⟨⟨rfl,rfl,(zT keys _).symm⟩,(by trivial),trivial⟩ ⟨rfl,trivial⟩
   obtain⟨hk,hq⟩:=h4 l0 r ha hl hb0
   exact⟨hk,hq.step (fun y hy=>ha y ((uU l0 y).1 hy)) (by omega)⟩
  have he:e≠0:=by simpa using h
  have hx:e=0->keys.length=k:=fun h=>absurd h he
  refine mO Uw 3 [9] (fun _:RX=> [(9, .own 2)]) (fun x=> [(2, .rows 3 1 (x.out.map qX)),(1, .rows 3 1 (keys.map qX)),(0,vw x.b x.e)]) (fun x=>x.out.length<=n∧nP x.out∧x.b.length<=3000000∧Pr b n b4 (Q4 keys x.b x.out x.e)) (fun x=>n-x.out.length) [(2, .nil)] [] ⟨b',e,[]⟩ (by kernel_rfl) (fun _=>rfl) rfl ⟨au _,nP.nil,h3,h4.mono fun l0 r _ _ h=>Q4.start (fun he=>by rw [hx he]) h⟩ ⟨rfl,⟨rfl,rfl,rfl⟩,(by trivial),trivial⟩ ⟨trivial,trivial⟩ ?_
  clear h3 h4 hx h1
  rintro⟨b',e,out⟩ ⟨h1,h5,h3,h4⟩
  change out.length<=n at h1
  change nP out at h5
  change b'.length<=3000000 at h3
  change Pr b n b4 (Q4 keys b' out e)at h4
  apply lK<;>intro h
  rotate_left
  ·have hlt:out.length=n:=by simp at h;omega
   exact lX (.nN [.own 0,bv true]) 1 _ [(0, .lab 2)] [] ⟨out,true,⟨h5,h1,h4.mono fun l0 r _ hl h=>⟨rfl,(h.fin (by omega)).1⟩⟩,rfl,rfl,rfl⟩ rfl (by trivial) (by trivial)
  have hlt:out.length<n:=by simp at h;omega
  have step:Pr b n b4 fun l0 r=> ∃(i:Nat) (x:Int),(ny b' e).2.2=0∧(ny b' e).1=(i:Int)∧keys[i]? = some x∧Q4 keys (b'.drop (ny b' e).2.1) (out++ [x]) 0 l0 r:=fun l0 r ha hl hb0=>(h4 l0 r ha hl hb0).step (by omega) (by omega)
  have hnum:=uK b' e h3
  have hb2:(b'.drop (ny b' e).2.1).length<=3000000:=qh h3
  generalize ny b' e=t at *
  obtain⟨ii,j,e2⟩:=t
  simp only at step hnum hb2
  generalize b'.drop j=b2' at *
  refine pW [0] [] (by kernel_rfl) hnum rfl (by trivial) (by trivial) rfl ?_
  refine pW [0] [] (by kernel_rfl) (Dn b2' e2) rfl (by trivial) (by trivial) rfl ?_
  conv=>whnf
  have bad:(¬(e2=0∧0<=ii∧ii<(keys.length:Int)))->Tc b4 b n [] false:=fun hbad=>⟨nP.nil,au _,fun l0 r ha hl hb0=>by
   obtain⟨i,x,m1,m2,m3,_⟩:=step l0 r ha hl hb0
   have:=(aO.1 m3).1
   exact absurd ⟨m1,by omega,by omega⟩ hbad⟩
  apply lK<;>intro h
  ·have he:e2≠0:=by simpa using h
   exact lX (.nN [.own 0,bv false]) 1 [(0, .rows 3 1 [])] [(0, .nil)] [] ⟨[],false,bad fun h=>he h.1,rfl,rfl,rfl⟩ rfl (by trivial) (by trivial)
  have he:e2=0:=by simpa using h
  subst he
  apply lK<;>intro h
  ·have hk:ii<0:=by simpa using h
   exact lX (.nN [.own 0,bv false]) 1 [(0, .rows 3 1 [])] [(0, .nil)] [] ⟨[],false,bad fun h=>by omega,rfl,rfl,rfl⟩ rfl (by trivial) (by trivial)
  have hk:0<=ii:=by simp at h;omega
  apply lK<;>intro h
  ·have hk2:(keys.length:Int)<=ii:=by simp at h;omega
   exact lX (.nN [.own 0,bv false]) 1 [(0, .rows 3 1 [])] [(0, .nil)] [] ⟨[],false,bad fun h=>by omega,rfl,rfl,rfl⟩ rfl (by trivial) (by trivial)
  have hk2:ii<(keys.length:Int):=by simp at h;omega
  obtain⟨i,rfl⟩ : ∃i:Nat,ii=(i:Int):=⟨ii.toNat,by omega⟩
  have hil:i<keys.length:=by omega
  refine mZ.mk' i rfl (pU hil) ?_
  refine mD.map hil ?_
  refine lN.mk (lS (by simp only [ln];omega) (by kernel_rfl)) ?_
  refine lU ⟨b2',0,out++ [keys[i]]⟩ [(2, .lab 4)] [] rfl (by show n -(out++ [keys[i]]).length<n-out.length;rw [ak];simp;omega)
   ⟨by show (out++ [keys[i]]).length<=n;rw [ak];simp;omega,h5.snoc (h2 _ (aT hil)),hb2,fun l0 r ha hl hb0=> ?_⟩ ⟨⟨rfl,rfl,(zT out _).symm⟩,⟨rfl,rfl,rfl⟩,(by trivial),trivial⟩ ⟨rfl,trivial⟩
  obtain⟨i',x,m1,m2,m3,m4⟩:=step l0 r ha hl hb0
  have:i'=i:=by omega
  subst this
  rw [aj hil]at m3
  injection m3 with m3
  rw [m3]
  exact m4
 ·have hlt:keys.length=k:=by simp at h;omega
  have hx:e=0->keys.length=k:=fun _=>hlt
  refine mO Uw 3 [9] (fun _:RX=> [(9, .own 2)]) (fun x=> [(2, .rows 3 1 (x.out.map qX)),(1, .rows 3 1 (keys.map qX)),(0,vw x.b x.e)]) (fun x=>x.out.length<=n∧nP x.out∧x.b.length<=3000000∧Pr b n b4 (Q4 keys x.b x.out x.e)) (fun x=>n-x.out.length) [(2, .nil)] [] ⟨b',e,[]⟩ (by kernel_rfl) (fun _=>rfl) rfl ⟨au _,nP.nil,h3,h4.mono fun l0 r _ _ h=>Q4.start (fun he=>by rw [hx he]) h⟩ ⟨rfl,⟨rfl,rfl,rfl⟩,(by trivial),trivial⟩ ⟨trivial,trivial⟩ ?_
  clear h3 h4 hx h1
  rintro⟨b',e,out⟩ ⟨h1,h5,h3,h4⟩
  change out.length<=n at h1
  change nP out at h5
  change b'.length<=3000000 at h3
  change Pr b n b4 (Q4 keys b' out e)at h4
  apply lK<;>intro h
  rotate_left
  ·have hlt:out.length=n:=by simp at h;omega
   exact lX (.nN [.own 0,bv true]) 1 _ [(0, .lab 2)] [] ⟨out,true,⟨h5,h1,h4.mono fun l0 r _ hl h=>⟨rfl,(h.fin (by omega)).1⟩⟩,rfl,rfl,rfl⟩ rfl (by trivial) (by trivial)
  have hlt:out.length<n:=by simp at h;omega
  have step:Pr b n b4 fun l0 r=> ∃(i:Nat) (x:Int),(ny b' e).2.2=0∧(ny b' e).1=(i:Int)∧keys[i]? = some x∧Q4 keys (b'.drop (ny b' e).2.1) (out++ [x]) 0 l0 r:=fun l0 r ha hl hb0=>(h4 l0 r ha hl hb0).step (by omega) (by omega)
  have hnum:=uK b' e h3
  have hb2:(b'.drop (ny b' e).2.1).length<=3000000:=qh h3
  generalize ny b' e=t at *
  obtain⟨ii,j,e2⟩:=t
  simp only at step hnum hb2
  generalize b'.drop j=b2' at *
  refine pW [0] [] (by kernel_rfl) hnum rfl (by trivial) (by trivial) rfl ?_
  refine pW [0] [] (by kernel_rfl) (Dn b2' e2) rfl (by trivial) (by trivial) rfl ?_
  conv=>whnf
  have bad:(¬(e2=0∧0<=ii∧ii<(keys.length:Int)))->Tc b4 b n [] false:=fun hbad=>⟨nP.nil,au _,fun l0 r ha hl hb0=>by
   obtain⟨i,x,m1,m2,m3,_⟩:=step l0 r ha hl hb0
   have:=(aO.1 m3).1
   exact absurd ⟨m1,by omega,by omega⟩ hbad⟩
  apply lK<;>intro h
  ·have he:e2≠0:=by simpa using h
   exact lX (.nN [.own 0,bv false]) 1 [(0, .rows 3 1 [])] [(0, .nil)] [] ⟨[],false,bad fun h=>he h.1,rfl,rfl,rfl⟩ rfl (by trivial) (by trivial)
  have he:e2=0:=by simpa using h
  subst he
  apply lK<;>intro h
  ·have hk:ii<0:=by simpa using h
   exact lX (.nN [.own 0,bv false]) 1 [(0, .rows 3 1 [])] [(0, .nil)] [] ⟨[],false,bad fun h=>by omega,rfl,rfl,rfl⟩ rfl (by trivial) (by trivial)
  have hk:0<=ii:=by simp at h;omega
  apply lK<;>intro h
  ·have hk2:(keys.length:Int)<=ii:=by simp at h;omega
   exact lX (.nN [.own 0,bv false]) 1 [(0, .rows 3 1 [])] [(0, .nil)] [] ⟨[],false,bad fun h=>by omega,rfl,rfl,rfl⟩ rfl (by trivial) (by trivial)
  have hk2:ii<(keys.length:Int):=by simp at h;omega
  obtain⟨i,rfl⟩ : ∃i:Nat,ii=(i:Int):=⟨ii.toNat,by omega⟩
  have hil:i<keys.length:=by omega
  refine mZ.mk' i rfl (pU hil) ?_
  refine mD.map hil ?_
  refine lN.mk (lS (by simp only [ln];omega) (by kernel_rfl)) ?_
  refine lU ⟨b2',0,out++ [keys[i]]⟩ [(2, .lab 4)] [] rfl (by show n -(out++ [keys[i]]).length<n-out.length;rw [ak];simp;omega)
   ⟨by show (out++ [keys[i]]).length<=n;rw [ak];simp;omega,h5.snoc (h2 _ (aT hil)),hb2,fun l0 r ha hl hb0=> ?_⟩ ⟨⟨rfl,rfl,(zT out _).symm⟩,⟨rfl,rfl,rfl⟩,(by trivial),trivial⟩ ⟨rfl,trivial⟩
  obtain⟨i',x,m1,m2,m3,m4⟩:=step l0 r ha hl hb0
  have:i'=i:=by omega
  subst this
  rw [aj hil]at m3
  injection m3 with m3
  rw [m3]
  exact m4
theorem afb (c:UInt8){s:Nat}(hs:s<8):IntKind.u64.wrap (nD .and .u8 (Int.fdiv (c.toNat:Int) (2^min (Int.toNat (s:Int)) IntKind.u8.bits)) 1)=(((if c.toNat.testBit s=true then 1 else 0):Nat):Int):=by
 have e:IntKind.u8.bits=8:=rfl
 have e1:(1:Int)=((1:Nat):Int):=rfl
 have hc:=c.toNat_lt
 have hd:c.toNat/2^s<=c.toNat:=ku _ _
 have e2:Int.fdiv (c.toNat:Int) (2^s)=((c.toNat/2^s:Nat):Int):=by rw [gB _ (Int.pow_nonneg (by decide))];simp
 rw [e,dh,dW (by omega),e2,e1,UD _ _ (by omega) (by decide),and1,Tf,sH (by split<;>omega)]
theorem afc {c k:Nat}(hc:c<=1)(hk:k<64):IntKind.u64.wrap ((c:Int)*2^min (Int.toNat (k:Int)) IntKind.u64.bits)=((c*2^k:Nat):Int)∧c*2^k<18446744073709551616:=by
 have e:IntKind.u64.bits=64:=rfl
 have h1:2^k<=2^63:=dL (by decide) (by omega)
 have h2:=jd hc h1
 have h3:(1:Nat)*2^63<18446744073709551616:=by decide
 have e2:(c:Int)*2^k=((c*2^k:Nat):Int):=by simp
 rw [e,dh,dW (by omega),e2]
 exact⟨sH (by omega),by omega⟩
theorem or_bit {d c k:Nat}(hd:d<2^k)(hk:k<64)(hc:c*2^k<18446744073709551616):nD .or .u64 (d:Int) ((c*2^k:Nat):Int)=((d+c*2^k:Nat):Int):=by
 have h1:2^k<=2^63:=dL (by decide) (by omega)
 have h3:(2:Nat)^63<18446744073709551616:=by decide
 rw [ND d _ (by omega) hc,EH _ _ hd]
theorem Zr (x:Int)(d:Nat):IntKind.i64.wrap (IntKind.u64.wrap (IntKind.u64.wrap x+(d:Int)))=wQ (x+(d:Int)):=by
 have e:IntKind.u64.bits=64:=rfl
 have e1:IntKind.u64.signed=false:=rfl
 have:=yc (IntKind.u64.wrap (IntKind.u64.wrap x+(d:Int)))
 unfold wQ at this
 rw [this,yc]
 simp only [IntKind.wrap,e,e1,dY,bf,if_false]
 omega
theorem aht {b:By}(h:(qg (b.drop (ny b 0).2.1) (ny b 0).2.2 64 5).2.2=0) : ∃(w:Nat) (rest:By),w<=64∧(qg (b.drop (ny b 0).2.1) (ny b 0).2.2 64 5).1=(w:Int)∧I64 (ny b 0).1∧b=num (ny b 0).1++(num (w:Int)++rest):=by
 have hr:=rW (b.drop (ny b 0).2.1) (ny b 0).2.2 64 5 (by decide) (by decide)
 have h2:=hr.2.2.2 h
 have o2:=(oN (b.drop (ny b 0).2.1) (ny b 0).2.2).2.2.1 h2.1
 have o1:=oN b 0
 have o3:=o1.2.2.1 o2.1
 refine⟨(qg (b.drop (ny b 0).2.1) (ny b 0).2.2 64 5).1.toNat,(b.drop (ny b 0).2.1).drop (ny (b.drop (ny b 0).2.1) (ny b 0).2.2).2.1,by omega,by omega,o1.1, ?_⟩
 have e:(((qg (b.drop (ny b 0).2.1) (ny b 0).2.2 64 5).1.toNat:Nat):Int)=(ny (b.drop (ny b 0).2.1) (ny b 0).2.2).1:=by omega
 rw [e, <-o2.2.1]
 exact o3.2.1
theorem Zt {b rest:By}{least:Int}{n w:Nat}(hi:I64 least)(hw:w<=64)(hb:b=num least++(num (w:Int)++rest)):Pr b n b5 (Q5 least w rest):=fun l0 r ha hl h=>by
 rw [hb]at h
 have hlw:=Lj l0 ha
 cases l0 with
 | nil=>
  have e0:b5 []=num 0++(num ((0:Nat):Int)++ []):=by decide
  have r1:=rV hi (num (w:Int)++rest)
  have r2:=rV (n:=0) (by unfold I64;omega) (num ((0:Nat):Int)++r)
  rw [h,e0]at r1
  simp only [bY,aH]at r1
  rw [r2]at r1
  have e1:least=0:=by injection r1 with h _;exact h.symm
  subst e1
  rw [e0]at h
  simp only [bY,aH]at h
  have h:=bM h
  have r3:=rV (n:=(w:Int)) (nJ (by omega)) rest
  have r4:=rV (n:=((0:Nat):Int)) (by unfold I64;omega) r
  rw [h,r4]at r3
  have e2:w=0:=by injection r3 with h _;omega
  subst e2
  have h:=bM h
  exact⟨by decide,by decide,by rw [h];rfl⟩
 | cons x t=>
  have hlo:=ha _ (lo_le (l:=x::t) (x:=x) bG).2
  have e0:b5 (x::t)++r=num (lo (x::t))++(num (wd (x::t):Int)++(pk (x9 (lo (x::t)) (wd (x::t)) (x::t)) (vZ (x::t).length (wd (x::t))) ((x::t).length*wd (x::t))++r)):=by unfold b5;simp only [aH]
  rw [e0]at h
  have r1:=rV hi (num (w:Int)++rest)
  rw [h,rV hlo]at r1
  have e1:lo (x::t)=least:=by injection r1
  rw [e1]at h
  have h:=bM h
  have r3:=rV (n:=(w:Int)) (nJ (by omega)) rest
  rw [h,rV (n:=((wd (x::t):Nat):Int)) (nJ (by omega))]at r3
  have e2:wd (x::t)=w:=by injection r3 with h _;omega
  rw [e2]at h
  have h:=bM h
  exact⟨e1.symm,e2.symm,by rw [h,e1,e2]⟩
theorem ahu {b:By}{n:Nat} : Pr b n b5 fun _ _=>(qg (b.drop (ny b 0).2.1) (ny b 0).2.2 64 5).2.2=0:=fun l0 r ha hl h=>by
 have hlw:=Lj l0 ha
 have hlo:I64 (lo l0):=by
  cases l0 with
  | nil=>show I64 0;unfold I64;omega
  | cons x t=>exact ha _ (lo_le (l:=x::t) (x:=x) bG).2
 have r1:=Lm (b:=b) (e:=0) (z:=num (wd l0:Int)++(pk (x9 (lo l0) (wd l0) l0) (vZ l0.length (wd l0)) (l0.length*wd l0)++r)) hlo rfl (by rw [h];unfold b5;simp only [aH])
 rw [r1.2.1,r1.2.2]
 have r2:=Lm (e:=0) (nJ (by omega:wd l0<=9223372036854775807)) rfl (rfl:num (wd l0:Int)++(pk (x9 (lo l0) (wd l0) l0) (vZ l0.length (wd l0)) (l0.length*wd l0)++r)=_)
 rw [sZ]
 simp only
 rw [r2.1,r2.2.1,if_pos rfl,if_neg (by omega),if_neg (by omega)]
theorem WA (b:By)(n:Nat)(hb:b.length<=3000000)(hn:n<=512):mQ Tryz.prog GC 185 [bs b,iv n] 0 [] (Kq b5 b n):=by
 have herr:=ahu (b:=b) (n:=n)
 have ajm:=aht (b:=b)
 have hN:=uK b 0 hb
 have hC:=EM (b.drop (ny b 0).2.1) (ny b 0).2.2 64 (qh hb) (by decide)
 generalize hc:qg (b.drop (ny b 0).2.1) (ny b 0).2.2 64 5=t at *
 obtain⟨ww,j2,e2⟩:=t
 simp only at herr ajm hC
 generalize (ny b 0).1=least at *
 generalize hb1:b.drop (ny b 0).2.1=b1' at *
 generalize (ny b 0).2.2=e1 at *
 generalize b1'.drop j2=b2' at *
 clear hc hb1
 refine lQ func185 rfl mixed (by kernel_rfl) ?_
 refine mY [] (by kernel_rfl) (NT b hb) (by trivial) ?_
 refine pW [0] [] (by kernel_rfl) hN rfl (by trivial) (by trivial) rfl ?_
 refine pW [0] [] (by kernel_rfl) hC rfl (by trivial) (by trivial) rfl ?_
 refine pW [0] [] (by kernel_rfl) (Dn b2' e2) rfl (by trivial) (by trivial) rfl ?_
 apply lK<;>intro h
 ·have he:e2≠0:=by simpa using h
  exact lX (.nN [.own 0,bv false]) 1 [(0, .rows 3 1 [])] [(0, .nil)] [] ⟨[],false,⟨nP.nil,au _,fun l0 r ha hl hb0=>absurd (herr l0 r ha hl hb0) he⟩,rfl,rfl,rfl⟩ rfl (by trivial) (by trivial)
 have he:e2=0:=by simpa using h
 subst he
 obtain⟨w,rest,hw,rfl,hi,hbe⟩:=ajm rfl
 have hQ:=Zt (n:=n) hi hw hbe
 have n1:=(ni least).2
 have n2:=(ni (w:Int)).2
 have hbl:=congrArg List.length hbe
 simp only [ak]at hbl
 refine mY [] (by kernel_rfl) (rE [] least hi (by simp)) (by trivial) ?_
 refine mY [1] (by kernel_rfl) (rE (num least) (w:Int) (nJ (by omega)) (by omega)) (by trivial) ?_
 refine sN.mk' (num least++num (w:Int)).length b.length (by rw [ah]) (by rw [ah]) (by rw [ak];omega) (by rw [ah];exact aA _) ?_
 have hdrop:(b.map oh).drop (num least++num (w:Int)).length=rest.map oh:=by
  rw [<-bI,hbe, <-aH,lD]
 have hnw:n*w<=40000:=by
  have:=jd hn hw;omega
 have hs8:vZ n w<=5001:=by unfold vZ;omega
 rw [show cut (some (AV.v (.int .i64 (((num least++num (w:Int)).map oh).length:Nat)))) none (num least++num (w:Int)).length b.length (b.map oh)=rest.map oh from hdrop]
 refine lV.to (y:=((n*w:Nat):Int)) (by rw [<-dN];exact IntWalk.i64_in _ (by omega)) ?_
 refine lV.i64 (by omega) ?_
 refine lN.mk (by decide) ?_
 refine lV.to (y:=((vZ n w:Nat):Int)) (by
  have e:Int.tdiv (((n*w:Nat):Int)+7) 8=((vZ n w:Nat):Int):=rfl
  rw [e];exact IntWalk.i64_in _ (by omega)) ?_
 apply lK<;>intro h
 ·have hlt:rest.length<vZ n w:=by simp at h;omega
  exact lX (.nN [.own 0,bv false]) 1 [(0, .rows 3 1 [])] [(0, .nil)] [] ⟨[],false,⟨nP.nil,au _,fun l0 r ha hl hb0=>by have:=(hQ l0 r ha hl hb0).size;rw [hl]at this;omega⟩,rfl,rfl,rfl⟩ rfl (by trivial) (by trivial)
 have hrl:vZ n w<=rest.length:=by simp at h;omega
 refine mO acC 4 [9,39] (fun x:BX=> [(9, .own 3),(39,iv x.i)]) (fun x=> [(3, .rows 3 1 (x.out.map qX))]) (fun x=>x.i<=n∧x.out.length=x.i∧nP x.out∧Pr b n b5 (fun l0 _=>x.out=l0.take x.i)) (fun x=>n-x.i) [(3, .nil)] [] ⟨0,[]⟩ (by kernel_rfl) (fun _=>rfl) rfl ⟨au _,rfl,nP.nil,fun l0 r _ _ _=>rfl⟩ ⟨rfl,trivial⟩ ⟨trivial,rfl,trivial⟩ ?_
 rintro⟨i,out⟩ ⟨hin,hol,hall,hP⟩
 change i<=n at hin
 change out.length=i at hol
 change nP out at hall
 change Pr b n b5 (fun l0 _=>out=l0.take i)at hP
 apply lK<;>intro h
 rotate_left
 ·have:i=n:=by simp at h;omega
  subst this
  exact lX (.nN [.own 0,bv true]) 1 _ [(0, .lab 3)] [] ⟨out,true,⟨hall,by omega,fun l0 r ha hl hb0=>⟨rfl,by have:=hP l0 r ha hl hb0;rw [this, <-hl,aW]⟩⟩,rfl,rfl,rfl⟩ rfl (by trivial) (by trivial)
 have hlt:i<n:=by simp at h;omega
 refine mO acD 4 [11,43] (fun x:NX=> [(11,uv x.u),(43,iv x.i)]) (fun _=> [(3, .rows 3 1 (out.map qX))]) (fun x=>x.i<=w∧x.u<2^x.i∧Pr b n b5 (fun l0 _=>x.u=dif least (l0.getD i 0)%2^x.i)) (fun x=>w-x.i) [] [] ⟨0,0⟩ (by kernel_rfl) (fun _=>rfl) rfl ⟨au _,Nat.one_pos,fun l0 r _ _ _=>by show 0=_%2^0;rw [Nat.pow_zero,Nat.mod_one]⟩ ⟨⟨rfl,rfl,rfl⟩,trivial⟩ ⟨rfl,rfl,trivial⟩ ?_
 rintro⟨k,d⟩ ⟨hk,hd,hD⟩
 change k<=w at hk
 change d<2^k at hd
 change Pr b n b5 (fun l0 _=>d=dif least (l0.getD i 0)%2^k)at hD
 apply lK<;>intro h
 ·have hkw:k<w:=by simp at h;omega
  have hat:=UU hlt hkw
  have hmul:i*w+k<=640000:=by omega
  have hbit:Pr b n b5 fun l0 _=> ∃c,rest[(i*w+k)/8]? = some c∧c.toNat.testBit ((i*w+k)%8)=(dif least (l0.getD i 0)).testBit k:=fun l0 r ha hl hb0=>(hQ l0 r ha hl hb0).bit (by omega) hkw
  refine lV.to (y:=((i*w:Nat):Int)) (by show IntKind.i64.wrap ((i:Int)*(w:Int))=_;rw [<-dN];exact IntWalk.i64_in _ (by omega)) ?_
  refine lV.to (y:=((i*w+k:Nat):Int)) (by show IntKind.i64.wrap (((i*w:Nat):Int)+(k:Int))=_;rw [<-fM];exact IntWalk.i64_in _ (by omega)) ?_
  conv=>whnf
  generalize i*w+k=p at *
  refine lN.mk (by decide) ?_
  refine lV.to (y:=((p/8:Nat):Int)) (by
   have e:Int.tdiv (p:Int) 8=((p/8:Nat):Int):=rfl
   rw [e];exact IntWalk.i64_in _ (by omega)) ?_
  conv=>whnf
  have EN:p/8<rest.length:=by omega
  refine mZ.mk' (p/8) rfl (pU EN) ?_
  refine mD.map EN ?_
  conv=>whnf
  have Zu:Pr b n b5 fun l0 _=>(rest[p/8]).toNat.testBit (p%8)=(dif least (l0.getD i 0)).testBit k:=fun l0 r ha hl hb0=>by
   obtain⟨c,c1,c2⟩:=hbit l0 r ha hl hb0
   rw [aj EN]at c1
   injection c1 with c1
   rw [c1];exact c2
  generalize rest[p/8]=c at *
  refine lN.mk (by decide) ?_
  refine lN.mk (by show (0:Int)<=((p%8:Nat):Int);omega) ?_
  refine lV.to (afb c (s:=p%8) (iM _ (by decide))) ?_
  conv=>whnf
  have Zv:k<64:=by omega
  have hsh:=afc (c:=if c.toNat.testBit (p%8)=true then 1 else 0) (k:=k) (by split<;>omega) Zv
  refine lN.mk (by show (0:Int)<=(k:Int);omega) ?_
  refine lV.to hsh.1 ?_
  conv=>whnf
  rw [or_bit hd Zv hsh.2]
  refine lV.i64 (x:=(k:Int)+1) (by omega) ?_
  refine lU ⟨k+1,d+(if c.toNat.testBit (p%8)=true then 1 else 0)*2^k⟩ [] [] rfl (by show w -(k+1)<w-k;omega) ⟨hkw, ?_,fun l0 r ha hl hb0=> ?_⟩ ⟨⟨rfl,rfl,rfl⟩,trivial⟩ ⟨rfl,rfl,trivial⟩
  ·show d+(if c.toNat.testBit (p%8)=true then 1 else 0)*2^k<2^(k+1)
   rw [gZ]
   split<;>omega
  ·show d+(if c.toNat.testBit (p%8)=true then 1 else 0)*2^k=dif least (l0.getD i 0)%2^(k+1)
   rw [UN, <-hD l0 r ha hl hb0,Zu l0 r ha hl hb0]
 ·have:k=w:=by simp at h;omega
  subst this
  refine lV.to rfl ?_
  refine lV.to rfl ?_
  refine lV.to (Zr _ _) ?_
  refine lN.mk (lS (by simp only [ln];omega) (by kernel_rfl)) ?_
  refine lV.i64 (x:=(i:Int)+1) (by omega) ?_
  refine lU ⟨i+1,out++ [wQ (least+(d:Int))]⟩ [(3, .lab 5)] [] rfl (by show n -(i+1)<n-i;omega) ⟨hlt,by show (out++ [wQ (least+(d:Int))]).length=i+1;simp [hol],hall.snoc (Ll _),fun l0 r ha hl hb0=> ?_⟩ ⟨⟨rfl,rfl,(zT out _).symm⟩,trivial⟩ ⟨rfl,rfl,trivial⟩
  show out++ [wQ (least+(d:Int))]=l0.take (i+1)
  have hil:i<l0.length:=by omega
  rw [aG hil, <-hP l0 r ha hl hb0]
  congr 2
  have:=(hQ l0 r ha hl hb0).val ha (i:=i) (x:=l0[i]) (aj hil)
  rw [<-hD l0 r ha hl hb0]at this
  exact this
section
theorem Zw (a b:By):yL ⟨a.toArray⟩ ⟨b.toArray⟩=decide (a=b):=by
 rw [abf]
 by_cases h:a=b
 ·subst h;simp
 ·rw [decide_eq_false h]
  refine decide_eq_false fun e=>h ?_
  injection e with e
  simpa using congrArg Array.toList e
theorem equalA (a b:By):mQ Tryz.prog GC 36 [bs a,bs b] 0 [] (Is (bv (decide (a=b)))):=by
 refine lQ func36 rfl mixed (by kernel_rfl) ?_
 refine F7.of ?_
 refine F7.of ?_
 exact lZ [] (congrArg Value.bool (Zw a b))
theorem y5 (b x:By):mQ Tryz.prog GC 166 [bs b,bs x] 0 [] (Is (bv (decide (b.take x.length=x)))):=by
 refine lQ func166 rfl mixed (by kernel_rfl) ?_
 apply lK<;>intro h
 ·have hl:x.length<=b.length:=by simp at h;omega
  refine sN.mk' 0 x.length rfl (by rw [ah]) (au _) (by rw [ah];exact hl) ?_
  conv=>whnf
  have he:=equalA (b.take x.length) x
  refine mF [] (by kernel_rfl) he rfl ⟨⟨rfl,(dU).symm⟩,⟨rfl,rfl⟩,trivial⟩ ?_
  exact lZ [] (by trivial)
 ·have hl:b.length<x.length:=by simp at h;omega
  refine lZ [] (congrArg Value.bool ?_)
  refine(decide_eq_false fun e=> ?_).symm
  have:=congrArg List.length e
  rw [aK]at this
  omega
theorem WB (l:Li) : ∃(k:Nat) (body:By),1<=k∧k<=5∧ints l=num (k:Int)++(num (l.length:Int)++body)∧(l≠ []->body=bd k l):=by
 by_cases h:l = []
 ·subst h
  exact⟨1,[],by omega,by omega,by decide,fun h=>absurd rfl h⟩
 ·obtain⟨k,h1,h2,h3⟩:=UM h
  exact⟨k,bd k l,h1,h2,by rw [h3];unfold en;rw [aH],fun _=>rfl⟩
def Gd (b:By)(Q:Li->By->Prop):Prop:= ∀l0 r,nP l0->l0.length<=512->b=ints l0++r->Q l0 r
theorem adX (b:By):Gd b fun l0 r=>(qg (b.drop (ny b 0).2.1) (ny b 0).2.2 512 5).2.2=0∧∃k:Nat,1<=k∧k<=5∧(ny b 0).1=(k:Int)∧(qg (b.drop (ny b 0).2.1) (ny b 0).2.2 512 5).1=(l0.length:Int)∧(l0≠ []->b=num (k:Int)++(num (l0.length:Int)++(bd k l0++r))):=fun l0 r ha hl h=>by
 obtain⟨k,body,k1,k2,he,hbd⟩:=WB l0
 have hb:b=num (k:Int)++(num (l0.length:Int)++(body++r)):=by rw [h,he];simp only [aH]
 have r1:=Lm (b:=b) (e:=0) (z:=num (l0.length:Int)++(body++r)) (nJ (by omega:k<=9223372036854775807)) rfl hb
 have r2:=Lm (e:=0) (nJ (by omega:l0.length<=9223372036854775807)) rfl (rfl:num (l0.length:Int)++(body++r)=_)
 rw [r1.1,r1.2.1,r1.2.2]
 rw [sZ]
 simp only
 rw [r2.1,r2.2.1,if_pos rfl,if_neg (by omega),if_neg (by omega),if_pos rfl]
 exact⟨rfl,k,k1,k2,rfl,rfl,fun hne=>by rw [hb,hbd hne]⟩
theorem Zx {b:By}(h:(qg (b.drop (ny b 0).2.1) (ny b 0).2.2 512 5).2.2=0) : ∃(n:Nat) (rest:By),n<=512∧(qg (b.drop (ny b 0).2.1) (ny b 0).2.2 512 5).1=(n:Int)∧I64 (ny b 0).1∧b=num (ny b 0).1++(num (n:Int)++rest):=by
 have hr:=rW (b.drop (ny b 0).2.1) (ny b 0).2.2 512 5 (by decide) (by decide)
 have h2:=hr.2.2.2 h
 have o2:=(oN (b.drop (ny b 0).2.1) (ny b 0).2.2).2.2.1 h2.1
 have o1:=oN b 0
 have o3:=o1.2.2.1 o2.1
 refine⟨(qg (b.drop (ny b 0).2.1) (ny b 0).2.2 512 5).1.toNat,(b.drop (ny b 0).2.1).drop (ny (b.drop (ny b 0).2.1) (ny b 0).2.2).2.1,by omega,by omega,o1.1, ?_⟩
 have e:(((qg (b.drop (ny b 0).2.1) (ny b 0).2.2 512 5).1.toNat:Nat):Int)=(ny (b.drop (ny b 0).2.1) (ny b 0).2.2).1:=by omega
 rw [e, <-o2.2.1]
 exact o3.2.1
def Ji (b:By)(l:Li)(n:Nat)(e:Int):Prop:=nP l∧l.length<=512∧((e=0∧n=(ints l).length∧b.take (ints l).length=ints l)∨(e=1∧l = []∧n=0))∧Gd b fun l0 _=>e=0∧l=l0
def RIa (b:By)(a:AV)(m:Nat)(H:lM):Prop:= ∃l n e,Ji b l n e∧a = .nN [li l,iv (n:Nat),iv e]∧m=0∧H = []
theorem Ji.bad {b:By}(h:Gd b fun _ _=>False):Ji b [] 0 1:=⟨nP.nil,au _, .inr ⟨rfl,rfl,rfl⟩,fun l0 r ha hl hb=>(h l0 r ha hl hb).elim⟩
theorem Ji.two (b:By){l:Li}{n:Nat}{e:Int}(h1:Ji b l n e){l':Li}{n':Nat}{e':Int}(h2:Ji b l' n' e'):l=l'∧n=n'∧e=e':=by
 obtain⟨a1,a2,a3,a4⟩:=h1
 obtain⟨b1,b2,b3,b4⟩:=h2
 rcases a3 with ⟨rfl,rfl,p1⟩|⟨rfl,rfl,rfl⟩
 ·have:=b4 l (b.drop (ints l).length) a1 a2 (by rw [<-p1];rw [p1];conv=>lhs;rw [<-gy (ints l).length b,p1])
  obtain⟨rfl,rfl⟩:=this
  rcases b3 with ⟨_,rfl,_⟩|⟨h,_⟩
  ·exact⟨rfl,rfl,rfl⟩
  ·omega
 ·rcases b3 with ⟨rfl,rfl,p1⟩|⟨rfl,rfl,rfl⟩
  ·have:=a4 l' (b.drop (ints l').length) b1 b2 (by conv=>lhs;rw [<-gy (ints l').length b,p1])
   omega
  ·exact⟨rfl,rfl,rfl⟩
theorem ahv (b:By)(n:Nat)(hb:b.length<=3000000)(hn:n<=512):(mQ Tryz.prog GC 177 [bs b,iv n] 0 [] (Kq (bd 1) b n))∧(mQ Tryz.prog GC 179 [bs b,iv n] 0 [] (Kq (bd 2) b n))∧(mQ Tryz.prog GC 181 [bs b,iv n] 0 [] (Kq (bd 3) b n))∧(mQ Tryz.prog GC 183 [bs b,iv n] 0 [] (Kq (bd 4) b n))∧(mQ Tryz.prog GC 185 [bs b,iv n] 0 [] (Kq (bd 5) b n)):=
 ⟨Jh b n hb hn,Wy b n hb hn,Tq b n hb hn,Tt b n hb hn,WA b n hb hn⟩
attribute [local irreducible] best ints en bd
theorem uX (b:By)(hb:b.length<=100000):mQ Tryz.prog GC 138 [bs b] 0 [] (RIa b):=by
 have hhead:=adX b
 have hrd:=Zx (b:=b)
 have hN:=uK b 0 (by omega)
 have hC:=EM (b.drop (ny b 0).2.1) (ny b 0).2.2 512 (qh (by omega)) (by decide)
 generalize hc:qg (b.drop (ny b 0).2.1) (ny b 0).2.2 512 5=t at *
 obtain⟨nn,j2,e2⟩:=t
 simp only at hhead hrd hC
 generalize (ny b 0).1=kk at *
 generalize hb1:b.drop (ny b 0).2.1=b1' at *
 generalize (ny b 0).2.2=e1 at *
 generalize b1'.drop j2=b2' at *
 clear hc hb1
 refine lQ func138 rfl mixed (by kernel_rfl) ?_
 refine mY [] (by kernel_rfl) (NT b (by omega)) (by trivial) ?_
 refine pW [0] [] (by kernel_rfl) hN rfl (by trivial) (by trivial) rfl ?_
 refine pW [0] [] (by kernel_rfl) hC rfl (by trivial) (by trivial) rfl ?_
 refine pW [0] [] (by kernel_rfl) (Dn b2' e2) rfl (by trivial) (by trivial) rfl ?_
 apply lK<;>intro h
 ·have he:e2≠0:=by simpa using h
  exact lX (.nN [li [],iv (0:Nat),iv 1]) 0 [] [] [] ⟨[],0,1,(Ji.bad fun l0 r ha hl h=>he (hhead l0 r ha hl h).1),rfl,rfl,rfl⟩ rfl trivial (by trivial)
 have he:e2=0:=by simpa using h
 subst he
 apply lK<;>intro h
 ·have hk:kk<1:=by simpa using h
  exact lX (.nN [li [],iv (0:Nat),iv 1]) 0 [] [] [] ⟨[],0,1,(Ji.bad fun l0 r ha hl h=>by obtain⟨_,k,k1,k2,k3,_⟩:=hhead l0 r ha hl h;omega),rfl,rfl,rfl⟩ rfl trivial (by trivial)
 have hk1:1<=kk:=by simp at h;omega
 apply lK<;>intro h
 ·have hk:5<kk:=by simpa using h
  exact lX (.nN [li [],iv (0:Nat),iv 1]) 0 [] [] [] ⟨[],0,1,(Ji.bad fun l0 r ha hl h=>by obtain⟨_,k,k1,k2,k3,_⟩:=hhead l0 r ha hl h;omega),rfl,rfl,rfl⟩ rfl trivial (by trivial)
 have hk2:kk<=5:=by simp at h;omega
 obtain⟨n,rest,hn,rfl,hi,hbe⟩:=hrd rfl
 have n1:=(ni kk).2
 have n2:=(ni (n:Int)).2
 have hbl:=congrArg List.length hbe
 simp only [ak]at hbl
 apply lK<;>intro h
 ·have hn0:0<n:=by simp at h;omega
  have hdrop:(b.map oh).drop (num kk++num (n:Int)).length=rest.map oh:=by
   rw [<-bI,hbe, <-aH,lD]
  have hcs:kk=1∨kk=2∨kk=3∨kk=4∨kk=5:=by omega
  have hreads:=ahv rest n (by omega) hn
  rcases hcs with rfl|rfl|rfl|rfl|rfl
  ·conv=>whnf
   have hread:=hreads.1
   (refine mP IL [1,2] (by kernel_rfl) ?_;conv=>whnf)
   refine lV.i64 (by decide) ?_
   refine mY [] (by kernel_rfl) (Aw) (by trivial) ?_
   refine mZ.mk' (1-1) rfl (by decide) ?_
   refine mY [] (by kernel_rfl) (rE [] 1 hi (by simp)) (by trivial) ?_
   refine mY [1] (by kernel_rfl) (rE (num 1) (n:Int) (nJ (by omega)) (by omega)) (by trivial) ?_
   refine sN.mk' (num 1++num (n:Int)).length b.length (by rw [ah]) (by rw [ah]) (by rw [ak];omega) (by rw [ah];exact aA _) ?_
   rw [show cut (some (AV.v (.int .i64 (((num 1++num (n:Int)).map oh).length:Nat)))) none (num 1++num (n:Int)).length b.length (b.map oh)=rest.map oh from hdrop]
   (refine nO [] (by kernel_rfl) (hread) ?_ ?_;(focus trivial))
   rintro _ _ _ ⟨l,ok,hd,rfl,rfl,rfl⟩
   have hll:=hd.2.1
   have hgood:Gd b fun l0 _=>ok=true∧l=l0:=fun l0 r ha hl h=>by
    obtain⟨_,k,k1,k2,k3,k4,k5⟩:=hhead l0 r ha hl h
    have e1:k=1:=by omega
    have e2:l0.length=n:=by omega
    have hne:l0≠ []:=fun e=>by subst e;simp at e2;omega
    have h5:=k5 hne
    rw [e1,e2]at h5
    rw [hbe]at h5
    have h5:=bM (bM h5)
    exact hd.2.2 l0 r ha e2 h5
   conv=>whnf
   cases ok
   ·exact lX (.nN [li [],iv (0:Nat),iv 1]) 0 [] [] [] ⟨[],0,1,Ji.bad fun l0 r ha hl h=>absurd (hgood l0 r ha hl h).1 (by decide),rfl,rfl,rfl⟩ rfl trivial (by trivial)
   conv=>whnf
   have hI:=xg l hd.1 (by omega)
   have hpre:=y5 b (ints l)
   refine mY [3] (by kernel_rfl) (hI) (by trivial) ?_
   (refine mF [] (by kernel_rfl) (hpre) rfl ?_ ?_;(focus trivial))
   apply lK<;>intro h
   ·have hp : ¬b.take (ints l).length=ints l:=by simpa using h
    exact lX (.nN [li [],iv (0:Nat),iv 1]) 0 [] [] [] ⟨[],0,1,Ji.bad fun l0 r ha hl h=>hp (by rw [(hgood l0 r ha hl h).2,h,iO]),rfl,rfl,rfl⟩ rfl trivial (by trivial)
   ·have hp:b.take (ints l).length=ints l:=by simpa using h
    exact lX (.nN [li l,iv ((ints l).length:Nat),iv 0]) 0 [] [] [] ⟨l,(ints l).length,0,⟨hd.1,by omega, .inl ⟨rfl,rfl,hp⟩,fun l0 r ha hl h=>⟨rfl,(hgood l0 r ha hl h).2⟩⟩,rfl,rfl,rfl⟩ rfl trivial ⟨⟨rfl,rfl⟩,congrArg (fun n:Nat=>Value.int .i64 (n:Int)) (ah _),rfl,trivial⟩
  ·conv=>whnf
   have hread:=hreads.2.1
   (refine mP IL [1,2] (by kernel_rfl) ?_;conv=>whnf)
   refine lV.i64 (by decide) ?_
   refine mY [] (by kernel_rfl) (Aw) (by trivial) ?_
   refine mZ.mk' (2-1) rfl (by decide) ?_
   refine mY [] (by kernel_rfl) (rE [] 2 hi (by simp)) (by trivial) ?_
   refine mY [1] (by kernel_rfl) (rE (num 2) (n:Int) (nJ (by omega)) (by omega)) (by trivial) ?_
   refine sN.mk' (num 2++num (n:Int)).length b.length (by rw [ah]) (by rw [ah]) (by rw [ak];omega) (by rw [ah];exact aA _) ?_
   rw [show cut (some (AV.v (.int .i64 (((num 2++num (n:Int)).map oh).length:Nat)))) none (num 2++num (n:Int)).length b.length (b.map oh)=rest.map oh from hdrop]
   (refine nO [] (by kernel_rfl) (hread) ?_ ?_;(focus trivial))
   rintro _ _ _ ⟨l,ok,hd,rfl,rfl,rfl⟩
   have hll:=hd.2.1
   have hgood:Gd b fun l0 _=>ok=true∧l=l0:=fun l0 r ha hl h=>by
    obtain⟨_,k,k1,k2,k3,k4,k5⟩:=hhead l0 r ha hl h
    have e1:k=2:=by omega
    have e2:l0.length=n:=by omega
    have hne:l0≠ []:=fun e=>by subst e;simp at e2;omega
    have h5:=k5 hne
    rw [e1,e2]at h5
    rw [hbe]at h5
    have h5:=bM (bM h5)
    exact hd.2.2 l0 r ha e2 h5
   conv=>whnf
   cases ok
   ·exact lX (.nN [li [],iv (0:Nat),iv 1]) 0 [] [] [] ⟨[],0,1,Ji.bad fun l0 r ha hl h=>absurd (hgood l0 r ha hl h).1 (by decide),rfl,rfl,rfl⟩ rfl trivial (by trivial)
   conv=>whnf
   have hI:=xg l hd.1 (by omega)
   have hpre:=y5 b (ints l)
   refine mY [3] (by kernel_rfl) (hI) (by trivial) ?_
   (refine mF [] (by kernel_rfl) (hpre) rfl ?_ ?_;(focus trivial))
   apply lK<;>intro h
   ·have hp : ¬b.take (ints l).length=ints l:=by simpa using h
    exact lX (.nN [li [],iv (0:Nat),iv 1]) 0 [] [] [] ⟨[],0,1,Ji.bad fun l0 r ha hl h=>hp (by rw [(hgood l0 r ha hl h).2,h,iO]),rfl,rfl,rfl⟩ rfl trivial (by trivial)
   ·have hp:b.take (ints l).length=ints l:=by simpa using h
    exact lX (.nN [li l,iv ((ints l).length:Nat),iv 0]) 0 [] [] [] ⟨l,(ints l).length,0,⟨hd.1,by omega, .inl ⟨rfl,rfl,hp⟩,fun l0 r ha hl h=>⟨rfl,(hgood l0 r ha hl h).2⟩⟩,rfl,rfl,rfl⟩ rfl trivial ⟨⟨rfl,rfl⟩,congrArg (fun n:Nat=>Value.int .i64 (n:Int)) (ah _),rfl,trivial⟩
  ·conv=>whnf
   have hread:=hreads.2.2.1
   (refine mP IL [1,2] (by kernel_rfl) ?_;conv=>whnf)
   refine lV.i64 (by decide) ?_
   refine mY [] (by kernel_rfl) (Aw) (by trivial) ?_
   refine mZ.mk' (3-1) rfl (by decide) ?_
   refine mY [] (by kernel_rfl) (rE [] 3 hi (by simp)) (by trivial) ?_
   refine mY [1] (by kernel_rfl) (rE (num 3) (n:Int) (nJ (by omega)) (by omega)) (by trivial) ?_
   refine sN.mk' (num 3++num (n:Int)).length b.length (by rw [ah]) (by rw [ah]) (by rw [ak];omega) (by rw [ah];exact aA _) ?_
   rw [show cut (some (AV.v (.int .i64 (((num 3++num (n:Int)).map oh).length:Nat)))) none (num 3++num (n:Int)).length b.length (b.map oh)=rest.map oh from hdrop]
   (refine nO [] (by kernel_rfl) (hread) ?_ ?_;(focus trivial))
   rintro _ _ _ ⟨l,ok,hd,rfl,rfl,rfl⟩
   have hll:=hd.2.1
   have hgood:Gd b fun l0 _=>ok=true∧l=l0:=fun l0 r ha hl h=>by
    obtain⟨_,k,k1,k2,k3,k4,k5⟩:=hhead l0 r ha hl h
    have e1:k=3:=by omega
    have e2:l0.length=n:=by omega
    have hne:l0≠ []:=fun e=>by subst e;simp at e2;omega
    have h5:=k5 hne
    rw [e1,e2]at h5
    rw [hbe]at h5
    have h5:=bM (bM h5)
    exact hd.2.2 l0 r ha e2 h5
   conv=>whnf
   cases ok
   ·exact lX (.nN [li [],iv (0:Nat),iv 1]) 0 [] [] [] ⟨[],0,1,Ji.bad fun l0 r ha hl h=>absurd (hgood l0 r ha hl h).1 (by decide),rfl,rfl,rfl⟩ rfl trivial (by trivial)
   conv=>whnf
   have hI:=xg l hd.1 (by omega)
   have hpre:=y5 b (ints l)
   refine mY [3] (by kernel_rfl) (hI) (by trivial) ?_
   (refine mF [] (by kernel_rfl) (hpre) rfl ?_ ?_;(focus trivial))
   apply lK<;>intro h
   ·have hp : ¬b.take (ints l).length=ints l:=by simpa using h
    exact lX (.nN [li [],iv (0:Nat),iv 1]) 0 [] [] [] ⟨[],0,1,Ji.bad fun l0 r ha hl h=>hp (by rw [(hgood l0 r ha hl h).2,h,iO]),rfl,rfl,rfl⟩ rfl trivial (by trivial)
   ·have hp:b.take (ints l).length=ints l:=by simpa using h
    exact lX (.nN [li l,iv ((ints l).length:Nat),iv 0]) 0 [] [] [] ⟨l,(ints l).length,0,⟨hd.1,by omega, .inl ⟨rfl,rfl,hp⟩,fun l0 r ha hl h=>⟨rfl,(hgood l0 r ha hl h).2⟩⟩,rfl,rfl,rfl⟩ rfl trivial ⟨⟨rfl,rfl⟩,congrArg (fun n:Nat=>Value.int .i64 (n:Int)) (ah _),rfl,trivial⟩
  ·conv=>whnf
   have hread:=hreads.2.2.2.1
   (refine mP IL [1,2] (by kernel_rfl) ?_;conv=>whnf)
   refine lV.i64 (by decide) ?_
   refine mY [] (by kernel_rfl) (Aw) (by trivial) ?_
   refine mZ.mk' (4-1) rfl (by decide) ?_
   refine mY [] (by kernel_rfl) (rE [] 4 hi (by simp)) (by trivial) ?_
   refine mY [1] (by kernel_rfl) (rE (num 4) (n:Int) (nJ (by omega)) (by omega)) (by trivial) ?_
   refine sN.mk' (num 4++num (n:Int)).length b.length (by rw [ah]) (by rw [ah]) (by rw [ak];omega) (by rw [ah];exact aA _) ?_
   rw [show cut (some (AV.v (.int .i64 (((num 4++num (n:Int)).map oh).length:Nat)))) none (num 4++num (n:Int)).length b.length (b.map oh)=rest.map oh from hdrop]
   (refine nO [] (by kernel_rfl) (hread) ?_ ?_;(focus trivial))
   rintro _ _ _ ⟨l,ok,hd,rfl,rfl,rfl⟩
   have hll:=hd.2.1
   have hgood:Gd b fun l0 _=>ok=true∧l=l0:=fun l0 r ha hl h=>by
    obtain⟨_,k,k1,k2,k3,k4,k5⟩:=hhead l0 r ha hl h
    have e1:k=4:=by omega
    have e2:l0.length=n:=by omega
    have hne:l0≠ []:=fun e=>by subst e;simp at e2;omega
    have h5:=k5 hne
    rw [e1,e2]at h5
    rw [hbe]at h5
    have h5:=bM (bM h5)
    exact hd.2.2 l0 r ha e2 h5
   conv=>whnf
   cases ok
   ·exact lX (.nN [li [],iv (0:Nat),iv 1]) 0 [] [] [] ⟨[],0,1,Ji.bad fun l0 r ha hl h=>absurd (hgood l0 r ha hl h).1 (by decide),rfl,rfl,rfl⟩ rfl trivial (by trivial)
   conv=>whnf
   have hI:=xg l hd.1 (by omega)
   have hpre:=y5 b (ints l)
   refine mY [3] (by kernel_rfl) (hI) (by trivial) ?_
   (refine mF [] (by kernel_rfl) (hpre) rfl ?_ ?_;(focus trivial))
   apply lK<;>intro h
   ·have hp : ¬b.take (ints l).length=ints l:=by simpa using h
    exact lX (.nN [li [],iv (0:Nat),iv 1]) 0 [] [] [] ⟨[],0,1,Ji.bad fun l0 r ha hl h=>hp (by rw [(hgood l0 r ha hl h).2,h,iO]),rfl,rfl,rfl⟩ rfl trivial (by trivial)
   ·have hp:b.take (ints l).length=ints l:=by simpa using h
    exact lX (.nN [li l,iv ((ints l).length:Nat),iv 0]) 0 [] [] [] ⟨l,(ints l).length,0,⟨hd.1,by omega, .inl ⟨rfl,rfl,hp⟩,fun l0 r ha hl h=>⟨rfl,(hgood l0 r ha hl h).2⟩⟩,rfl,rfl,rfl⟩ rfl trivial ⟨⟨rfl,rfl⟩,congrArg (fun n:Nat=>Value.int .i64 (n:Int)) (ah _),rfl,trivial⟩
  ·conv=>whnf
   have hread:=hreads.2.2.2.2
   (refine mP IL [1,2] (by kernel_rfl) ?_;conv=>whnf)
   refine lV.i64 (by decide) ?_
   refine mY [] (by kernel_rfl) (Aw) (by trivial) ?_
   refine mZ.mk' (5-1) rfl (by decide) ?_
   refine mY [] (by kernel_rfl) (rE [] 5 hi (by simp)) (by trivial) ?_
   refine mY [1] (by kernel_rfl) (rE (num 5) (n:Int) (nJ (by omega)) (by omega)) (by trivial) ?_
   refine sN.mk' (num 5++num (n:Int)).length b.length (by rw [ah]) (by rw [ah]) (by rw [ak];omega) (by rw [ah];exact aA _) ?_
   rw [show cut (some (AV.v (.int .i64 (((num 5++num (n:Int)).map oh).length:Nat)))) none (num 5++num (n:Int)).length b.length (b.map oh)=rest.map oh from hdrop]
   (refine nO [] (by kernel_rfl) (hread) ?_ ?_;(focus trivial))
   rintro _ _ _ ⟨l,ok,hd,rfl,rfl,rfl⟩
   have hll:=hd.2.1
   have hgood:Gd b fun l0 _=>ok=true∧l=l0:=fun l0 r ha hl h=>by
    obtain⟨_,k,k1,k2,k3,k4,k5⟩:=hhead l0 r ha hl h
    have e1:k=5:=by omega
    have e2:l0.length=n:=by omega
    have hne:l0≠ []:=fun e=>by subst e;simp at e2;omega
    have h5:=k5 hne
    rw [e1,e2]at h5
    rw [hbe]at h5
    have h5:=bM (bM h5)
    exact hd.2.2 l0 r ha e2 h5
   conv=>whnf
   cases ok
   ·exact lX (.nN [li [],iv (0:Nat),iv 1]) 0 [] [] [] ⟨[],0,1,Ji.bad fun l0 r ha hl h=>absurd (hgood l0 r ha hl h).1 (by decide),rfl,rfl,rfl⟩ rfl trivial (by trivial)
   conv=>whnf
   have hI:=xg l hd.1 (by omega)
   have hpre:=y5 b (ints l)
   refine mY [3] (by kernel_rfl) (hI) (by trivial) ?_
   (refine mF [] (by kernel_rfl) (hpre) rfl ?_ ?_;(focus trivial))
   apply lK<;>intro h
   ·have hp : ¬b.take (ints l).length=ints l:=by simpa using h
    exact lX (.nN [li [],iv (0:Nat),iv 1]) 0 [] [] [] ⟨[],0,1,Ji.bad fun l0 r ha hl h=>hp (by rw [(hgood l0 r ha hl h).2,h,iO]),rfl,rfl,rfl⟩ rfl trivial (by trivial)
   ·have hp:b.take (ints l).length=ints l:=by simpa using h
    exact lX (.nN [li l,iv ((ints l).length:Nat),iv 0]) 0 [] [] [] ⟨l,(ints l).length,0,⟨hd.1,by omega, .inl ⟨rfl,rfl,hp⟩,fun l0 r ha hl h=>⟨rfl,(hgood l0 r ha hl h).2⟩⟩,rfl,rfl,rfl⟩ rfl trivial ⟨⟨rfl,rfl⟩,congrArg (fun n:Nat=>Value.int .i64 (n:Int)) (ah _),rfl,trivial⟩
 ·have hn0:n=0:=by simp at h;omega
  subst hn0
  conv=>whnf
  have hI:=xg [] nP.nil (by decide)
  refine mY [] (by kernel_rfl) (hI) (by trivial) ?_
  conv=>whnf
  have hpre:=y5 b (ints [])
  (refine mF [] (by kernel_rfl) (hpre) rfl ?_ ?_;(focus trivial))
  apply lK<;>intro h
  ·have hp : ¬b.take (ints []).length=ints []:=by simpa using h
   exact lX (.nN [li [],iv (0:Nat),iv 1]) 0 [] [] [] ⟨[],0,1,(Ji.bad fun l0 r ha hl h=>by
    obtain⟨_,k,k1,k2,k3,k4,_⟩:=hhead l0 r ha hl h
    have e0:l0 = []:=aI (by omega)
    subst e0
    exact hp (by rw [h,iO])),rfl,rfl,rfl⟩ rfl trivial (by trivial)
  ·have hp:b.take (ints []).length=ints []:=by simpa using h
   refine lX (.nN [li [],iv ((ints []).length:Nat),iv 0]) 0 [] [] [] ⟨[],(ints []).length,0,⟨nP.nil,au _, .inl ⟨rfl,rfl,hp⟩,fun l0 r ha hl h=> ?_⟩,rfl,rfl,rfl⟩ rfl trivial ?_
   ·obtain⟨_,k,k1,k2,k3,k4,_⟩:=hhead l0 r ha hl h
    exact⟨rfl,(aI (by omega)).symm⟩
   ·exact⟨rfl,congrArg (fun n:Nat=>Value.int .i64 (n:Int)) (ah _),rfl,trivial⟩
end
theorem GH (a:By) : ¬a<a:=List.lt_irrefl a
theorem Zy {a b c:By}(h1:a<b)(h2:b<c):a<c:=List.lt_trans h1 h2
theorem adY {a b:By}(h1 : ¬a<b)(h2:a≠b):b<a:=by
 by_cases h:b<a
 ·exact h
 ·exact absurd (List.le_antisymm (List.not_lt.1 h) (List.not_lt.1 h1)) h2
theorem Qm {a b:By}(h1:a<b)(h2:b<a):False:=GH a (Zy h1 h2)
def yj (d:Tx)(x:By):Tx:=
 match d with
 | []=> [x]
 | y::r=>if y<x then y::yj r x else if y=x then y::r else x::y::r
def dsT (l:Tx):Tx:=l.foldl yj []
def wu:Tx->By->Nat
 | [],_=>0
 | y::r,x=>if y=x then 0 else wu r x+1
def WC (d:Tx):Prop:=d.Pairwise (· < ·)
theorem Qn (d:Tx)(x y:By):y∈yj d x↔y∈d∨y=x:=by
 induction d with
 | nil=>simp [yj]
 | cons z r ih=>
  unfold yj
  split
  ·simp only [bD,ih,or_assoc]
  ·split
   ·rename_i e;subst e;simp only [bD];constructor
    ·intro h;exact .inl h
    ·rintro(h|rfl)
     ·exact h
     ·exact .inl rfl
   ·simp only [bD];constructor
    ·rintro(h|h|h)
     ·exact .inr h
     ·exact .inl (.inl h)
     ·exact .inl (.inr h)
    ·rintro((h|h)|h)
     ·exact .inr (.inl h)
     ·exact .inr (.inr h)
     ·exact .inl h
theorem adZ {d:Tx}{x:By}(h:WC d):WC (yj d x):=by
 induction d with
 | nil=>simp [yj,WC]
 | cons z r ih=>
  have h1:=eu.1 h
  unfold yj
  split
  ·rename_i hz
   refine eu.2 ⟨fun a ha=> ?_,ih h1.2⟩
   rcases(Qn r x a).1 ha with h2|h2
   ·exact h1.1 a h2
   ·rw [h2];exact hz
  ·split
   ·exact h
   ·rename_i n1 n2
    have hx:=adY n1 n2
    refine eu.2 ⟨fun a ha=> ?_,h⟩
    rcases bD.1 ha with h2|h2
    ·rw [h2];exact hx
    ·exact Zy hx (h1.1 a h2)
theorem Zz (l:Tx)(x:By):dsT (l++ [x])=yj (dsT l) x:=by simp [dsT]
theorem Qo (l:Tx) : ∀d,WC d->WC (l.foldl yj d)∧∀y,y∈l.foldl yj d↔y∈d∨y∈l:=by
 induction l with
 | nil=>intro d h;simp [h]
 | cons x r ih=>
  intro d h
  have:=ih (yj d x) (adZ h)
  refine⟨this.1,fun y=> ?_⟩
  rw [eX,this.2 y,Qn,bD,or_assoc]
theorem ZA (l:Tx):WC (dsT l):=(Qo l [] List.Pairwise.nil).1
theorem tN (l:Tx)(y:By):y∈dsT l↔y∈l:=by rw [dsT,(Qo l [] List.Pairwise.nil).2 y];simp
theorem ZB {a:Tx} : ∀ {b:Tx},WC a->WC b->(∀y,y∈a↔y∈b)->a=b:=by
 induction a with
 | nil=>intro b _ _ h;cases b with
  | nil=>rfl
  | cons y r=>exact absurd ((h y).2 bG) (by simp)
 | cons x r ih=>
  intro b ha hb h
  have h1:=eu.1 ha
  cases b with
  | nil=>exact absurd ((h x).1 bG) (by simp)
  | cons y s=>
   have h2:=eu.1 hb
   have e:x=y:=by
    have m1:=(h x).1 bG
    have m2:=(h y).2 bG
    rcases bD.1 m1 with e|e
    ·exact e
    ·rcases bD.1 m2 with e2|e2
     ·exact e2.symm
     ·exact(Qm (h1.1 y e2) (h2.1 x e)).elim
   subst e
   congr 1
   refine ih h1.2 h2.2 fun z=>⟨fun hz=> ?_,fun hz=> ?_⟩
   ·rcases bD.1 ((h z).1 (dK _ hz))with e|e
    ·have:=h1.1 z hz;rw [e]at this;exact(GH _ this).elim
    ·exact e
   ·rcases bD.1 ((h z).2 (dK _ hz))with e|e
    ·have:=h2.1 z hz;rw [e]at this;exact(GH _ this).elim
    ·exact e
theorem ahw {l d:Tx}(h1:WC d)(h2 : ∀y,y∈d↔y∈l):d=dsT l:=ZB h1 (ZA l) fun y=>by rw [h2,tN]
theorem ZC (d:Tx)(x:By):(yj d x).length<=d.length+1:=by
 induction d with
 | nil=>simp [yj]
 | cons y r ih=>
  unfold yj
  split
  ·simp only [bC];omega
  ·split<;>simp
theorem wB (l:Tx):(dsT l).length<=l.length:=by
 have : ∀(l d:Tx),(l.foldl yj d).length<=d.length+l.length:=by
  intro l
  induction l with
  | nil=>intro d;simp
  | cons x r ih=>intro d;have h1:=ih (yj d x);have h2:=ZC d x;simp only [eX,bC];omega
 have:=this l []
 simpa [dsT]using this
theorem y7 {d:Tx}{x:By}(h:x∈d):wu d x<d.length∧d[wu d x]? = some x:=by
 induction d with
 | nil=>cases h
 | cons y r ih=>
  unfold wu
  by_cases e:y=x
  ·rw [if_pos e];simp [e]
  ·rw [if_neg e]
   have:=ih (by rcases bD.1 h with h|h;exact absurd h.symm e;exact h)
   simp only [bC,dV]
   exact⟨by omega,this.2⟩
theorem ZE {d:Tx}(hd:WC d){i j:Nat}{x y:By}(h:i<j)(h1:d[i]? = some x)(h2:d[j]? = some y):x<y:=by
 obtain⟨hi,e1⟩:=aO.1 h1
 obtain⟨hj,e2⟩:=aO.1 h2
 rw [<-e1, <-e2]
 exact gU.1 hd i j hi hj h
theorem Jj : ∀(d:Tx) (x:By) (k:Nat),k<=d.length->(∀j (h1:j<k) (h2:j<d.length),d[j]<x)->(∀h:k<d.length, ¬d[k]<x)->yj d x=if ∃h:k<d.length,d[k]=x then d else d.take k++ [x]++d.drop k:=by
 intro d
 induction d with
 | nil=>
  intro x k hk _ _
  have:k=0:=by simpa using hk
  subst this;simp [yj]
 | cons y r ih=>
  intro x k hk h1 h2
  unfold yj
  cases k with
  | zero=>
   have h3 : ¬y<x:=h2 (by simp)
   rw [if_neg h3]
   by_cases e:y=x
   ·rw [if_pos e,if_pos ⟨by simp,e⟩]
   ·rw [if_neg e,if_neg (by rintro⟨_,h⟩;exact e h)];simp
  | succ k=>
   have h3:y<x:=h1 0 (by omega) (by simp)
   rw [if_pos h3]
   have:=ih x k (by simpa using hk) (fun j hj hjl=>h1 (j+1) (by omega) (by simp;omega)) (fun h=>h2 (by simp;omega))
   rw [this]
   by_cases e : ∃h:k<r.length,r[k]=x
   ·rw [if_pos e,if_pos (by obtain⟨h,e⟩:=e;exact⟨by simp;omega,e⟩)]
   ·rw [if_neg e,if_neg (by rintro⟨h,e2⟩;exact e ⟨by simpa using h,e2⟩)];simp
theorem Tv {d:Tx}{k:Nat}{x:By}{h:k<d.length}(e:d[k]=x):wu d x<=k:=by
 induction d generalizing k with
 | nil=>simp at h
 | cons y r ih=>
  unfold wu
  split
  ·omega
  ·rename_i hy
   cases k with
   | zero=>exact absurd e hy
   | succ k=>have:=ih (k:=k) (h:=by simpa using h) (by simpa using e);omega
def NW (l:Tx):Tx:=l.mergeSort fun x y=>decide (x<=y)
theorem yJ (l:Tx):(NW l).length=l.length:=lq l
theorem ZF (l:Tx)(y:By):y∈NW l↔y∈l:=List.mem_mergeSort
theorem Qp (l:Tx):(NW l).Pairwise (· <= ·):=by
 have:=kQ (le:=fun x y:By=>decide (x<=y)) (fun a b c h1 h2=>by simp only [decide_eq_true_eq]at *;exact List.le_trans h1 h2) (fun a b=>by simp only [ji,decide_eq_true_eq];exact List.le_total a b) l
 exact this.imp fun h=>by simpa using h
theorem WE (z:Tx)(hs:z.Pairwise (· <= ·)) : ∀m,m<=z.length->WC (Go.Lib.compactUpTo z.toArray m)∧∀y,y∈Go.Lib.compactUpTo z.toArray m↔y∈z.take m:=by
 intro m
 induction m with
 | zero=>intro _;simp [Go.Lib.compactUpTo,WC]
 | succ m ih=>
  intro hm
  have hlt:m<z.length:=by omega
  obtain⟨h1,h2⟩:=ih (by omega)
  have em:z.toArray[m]! = z[m]:=by simp [hlt]
  have le : ∀j (hj:j<m),z[j]'(by omega)<=z[m]:=fun j hj=>gU.1 hs j m (by omega) hlt hj
  rw [Go.Lib.compactUpTo_succ,aG hlt,em]
  by_cases hk:Go.Lib.keeps z.toArray m=true
  ·rw [if_pos hk]
   refine⟨jX.2 ⟨h1,jK _ _,fun a ha b hb=> ?_⟩,fun y=>by simp only [bK,h2,bF]⟩
   rw [bF.1 hb]
   obtain⟨j,hj,e⟩:=jc ((h2 a).1 ha)
   rw [aK]at hj
   rw [jm]at e
   have hjm:j<m:=by omega
   have hne:z[m-1]'(by omega)≠z[m]:=by
    unfold Go.Lib.keeps at hk
    rw [decide_eq_true_eq]at hk
    rcases hk with h|h
    ·omega
    ·rw [em]at h
     have e1:z.toArray[m-1]! = z[m-1]'(by omega):=by simp [show m-1<z.length by omega]
     rw [e1]at h
     exact fun e=>h e.symm
   have l1:z[m-1]'(by omega)<=z[m]:=le (m-1) (by omega)
   have l2:z[j]'(by omega)<=z[m-1]'(by omega):=by
    rcases dP j (m-1)with h|h
    ·exact gU.1 hs j (m-1) (by omega) (by omega) h
    ·have:j=m-1:=by omega
     subst this;exact List.le_refl _
   have l3:z[m-1]'(by omega)<z[m]:=by
    by_cases h:z[m-1]'(by omega)<z[m]
    ·exact h
    ·exact absurd (List.le_antisymm l1 (List.not_lt.1 h)) hne
   rw [<-e]
   exact List.lt_of_le_of_lt l2 l3
  ·rw [if_neg hk,bY]
   refine⟨h1,fun y=> ?_⟩
   rw [h2,bK,bF]
   constructor
   ·exact .inl
   ·rintro(h|h)
    ·exact h
    ·unfold Go.Lib.keeps at hk
     rw [decide_eq_true_eq]at hk
     have h0:0<m:=by
      rcases cO m with e|e
      ·exact absurd (.inl e) hk
      ·exact e
     have e1:z.toArray[m-1]! = z[m-1]'(by omega):=by simp [show m-1<z.length by omega]
     have e2:z[m]=z[m-1]'(by omega):=by
      rw [em,e1]at hk
      exact fP fun h=>hk (.inr h)
     rw [h,e2]
     exact jY.2 ⟨m-1,by rw [aK];omega,by rw [jm]⟩
theorem FH (l:Tx):Go.Lib.compact (NW l)=dsT l:=by
 have h:=WE (NW l) (Qp l) (NW l).length (aA _)
 rw [aW]at h
 exact ahw h.1 fun y=>by
  have:=h.2 y
  rw [ZF]at this
  exact this
abbrev tv (s:By):AV:= .v (.string ⟨s.toArray⟩)
def wC (s:By):List FV:= [.v (.string ⟨s.toArray⟩)]
abbrev tl (l:Tx):AV:= .lst 1 (l.map wC)
theorem vN (l:Tx)(s:By):(l++ [s]).map wC=l.map wC++ [[FV.v (.string ⟨s.toArray⟩)]]:=by rw [aJ];rfl
theorem Tz (a b:By):OG ⟨a.toArray⟩ ⟨b.toArray⟩=decide (a<b):=by
 unfold OG
 rw [bytesLess_eq,Lib.toList_data,Lib.toList_data]
section
variable {G:Glob}
theorem ajn (a:By):(encStr a).oneCell'=true:=rfl
theorem ahx (l:Tx)(hne:l≠ [])(hs:l.length<=1000000):mQ Tryz.prog G 154 [.own 0] 1 [(0, .rows 9 1 (l.map wC))] (fun a n H=>a = .nN []∧n=1∧H = [(0, .rows 9 1 ((NW l).map wC))]):=
 Ap (enc:=encStr) (V:=fun _ _ v=>v = .tuple #[]) ajn hne (yJ l)
  (fun w blk cap hH hb _=>Calls.mono (Tryz.slices_Sort_string blk 0 cap l w hH hb (by omega)) fun e w' ⟨h1,h2⟩=>⟨_,h1,rfl,h2⟩)
  (fun w σ F blk cap v _ _ hv=>by subst hv;exact nX.nN («as» := []) (vs:= []) trivial)
theorem WG (l:Tx)(hne:l≠ [])(hs:l.length<=1000000):mQ Tryz.prog G 155 [.own 0] 1 [(0, .rows 9 1 ((NW l).map wC))] (fun a n H=>a = .sub 0 0 (dsT l).length∧n=1∧H = [(0, .rows 9 1 ((dsT l++List.replicate (l.length -(dsT l).length) []).map wC))]):=
 Ap (enc:=encStr) (zs':=dsT l++List.replicate (l.length -(dsT l).length) []) (V:=fun blk cap v=>v = .slice (some ⟨blk,0,none⟩) (dsT l).length cap) ajn (by intro h;have:=yJ l;rw [h]at this;exact hne (aI this.symm))
  (by have:=wB l;rw [yJ,ak,cu];omega)
  (fun w blk cap hH hb hc=>Calls.mono (Tryz.slices_Compact_string blk 0 cap (NW l) w hH (by rw [yJ];omega) hc) fun e w' ⟨h1,q,h2⟩=>⟨_,h1,by rw [FH],q, #[],by rw [h2,FH,Sort.grow_empty,yJ]⟩)
  (fun w σ F blk cap v hσ hc hv=>by
   subst hv
   have hd:=wB l
   rw [yJ]at hσ hc
   refine .sub 0 0 _ _ cap (by decide) (by rw [hσ];show 0+_<=l.length;omega) (by omega) (fun h=>by cases h) fun _=>⟨blk,by rw [hσ],by rw [fJ]⟩)
theorem ZG (l:Tx)(x:Tx):(((dsT l++x).map wC).drop 0).take (dsT l).length=(dsT l).map wC:=by
 rw [dJ,aJ]
 exact dZ (ah _)
end
def qH (s:By):By:=num (s.length:Int)++s
def BM (d l:Tx):Li:=l.map fun s=>((wu d s:Nat):Int)
def rF (l:Tx):By:=num ((dsT l).length:Int)++(dsT l).flatMap qH++ints (BM (dsT l) l)
def AA (l:Tx):Prop:= ∀s∈l,s.length<=200
theorem GK (d l:Tx)(hl : ∀x∈l,x∈d)(hd:d.length<=1000000):nP (BM d l):=fun x hx=>by
 obtain⟨s,hs,e⟩:=eP.1 hx
 have:=(y7 (hl s hs)).1
 rw [<-e];exact nJ (by omega)
theorem uM (d l:Tx):(BM d l).length=l.length:=ah _
theorem Jk (s:By)(h:s.length<=200):(qH s).length<=210∧0<(qH s).length:=by
 have:=ni (s.length:Int)
 unfold qH
 rw [ak];omega
theorem AA.ds {l:Tx}(h:AA l):AA (dsT l):=fun s hs=>h s ((tN l s).1 hs)
theorem AA.take {l:Tx}(h:AA l)(k:Nat):AA (l.take k):=fun s hs=>h s (fD hs)
theorem yK (d:Tx)(h:AA d):(d.flatMap qH).length<=210*d.length:=EJ qH 210 d fun s hs=>(Jk s (h s hs)).1
theorem tV (l:Tx)(h:AA l)(hl:l.length<=512):(rF l).length<=5134+210*l.length:=by
 have h1:=yK (dsT l) h.ds
 have h2:=wB l
 have h3:=(ni ((dsT l).length:Int)).2
 have h4:=nR (BM (dsT l) l) (by rw [uM];exact hl)
 unfold rF
 simp only [ak]
 omega
def FI (b:By)(e:Int):By×Nat×Int:=
 let c:=qg b e 200 4
 if c.2.2=0 then(if((b.drop c.2.1).length:Int)<c.1 then([],c.2.1,16)else((b.drop c.2.1).take c.1.toNat,c.2.1+c.1.toNat,0))else([],c.2.1,c.2.2)
theorem GL (b:By)(e:Int):FI b e=if(qg b e 200 4).2.2=0 then(if((b.drop (qg b e 200 4).2.1).length:Int)<(qg b e 200 4).1 then([],(qg b e 200 4).2.1,16)else((b.drop (qg b e 200 4).2.1).take (qg b e 200 4).1.toNat,(qg b e 200 4).2.1+(qg b e 200 4).1.toNat,0))else([],(qg b e 200 4).2.1,(qg b e 200 4).2.2):=rfl
theorem ZH (b:By)(e:Int):(FI b e).1.length<=200∧(FI b e).2.1<=b.length∧((FI b e).2.2=0->e=0∧b=qH (FI b e).1++b.drop (FI b e).2.1∧(FI b e).2.1=(qH (FI b e).1).length)∧((FI b e).2.2≠0->(FI b e).1 = []):=by
 have hr:=rW b e 200 4 (by decide) (by decide)
 have o:=oN b e
 rw [GL]
 generalize qg b e 200 4=c at *
 obtain⟨x,k,e'⟩:=c
 simp only at hr ⊢
 obtain⟨h1,h2,h3,h4⟩:=hr
 by_cases he:e'=0
 ·rw [if_pos he]
  have h5:=h4 he
  have o3:=o.2.2.1 h5.1
  rw [<-h5.2, <-h3]at o3
  have hk:k<=b.length:=by rw [h3];exact o.2.1
  by_cases hs:((b.drop k).length:Int)<x
  ·rw [if_pos hs]
   exact⟨by simp,hk,fun h=>by simp at h,fun _=>rfl⟩
  ·rw [if_neg hs]
   have hl:(b.drop k).length=b.length-k:=aS
   have hx:((x.toNat:Nat):Int)=x:=by omega
   have ht:((b.drop k).take x.toNat).length=x.toNat:=by rw [aK];omega
   have hp:qH ((b.drop k).take x.toNat)=num x++(b.drop k).take x.toNat:=by unfold qH;rw [ht,hx]
   refine⟨by simp only [ht];omega,by simp only;omega,fun _=>⟨o3.1, ?_, ?_⟩,fun h=>absurd rfl h⟩
   ·simp only
    rw [hp, <-dB,aH,gy]
    exact o3.2.1
   ·simp only
    rw [hp,ak,ht, <-o3.2.2]
 ·rw [if_neg he]
  exact⟨by simp,by simp only;rw [h3];exact o.2.1,fun h=>absurd h he,fun _=>rfl⟩
theorem Jl {b:By}{e most em:Int}{n:Nat}(h1:(ny b e).1=(n:Int))(h2:(ny b e).2.2=0)(hm:(n:Int)<=most):qg b e most em=((n:Int),(ny b e).2.1,0):=by
 rw [sZ,h1,h2]
 have a1 : ¬((n:Int)<0):=by omega
 have a2 : ¬(most<(n:Int)):=by omega
 simp only [a1,a2,if_true,if_false]
theorem ad1 {s b r:By}(hs:s.length<=200)(h:b=qH s++r):FI b 0=(s,(qH s).length,0):=by
 have hb:b=num (s.length:Int)++(s++r):=by rw [h];unfold qH;rw [aH]
 have r1:=Lm (b:=b) (e:=0) (nJ (by omega:s.length<=9223372036854775807)) rfl hb
 have o3:=(oN b 0).2.2.1 r1.2.1
 rw [r1.1]at o3
 have hc:qg b 0 200 4=((s.length:Int),(ny b 0).2.1,0):=Jl r1.1 r1.2.1 (by omega)
 rw [GL,hc]
 simp only [if_true]
 rw [r1.2.2,if_neg (by rw [ak];omega),dh,dZ rfl,o3.2.2]
 unfold qH
 rw [ak]
def QT (l0:Tx)(r:By)(ks:Tx)(b':By):Prop:= ∃rest,dsT l0=ks++rest∧b'=rest.flatMap qH++(ints (BM (dsT l0) l0)++r)
theorem QT.step {l0:Tx}{r:By}{ks:Tx}{b':By}(ht:AA l0)(hlt:ks.length<(dsT l0).length)(h:QT l0 r ks b'):(FI b' 0).2.2=0∧QT l0 r (ks++ [(FI b' 0).1]) (b'.drop (FI b' 0).2.1):=by
 obtain⟨rest,h1,h2⟩:=h
 cases rest with
 | nil=>rw [h1]at hlt;simp at hlt
 | cons y rest=>
  have hy:y.length<=200:=ht.ds y (by rw [h1];simp)
  have:=ad1 (b:=b') (r:=rest.flatMap qH++(ints (BM (dsT l0) l0)++r)) hy (by rw [h2];simp)
  rw [this]
  refine⟨rfl,rest,by rw [h1];simp, ?_⟩
  rw [h2]
  simp only [iC,aH]
  rw [eY rfl]
theorem QT.fin {l0:Tx}{r:By}{ks:Tx}{b':By}(hlen:ks.length=(dsT l0).length)(h:QT l0 r ks b'):ks=dsT l0∧b'=ints (BM (dsT l0) l0)++r:=by
 obtain⟨rest,h1,h2⟩:=h
 have hr:rest = []:=by
  rw [h1,ak]at hlen
  exact aI (by omega)
 subst hr
 exact⟨by rw [h1];simp,by rw [h2];simp⟩
def GT (b:By)(Q:Tx->By->Prop):Prop:= ∀l0 r,l0.length<=512->AA l0->b=rF l0++r->Q l0 r
theorem U1 (b:By):GT b fun l0 r=>(qg b 0 512 5).2.2=0∧(qg b 0 512 5).1=((dsT l0).length:Int)∧QT l0 r [] (b.drop (qg b 0 512 5).2.1):=fun l0 r hl ht h=>by
 have hd:=wB l0
 have hb:b=num ((dsT l0).length:Int)++((dsT l0).flatMap qH++(ints (BM (dsT l0) l0)++r)):=by rw [h];unfold rF;simp only [aH]
 have r1:=Lm (b:=b) (e:=0) (nJ (by omega:(dsT l0).length<=9223372036854775807)) rfl hb
 have hc:qg b 0 512 5=(((dsT l0).length:Int),(ny b 0).2.1,0):=Jl r1.1 r1.2.1 (by omega)
 rw [hc]
 exact⟨rfl,rfl,dsT l0,rfl,r1.2.2⟩
def Kr (ks:Tx)(il:Li):Tx:=il.map fun i=>ks.getD i.toNat []
theorem GN (ks:Tx)(il:Li):(Kr ks il).length=il.length:=ah _
theorem ZI {d l:Tx}(h : ∀x∈l,x∈d):Kr d (BM d l)=l:=by
 induction l with
 | nil=>rfl
 | cons x r ih=>
  have h1:=(y7 (h x (by simp))).2
  have h2:=ih fun y hy=>h y (by simp [hy])
  unfold Kr BM at *
  simp only [gG,dh,ay,h1,bH]
  simp only [ay]at h2
  rw [h2]
theorem ZJ {ks:Tx}(h:AA ks)(il:Li):AA (Kr ks il):=fun s hs=>by
 obtain⟨i,_,e⟩:=eP.1 hs
 rw [<-e,ay]
 cases hk:ks[i.toNat]? with
 | none=>simp
 | some x=>simpa using h x (aZ hk)
theorem Qq {ks:Tx}{il:Li}{k i:Nat}{x:By}(hk:k<il.length)(hi:il[k]=(i:Int))(hx:ks[i]? = some x):Kr ks (il.take (k+1))=Kr ks (il.take k)++ [x]:=by
 unfold Kr
 rw [aG hk,aJ,hi]
 simp only [gG,jB,dh,ay,hx,bH]
def OC (b:By)(l:Tx)(n:Nat)(e:Int):Prop:=AA l∧l.length<=512∧((e=0∧n=(rF l).length∧b.take (rF l).length=rF l)∨(e=1∧l = []∧n=0))∧GT b fun l0 _=>e=0∧l=l0
theorem OC.bad {b:By}(h:GT b fun _ _=>False):OC b [] 0 1:=⟨fun _ h=>(by cases h),au _, .inr ⟨rfl,rfl,rfl⟩,fun l0 r ha hl hb=>(h l0 r ha hl hb).elim⟩
theorem OC.two (b:By){l:Tx}{n:Nat}{e:Int}(h1:OC b l n e){l':Tx}{n':Nat}{e':Int}(h2:OC b l' n' e'):l=l'∧n=n'∧e=e':=by
 obtain⟨a1,a2,a3,a4⟩:=h1
 obtain⟨b1,b2,b3,b4⟩:=h2
 rcases a3 with ⟨rfl,rfl,p1⟩|⟨rfl,rfl,rfl⟩
 ·have:=b4 l (b.drop (rF l).length) a2 a1 (by conv=>lhs;rw [<-gy (rF l).length b,p1])
  obtain⟨rfl,rfl⟩:=this
  rcases b3 with ⟨_,rfl,_⟩|⟨h,_⟩
  ·exact⟨rfl,rfl,rfl⟩
  ·omega
 ·rcases b3 with ⟨rfl,rfl,p1⟩|⟨rfl,rfl,rfl⟩
  ·have:=a4 l' (b.drop (rF l').length) b2 b1 (by conv=>lhs;rw [<-gy (rF l').length b,p1])
   omega
  ·exact⟨rfl,rfl,rfl⟩
theorem afd {l:Nat}(h:l<=4194304):l<=140737488355328∧l<=maxLen:=⟨by omega,by unfold maxLen;omega⟩
theorem afe (b s:By)(hb:b.length<=2000000)(hs:s.length<=200):mQ Tryz.prog GC 156 [bs b,tv s] 0 [] (sW 5 1 ((b++qH s).map oh)):=by
 have hl:=(ni (s.length:Int)).2
 refine lQ func156 rfl mixed (by kernel_rfl) ?_
 refine mY [] (by kernel_rfl) (UQ (s.length:Int) (nJ (by omega))) (by trivial) ?_
 refine lN.mk (afd (by rw [ah];show _+s.length<=_;omega)) ?_
 conv=>whnf
 have h:=aho b (qH s) (by have:=Jk s hs;omega)
 refine mY [1] (by kernel_rfl) h ⟨⟨rfl,rfl⟩,⟨rfl,rfl,by unfold qH;rw [aJ]⟩,trivial⟩ ?_
 exact lX (.own 0) 1 _ [(0, .lab 2)] [] ⟨rfl,rfl,rfl⟩ rfl (by trivial) (by trivial)
theorem ahy (b s:By)(hb:b.length<=2000000)(hs:s.length<=200):mQ Tryz.prog GC 162 [bs b,tv s] 0 [] (sW 5 1 ((b++qH s).map oh)):=by
 have hl:=(ni (s.length:Int)).2
 refine lQ func162 rfl mixed (by kernel_rfl) ?_
 refine mY [] (by kernel_rfl) (sJ b (s.length:Int) (nJ (by omega)) (by omega)) (by trivial) ?_
 refine lN.mk (afd (by rw [ah,ak];show _+s.length<=_;omega)) ?_
 refine lX (.own 0) 1 _ [(0, .lab 1)] [] ⟨rfl,rfl,rfl⟩ rfl ⟨⟨rfl,rfl, ?_⟩,trivial⟩ (by trivial)
 unfold qH
 simp only [aJ,aH]
theorem ad2 (l:Tx)(hl:l≠ [])(hs:l.length<=100000):mQ Tryz.prog GC 153 [tl l] 0 [] (sW 9 1 (l.map wC)):=by
 have h0:0<l.length:=dX.2 hl
 refine lQ func153 rfl mixed (by kernel_rfl) ?_
 refine⟨fun b hb=> ?_⟩
 rw [hb (pU h0)]
 conv=>whnf
 (repeat' ((first|refine And.intro ?_ ?_|(apply lK<;>intro h<;>try simp only [bl]at h)|refine lV.i64 (by first|omega|(simp only [ln]at *;omega)) ?_|refine mZ.mk' _ rfl (by first|omega|(simp only [ln]at *;omega)) ?_|refine mD.lT (by assumption) ?_|refine mD.set (by first|omega|(simp only [ln]at *;omega)) ?_|refine mD.map (by first|omega|(simp only [ln]at *;omega)) ?_|refine lN.mk (by first|decide|omega) ?_|refine sO.mk (by kernel_rfl) rfl rfl ?_|refine lN.mk (lS (by first|omega|(simp only [ln]at *;omega)) (by kernel_rfl)) ?_)<;>conv=>whnf))
 exact lX (.own 0) 1 _ [(0, .lab 1)] [] ⟨rfl,rfl,rfl⟩ rfl (by trivial) (by trivial)
theorem ZK (s:ByteArray):(!yL s s)=false:=by rw [abf];simp
theorem ajo (s:By):mQ Tryz.prog GC 200 [tv s] 0 [] (Is (bv false)):=by
 refine lQ func200 rfl mixed (by kernel_rfl) ?_
 exact lZ [] (congrArg Value.bool (ZK _))
theorem ahz (x y:By):mQ Tryz.prog GC 174 [tv x,tv y] 0 [] (Is (bv (decide (x<y)))):=by
 have e:=Tz x y
 refine lQ func174 rfl mixed (by kernel_rfl) ?_
 (refine mF [] (by kernel_rfl) (ajo x) rfl ?_ ?_;(focus trivial))
 conv=>whnf
 rw [<-e]
 (repeat' ((first|refine And.intro ?_ ?_|(apply lK<;>intro h<;>try simp only [bl]at h)|refine lV.i64 (by first|omega|(simp only [ln]at *;omega)) ?_|refine mZ.mk' _ rfl (by first|omega|(simp only [ln]at *;omega)) ?_|refine mD.lT (by assumption) ?_|refine mD.set (by first|omega|(simp only [ln]at *;omega)) ?_|refine mD.map (by first|omega|(simp only [ln]at *;omega)) ?_|refine lN.mk (by first|decide|omega) ?_|refine sO.mk (by kernel_rfl) rfl rfl ?_|refine lN.mk (lS (by first|omega|(simp only [ln]at *;omega)) (by kernel_rfl)) ?_)<;>conv=>whnf))
 all_goals first
  | exact lZ [] (by trivial)
  | exact lZ [] (congrArg Value.bool (by assumption))
theorem ZL (d:Tx)(x:By)(hd:WC d)(hx:x∈d)(hs:d.length<=1000000):mQ Tryz.prog GC 157 [tl d,tv x] 0 [] (Is (.nN [iv (wu d x),bv true])):=by
 have hi:=y7 hx
 refine lQ func157 rfl mixed (by kernel_rfl) ?_
 refine mO abZ 0 [7,8] (fun x:Nat×Nat=> [(7,iv x.1),(8,iv x.2)]) (fun _=> []) (fun y=>y.1<=wu d x∧wu d x<=y.2∧y.2<=d.length) (fun y=>y.2-y.1) [] [] (0,d.length) (by kernel_rfl) (fun _=>rfl) rfl ⟨au _,jO hi.1,aA _⟩ trivial ⟨rfl,congrArg (fun n:Nat=>Value.int .i64 (n:Int)) (ah _),trivial⟩ ?_
 rintro⟨i,j⟩ ⟨h1,h2,h3⟩
 change i<=wu d x at h1
 change wu d x<=j at h2
 change j<=d.length at h3
 apply lK<;>intro h
 ·have hlt:i<j:=by simp at h;omega
  conv=>whnf
  (repeat' ((first|refine And.intro ?_ ?_|(apply lK<;>intro h<;>try simp only [bl]at h)|refine lV.i64 (by first|omega|(simp only [ln]at *;omega)) ?_|refine mZ.mk' _ rfl (by first|omega|(simp only [ln]at *;omega)) ?_|refine mD.lT (by assumption) ?_|refine mD.set (by first|omega|(simp only [ln]at *;omega)) ?_|refine mD.map (by first|omega|(simp only [ln]at *;omega)) ?_|refine lN.mk (by first|decide|omega) ?_|refine sO.mk (by kernel_rfl) rfl rfl ?_|refine lN.mk (lS (by first|omega|(simp only [ln]at *;omega)) (by kernel_rfl)) ?_)<;>conv=>whnf))
  refine lV.to (y:=((i+j:Nat):Int)) (by rw [<-fM];exact sH (by omega)) ?_
  refine lN.mk (by decide) ?_
  rw [wZ]
  refine lV.i64 (by omega) ?_
  conv=>whnf
  have hm:(i+j)/2<d.length:=by omega
  (repeat' ((first|refine And.intro ?_ ?_|(apply lK<;>intro h<;>try simp only [bl]at h)|refine lV.i64 (by first|omega|(simp only [ln]at *;omega)) ?_|refine mZ.mk' _ rfl (by first|omega|(simp only [ln]at *;omega)) ?_|refine mD.lT (by assumption) ?_|refine mD.set (by first|omega|(simp only [ln]at *;omega)) ?_|refine mD.map (by first|omega|(simp only [ln]at *;omega)) ?_|refine lN.mk (by first|decide|omega) ?_|refine sO.mk (by kernel_rfl) rfl rfl ?_|refine lN.mk (lS (by first|omega|(simp only [ln]at *;omega)) (by kernel_rfl)) ?_)<;>conv=>whnf))
  (refine mF [] (by kernel_rfl) (ahz d[(i+j)/2] x) rfl ?_ ?_;(focus trivial))
  conv=>whnf
  have hat:=aj hm
  apply lK<;>intro h
  ·refine lV.i64 (by omega) ?_
   conv=>whnf
   have hlt2:d[(i+j)/2]<x:=of_decide_eq_true h
   have hc:(i+j)/2<wu d x:=by
    rcases jl ((i+j)/2) (wu d x)with h4|h4|h4
    ·exact h4
    ·have:=hi.2;rw [<-h4,hat]at this;injection this with this;rw [this]at hlt2;exact(GH _ hlt2).elim
    ·exact(Qm hlt2 (ZE hd h4 hi.2 hat)).elim
   exact lU ((i+j)/2+1,j) [] [] rfl (by show j -((i+j)/2+1)<j-i;omega) ⟨hc,h2,h3⟩ trivial ⟨rfl,rfl,trivial⟩
  ·conv=>whnf
   have hlt2 : ¬d[(i+j)/2]<x:=of_decide_eq_false h
   have hc:wu d x<=(i+j)/2:=by
    rcases dP ((i+j)/2) (wu d x)with h4|h4
    ·exact absurd (ZE hd h4 hat hi.2) hlt2
    ·exact h4
   exact lU (i,(i+j)/2) [] [] rfl (by show (i+j)/2-i<j-i;omega) ⟨h1,hc,by show (i+j)/2<=_;omega⟩ trivial ⟨rfl,rfl,trivial⟩
 ·have hij:i=wu d x:=by simp at h;omega
  have hil:i<d.length:=by omega
  have hat:d[i]? = some x:=by rw [hij];exact hi.2
  rw [<-hij]
  conv=>whnf
  (repeat' ((first|refine And.intro ?_ ?_|(apply lK<;>intro h<;>try simp only [bl]at h)|refine lV.i64 (by first|omega|(simp only [ln]at *;omega)) ?_|refine mZ.mk' _ rfl (by first|omega|(simp only [ln]at *;omega)) ?_|refine mD.lT (by assumption) ?_|refine mD.set (by first|omega|(simp only [ln]at *;omega)) ?_|refine mD.map (by first|omega|(simp only [ln]at *;omega)) ?_|refine lN.mk (by first|decide|omega) ?_|refine sO.mk (by kernel_rfl) rfl rfl ?_|refine lN.mk (lS (by first|omega|(simp only [ln]at *;omega)) (by kernel_rfl)) ?_)<;>conv=>whnf))
  all_goals first
   | (exfalso;omega)
   | (exfalso;simp only [ah]at h;omega)
   | (exfalso;simp at h;done)
   | exact lZ [] (by trivial)
section
attribute [local irreducible] best ints en bd
theorem LG {d:Tx}{i:Nat}(h:i<d.length):(d.take (i+1)).flatMap qH=(d.take i).flatMap qH++qH d[i]:=by
 rw [aG h,iZ,iC,jW,bY]
theorem ahA (l x:Tx){k:Nat}(h:k<(dsT l).length):(dsT l++x)[0+k]? = some (dsT l)[k]:=by rw [aV,dQ h,aj h]
theorem Qr {d l:Tx}{k:Nat}(h:k<l.length):BM d (l.take (k+1))=BM d (l.take k)++ [((wu d l[k]:Nat):Int)]:=by
 unfold BM
 rw [aG h,aJ];rfl
theorem ad3 (l:Tx)(hne:l≠ [])(hs:l.length<=512)(ht:AA l):mQ Tryz.prog GC 121 [tl l] 0 [] (Is (bs (rF l))):=by
 have hdl:=wB l
 have hkl:=fun k=>yK ((dsT l).take k) (ht.ds.take k)
 have n1:=(ni ((dsT l).length:Int)).2
 refine lQ func121 rfl mixed (by kernel_rfl) ?_
 refine mY [] (by kernel_rfl) (ad2 l hne (by omega)) (by trivial) ?_
 refine pW [0] [] (by kernel_rfl) (ahx l hne (by omega)) rfl (by trivial) (by trivial) rfl ?_
 refine pW [0] [] (by kernel_rfl) (WG l hne (by omega)) rfl (by trivial) (by trivial) rfl ?_
 refine mY [0] (by kernel_rfl) (rE [] ((dsT l).length:Int) (nJ (by omega)) (by simp)) (by trivial) ?_
 refine mO Nj 3 [4,23] (fun k:Nat=> [(4, .own 2),(23,iv k)]) (fun k=> [(0, .fz 1 ((dsT l++List.replicate (l.length -(dsT l).length) []).map wC)),(2, .rows 5 1 ((num ((dsT l).length:Int)++((dsT l).take k).flatMap qH).map oh))]) (fun k=>k<=(dsT l).length) (fun k=>(dsT l).length-k) [(2, .lab 1)] [] 0 (by kernel_rfl) (fun _=>rfl) rfl (au _) ⟨⟨rfl,rfl⟩,⟨rfl,rfl,by simp⟩,trivial⟩ ⟨rfl,rfl,trivial⟩ ?_
 rintro k hk
 have hkk:=hkl k
 rw [aK]at hkk
 apply lK<;>intro h
 ·have hlt:k<(dsT l).length:=by simp at h;omega
  have hmem:(dsT l)[k]∈dsT l:=aT hlt
  refine mZ.mk' k rfl hlt ?_
  refine mD.lT (ahA l _ hlt) ?_
  refine mY [2] (by kernel_rfl) (afe (num ((dsT l).length:Int)++((dsT l).take k).flatMap qH) (dsT l)[k] (by rw [ak];omega) (ht.ds _ hmem)) ⟨⟨rfl,rfl,rfl⟩,rfl,trivial⟩ ?_
  refine lV.i64 (by omega) ?_
  refine lU (k+1) [(2, .lab 3)] [] rfl (by show (dsT l).length -(k+1)<(dsT l).length-k;omega) hlt ⟨⟨rfl,rfl⟩,⟨rfl,rfl, ?_⟩,trivial⟩ ⟨rfl,rfl,trivial⟩
  rw [LG hlt, <-aH]
 ·have:k=(dsT l).length:=by simp at h;omega
  subst this
  rw [aW]
  refine mO Nk 4 [7,33] (fun k:Nat=> [(7, .own 3),(33,iv k)]) (fun k=> [(0, .fz 1 ((dsT l++List.replicate (l.length -(dsT l).length) []).map wC)),(2, .rows 5 1 ((num ((dsT l).length:Int)++(dsT l).flatMap qH).map oh)),(3, .rows 3 1 ((BM (dsT l) (l.take k)).map qX))]) (fun k=>k<=l.length) (fun k=>l.length-k) [(3, .nil)] [] 0 (by kernel_rfl) (fun _=>rfl) rfl (au _) ⟨⟨rfl,rfl⟩,⟨rfl,rfl,rfl⟩,rfl,trivial⟩ ⟨trivial,rfl,trivial⟩ ?_
  rintro k hk
  apply lK<;>intro h
  ·have hlt:k<l.length:=by simp at h;omega
   have hmem:l[k]∈dsT l:=(tN l _).2 (aT hlt)
   have hil:=(y7 hmem).1
   conv=>whnf
   (repeat' ((first|refine And.intro ?_ ?_|(apply lK<;>intro h<;>try simp only [bl]at h)|refine lV.i64 (by first|omega|(simp only [ln]at *;omega)) ?_|refine mZ.mk' _ rfl (by first|omega|(simp only [ln]at *;omega)) ?_|refine mD.lT (by assumption) ?_|refine mD.set (by first|omega|(simp only [ln]at *;omega)) ?_|refine mD.map (by first|omega|(simp only [ln]at *;omega)) ?_|refine lN.mk (by first|decide|omega) ?_|refine sO.mk (by kernel_rfl) rfl rfl ?_|refine lN.mk (lS (by first|omega|(simp only [ln]at *;omega)) (by kernel_rfl)) ?_)<;>conv=>whnf))
   refine mF [] (by kernel_rfl) (ZL (dsT l) l[k] (ZA l) hmem (by omega)) rfl ⟨⟨rfl,ZG l _⟩,rfl,trivial⟩ ?_
   refine lN.mk (lS (by rw [ah,uM,aK];show _+1<=_;omega) (by kernel_rfl)) ?_
   refine lV.i64 (by omega) ?_
   refine lU (k+1) [(3, .lab 5)] [] rfl (by show l.length -(k+1)<l.length-k;omega) hlt ⟨⟨rfl,rfl⟩,⟨rfl,rfl,rfl⟩,⟨rfl,rfl, ?_⟩,trivial⟩ ⟨rfl,rfl,trivial⟩
   rw [Qr hlt,aJ]
   rfl
  ·have:k=l.length:=by simp at h;omega
   subst this
   rw [aW]
   conv=>whnf
   have ale:=yK (dsT l) ht.ds
   have hib:=nR (BM (dsT l) l) (by rw [uM];exact hs)
   refine mY [3] (by kernel_rfl) (xg (BM (dsT l) l) (GK _ _ (fun x hx=>(tN l x).2 hx) (by omega)) (by rw [uM];exact hs)) (by trivial) ?_
   refine lN.mk (lS (by simp only [ln];omega) (by kernel_rfl)) ?_
   refine lZ [4] ⟨rfl,rfl, ?_⟩
   unfold rF
   simp only [aJ]
theorem ZM:mQ Tryz.prog GC 153 [tl []] 0 [] (fun a n H=>(a = .v (.slice none 0 0)∧n=0∧H = [])∨(a = .own 0∧n=1∧H = [(0, .rows 9 1 [])])):=by
 refine lQ func153 rfl mixed (by kernel_rfl) ?_
 refine⟨fun b _=> ?_⟩
 cases b
 ·conv=>whnf
  (repeat' ((first|refine And.intro ?_ ?_|(apply lK<;>intro h<;>try simp only [bl]at h)|refine lV.i64 (by first|omega|(simp only [ln]at *;omega)) ?_|refine mZ.mk' _ rfl (by first|omega|(simp only [ln]at *;omega)) ?_|refine mD.lT (by assumption) ?_|refine mD.set (by first|omega|(simp only [ln]at *;omega)) ?_|refine mD.map (by first|omega|(simp only [ln]at *;omega)) ?_|refine lN.mk (by first|decide|omega) ?_|refine sO.mk (by kernel_rfl) rfl rfl ?_|refine lN.mk (lS (by first|omega|(simp only [ln]at *;omega)) (by kernel_rfl)) ?_)<;>conv=>whnf))
  exact lX (.own 0) 1 _ [(0, .lab 1)] [] (.inr ⟨rfl,rfl,rfl⟩) rfl (by trivial) (by trivial)
 ·exact lX (.v (.slice none 0 0)) 0 [] [] [] (.inl ⟨rfl,rfl,rfl⟩) rfl (by trivial) (by trivial)
theorem ajp:mQ Tryz.prog GC 173 [uv 0] 0 [] (Is (iv 0)):=by
 have h:mQ Tryz.prog GC 199 [uv 0] 0 [] (Is (iv 0)):=Zd 0 (by decide)
 refine lQ func173 rfl mixed (by kernel_rfl) ?_
 (refine mF [] (by kernel_rfl) (h) rfl ?_ ?_;(focus trivial))
 exact lZ [] (by trivial)
theorem ajq:mQ Tryz.prog GC 190 [tl [],iv 0,iv 0] 0 [] (Is (.nN [])):=by
 refine lQ func190 rfl mixed (by kernel_rfl) ?_
 refine lV.i64 (by decide) ?_
 refine mO acJ 0 [6] (fun i:Nat=> [(6,iv i)]) (fun _=> []) (fun i=>i=1) (fun _=>0) [] [] 1 (by kernel_rfl) (fun _=>rfl) rfl rfl trivial ⟨rfl,trivial⟩ ?_
 rintro i rfl
 exact lZ [] (by trivial)
theorem ajr:mQ Tryz.prog GC 172 [tl [],iv 0,iv 0,iv 0] 0 [] (Is (.nN [])):=by
 refine lQ func172 rfl mixed (by kernel_rfl) ?_
 refine mO acn 0 [1,2,3,8,9] (fun _:Nat=> [(1,iv 0),(2,iv 0),(3,iv 0),(8,bv true),(9,bv true)]) (fun _=> []) (fun _=>True) (fun _=>0) [] [] 0 (by kernel_rfl) (fun _=>rfl) rfl trivial trivial (by trivial) ?_
 rintro i _
 refine lV.i64 (by decide) ?_
 (refine mF [] (by kernel_rfl) (ajq) rfl ?_ ?_;(focus trivial))
 exact lZ [] (by trivial)
theorem U2:mQ Tryz.prog GC 154 [tl []] 0 [] (Is (.nN [])):=by
 refine lQ func154 rfl mixed (by kernel_rfl) ?_
 refine lV.to (y:=0) rfl ?_
 (refine mF [] (by kernel_rfl) (ajp) rfl ?_ ?_;(focus trivial))
 (refine mF [] (by kernel_rfl) (ajr) rfl ?_ ?_;(focus trivial))
 exact lZ [] (by trivial)
theorem Jm:mQ Tryz.prog GC 155 [tl []] 0 [] (Is (tl [])):=by
 refine lQ func155 rfl mixed (by kernel_rfl) ?_
 exact lZ [] (by trivial)
theorem U3:rF []=num 0++ints []:=by
 unfold rF
 simp [dsT,BM]
theorem ad4:mQ Tryz.prog GC 121 [tl []] 0 [] (Is (bs (rF []))):=by
 refine lQ func121 rfl mixed (by kernel_rfl) ?_
 (refine nO [] (by kernel_rfl) (ZM) ?_ ?_;(focus trivial))
 rintro _ _ _ (⟨rfl,rfl,rfl⟩|⟨rfl,rfl,rfl⟩)
 ·skip
  refine mY [] (by kernel_rfl) (U2) (by trivial) ?_
  refine mY [] (by kernel_rfl) (Jm) (by trivial) ?_
  refine mY [] (by kernel_rfl) (rE [] 0 (by unfold I64;omega) (by simp)) (by trivial) ?_
  refine mO Nj (0+2) [4,23] (fun k:Nat=> [(4, .own (0+1)),(23,iv k)]) (fun _=> [(0+1, .rows 5 1 ((num 0).map oh))]) (fun k=>k=0) (fun _=>0) [(0+1, .lab 0)] [] 0 (by kernel_rfl) (fun _=>rfl) rfl rfl ⟨⟨rfl,rfl,rfl⟩,trivial⟩ ⟨rfl,rfl,trivial⟩ ?_
  rintro k rfl
  refine mO Nk (0+2) [7,33] (fun k:Nat=> [(7, .v (.slice none 0 0)),(33,iv k)]) (fun _=> [(0+1, .rows 5 1 ((num 0).map oh))]) (fun k=>k=0) (fun _=>0) [] [] 0 (by kernel_rfl) (fun _=>rfl) rfl rfl ⟨⟨rfl,rfl,rfl⟩,trivial⟩ ⟨rfl,rfl,trivial⟩ ?_
  rintro k rfl
  refine mY [] (by kernel_rfl) (xg [] nP.nil (by simp)) (by trivial) ?_
  conv=>whnf
  have hib:=nR [] (by simp)
  have hn:=(ni 0).2
  refine lN.mk (lS (by simp only [ah];omega) (by kernel_rfl)) ?_
  refine lZ [0+2] ⟨rfl,rfl, ?_⟩
  rw [U3,aJ]
 ·skip
  refine mY [0] (by kernel_rfl) (U2) (by trivial) ?_
  refine mY [] (by kernel_rfl) (Jm) (by trivial) ?_
  refine mY [] (by kernel_rfl) (rE [] 0 (by unfold I64;omega) (by simp)) (by trivial) ?_
  refine mO Nj (1+2) [4,23] (fun k:Nat=> [(4, .own (1+1)),(23,iv k)]) (fun _=> [(1+1, .rows 5 1 ((num 0).map oh))]) (fun k=>k=0) (fun _=>0) [(1+1, .lab 1)] [] 0 (by kernel_rfl) (fun _=>rfl) rfl rfl ⟨⟨rfl,rfl,rfl⟩,trivial⟩ ⟨rfl,rfl,trivial⟩ ?_
  rintro k rfl
  refine mO Nk (1+2) [7,33] (fun k:Nat=> [(7, .v (.slice none 0 0)),(33,iv k)]) (fun _=> [(1+1, .rows 5 1 ((num 0).map oh))]) (fun k=>k=0) (fun _=>0) [] [] 0 (by kernel_rfl) (fun _=>rfl) rfl rfl ⟨⟨rfl,rfl,rfl⟩,trivial⟩ ⟨rfl,rfl,trivial⟩ ?_
  rintro k rfl
  refine mY [] (by kernel_rfl) (xg [] nP.nil (by simp)) (by trivial) ?_
  conv=>whnf
  have hib:=nR [] (by simp)
  have hn:=(ni 0).2
  refine lN.mk (lS (by simp only [ah];omega) (by kernel_rfl)) ?_
  refine lZ [1+2] ⟨rfl,rfl, ?_⟩
  rw [U3,aJ]
theorem Jo (l:Tx)(hs:l.length<=512)(ht:AA l):mQ Tryz.prog GC 121 [tl l] 0 [] (Is (bs (rF l))):=by
 by_cases h:l = []
 ·subst h;exact ad4
 ·exact ad3 l h hs ht
theorem ZN {a b:By}(h:(⟨a.toArray⟩:ByteArray)=⟨b.toArray⟩):a=b:=by
 injection h with h
 simpa using congrArg Array.toList h
end
theorem takeA (b:By)(n:Nat)(hn:n<=200):mQ Tryz.prog GC 72 [.ptr 0 0,iv n] 1 [(0,vw b 0)] (fun a m H=>a=bs (if n<=b.length then b.take n else [])∧m=1∧H = [(0,vw (if n<=b.length then b.drop n else b) (if n<=b.length then 0 else 16))]):=by
 refine lQ func72 rfl mixed (by kernel_rfl) ?_
 apply lK<;>intro h
 ·have hl : ¬n<=b.length:=by simp at h;omega
  simp only [hl,if_false]
  exact lX (bs []) 1 [(0,vw b 16)] [] [] ⟨rfl,rfl,rfl⟩ rfl (by trivial) (by trivial)
 have hl:n<=b.length:=by simp at h;omega
 simp only [hl,if_true]
 refine lN.mk ⟨je _,by rw [ah];omega⟩ ?_
 refine sN.mk' 0 n rfl rfl (au _) (by rw [ah];exact hl) ?_
 refine sN.mk' n b.length rfl (by rw [ah]) hl (by rw [ah];exact aA _) ?_
 exact lX (bs (b.take n)) 1 [(0,vw (b.drop n) 0)] [] [] ⟨rfl,rfl,rfl⟩ rfl ⟨⟨rfl,⟨rfl,bI.symm⟩,rfl,trivial⟩,trivial⟩ ⟨rfl,dU.symm⟩
theorem ZO (b:By)(e:Int)(he:e≠0):mQ Tryz.prog GC 72 [.ptr 0 0,iv 0] 1 [(0,vw b e)] (fun a m H=>a=bs []∧m=1∧H = [(0,vw b e)]):=by
 refine lQ func72 rfl mixed (by kernel_rfl) ?_
 have hq:(e==0)=false:=by simpa using he
 conv=>whnf
 rw [hq]
 apply lK<;>intro h
 rotate_left
 ·exfalso;simp at h;exact he h
 exact lX (bs []) 1 [(0,vw b e)] [] [] ⟨rfl,rfl,rfl⟩ rfl (by trivial) (by trivial)
theorem ajs (b:By)(e:Int)(hb:b.length<=3000000):mQ Tryz.prog GC 34 [.ptr 0 0,iv 200] 1 [(0,vw b e)] (fun a n H=>a=tv (FI b e).1∧n=1∧H = [(0,vw (b.drop (FI b e).2.1) (FI b e).2.2)]):=by
 have hL:=NV b e 200 4 hb (by decide) (by decide)
 have hr:=rW b e 200 4 (by decide) (by decide)
 have hz:(qg b e 200 4).2.2≠0->(qg b e 200 4).1=0:=fun h=>by rw [sZ]at h ⊢;simp only at h ⊢;rw [if_neg h]
 have hd:=GL b e
 generalize qg b e 200 4=c at *
 obtain⟨x,k,e'⟩:=c
 simp only at hL hr hz hd
 obtain⟨n,rfl⟩ : ∃n:Nat,x=(n:Int):=⟨x.toNat,by omega⟩
 have hn:n<=200:=by omega
 rw [dh]at hd
 by_cases he:e'=0
 ·subst he
  rw [if_pos rfl]at hd
  have hT:=takeA (b.drop k) n hn
  by_cases h:n<=(b.drop k).length
  ·have h2 : ¬((b.drop k).length:Int)<(n:Int):=by omega
   rw [if_neg h2]at hd
   rw [hd]
   simp only [h,if_true]at hT
   refine lQ func34 rfl mixed (by kernel_rfl) ?_
   refine pW [0] [] (by kernel_rfl) hL rfl (by trivial) (by trivial) rfl ?_
   refine pW [0] [] (by kernel_rfl) hT rfl (by trivial) (by trivial) rfl ?_
   refine F7.of ?_
   exact lX (tv ((b.drop k).take n)) 1 [(0,vw (b.drop (k+n)) 0)] [] [] ⟨rfl,rfl,rfl⟩ rfl ⟨⟨rfl,⟨rfl,by rw [dB]⟩,rfl,trivial⟩,trivial⟩ (by trivial)
  ·have h2:((b.drop k).length:Int)<(n:Int):=by omega
   rw [if_pos h2]at hd
   rw [hd]
   simp only [h,if_false]at hT
   refine lQ func34 rfl mixed (by kernel_rfl) ?_
   refine pW [0] [] (by kernel_rfl) hL rfl (by trivial) (by trivial) rfl ?_
   refine pW [0] [] (by kernel_rfl) hT rfl (by trivial) (by trivial) rfl ?_
   refine F7.of (s:= []) ?_
   exact lX (tv []) 1 [(0,vw (b.drop k) 16)] [] [] ⟨rfl,rfl,rfl⟩ rfl (by trivial) (by trivial)
 ·have h0:=hz he
  have hn0:n=0:=by omega
  subst hn0
  rw [if_neg he]at hd
  rw [hd]
  refine lQ func34 rfl mixed (by kernel_rfl) ?_
  refine pW [0] [] (by kernel_rfl) hL rfl (by trivial) (by trivial) rfl ?_
  refine pW [0] [] (by kernel_rfl) (ZO (b.drop k) e' he) rfl (by trivial) (by trivial) rfl ?_
  refine F7.of (s:= []) ?_
  exact lX (tv []) 1 [(0,vw (b.drop k) e')] [] [] ⟨rfl,rfl,rfl⟩ rfl (by trivial) (by trivial)
section
attribute [local irreducible] best ints en bd
def RTa (b:By)(a:AV)(m:Nat)(H:lM):Prop:= ∃l n e,OC b l n e∧a = .nN [tl l,iv (n:Nat),iv e]∧m=0∧H = []
structure TX where
 ks:Tx
 b:By
def KI (b:By)(n:Nat)(e:Int)(x:TX):Prop:=x.ks.length<=n∧AA x.ks∧(e=0->b=num (n:Int)++x.ks.flatMap qH++x.b)∧GT b fun l0 r=>e=0∧(dsT l0).length=n∧QT l0 r x.ks x.b
theorem y8 (b:By)(hb:b.length<=100000):mQ Tryz.prog GC 137 [bs b] 0 [] (RTa b):=by
 have hC:=EM b 0 512 (by omega) (by decide)
 have hcr:=rW b 0 512 5 (by decide) (by decide)
 have hhead:=U1 b
 have ho:=oN b 0
 have hz:(qg b 0 512 5).2.2≠0->(qg b 0 512 5).1=0:=fun h=>by rw [sZ]at h ⊢;simp only at h ⊢;rw [if_neg h]
 rw [<-hcr.2.2.1]at ho
 generalize qg b 0 512 5=c at *
 obtain⟨x,k,e⟩:=c
 simp only at hC hcr hhead hz ho
 obtain⟨n,rfl⟩ : ∃n:Nat,x=(n:Int):=⟨x.toNat,by omega⟩
 have hn:n<=512:=by omega
 have hk0:KI b n e ⟨[],b.drop k⟩:=⟨au _,fun _ h=>(by cases h),fun he=>by
  have:=hcr.2.2.2 he
  have h3:=(ho.2.2.1 this.1).2.1
  rw [<-this.2]at h3
  simpa using h3,fun l0 r hl ht hb=>by
  have:=hhead l0 r hl ht hb
  exact⟨this.1,by omega,this.2.2⟩⟩
 have hbl:(b.drop k).length<=100000:=qh hb
 generalize b.drop k=b1' at *
 clear hhead hcr ho
 refine lQ func137 rfl mixed (by kernel_rfl) ?_
 refine mY [] (by kernel_rfl) (NT b (by omega)) (by trivial) ?_
 refine pW [0] [] (by kernel_rfl) hC rfl (by trivial) (by trivial) rfl ?_
 refine mY [] (by kernel_rfl) (rE [] (n:Int) (nJ (by omega)) (by simp)) (by trivial) ?_
 refine mO abQ 3 [7,8,25] (fun x:TX=> [(7,iv ((num (n:Int)++x.ks.flatMap qH).length:Nat)),(8, .own 2),(25,iv x.ks.length)]) (fun x=> [(2, .rows 9 1 (x.ks.map wC)),(0,vw x.b e)]) (fun x=>x.b.length<=100000∧KI b n e x) (fun x=>n-x.ks.length) [(2, .nil)] [] ⟨[],b1'⟩ (by kernel_rfl) (fun _=>rfl) rfl ⟨hbl,hk0⟩ ⟨rfl,(by trivial),trivial⟩ ⟨congrArg (fun n:Nat=>Value.int .i64 (n:Int)) (by simp),trivial,rfl,trivial⟩ ?_
 rintro⟨ks,b'⟩ ⟨hb',hK⟩
 change b'.length<=100000 at hb'
 obtain⟨k1,k2,k3,k4⟩:=hK
 change ks.length<=n at k1
 change AA ks at k2
 change e=0->b=num (n:Int)++ks.flatMap qH++b' at k3
 change GT b fun l0 r=>e=0∧(dsT l0).length=n∧QT l0 r ks b' at k4
 have hkl:=yK ks k2
 have hnl:=(ni (n:Int)).2
 apply lK<;>intro h
 ·have hlt:ks.length<n:=by simp at h;omega
  have he:e=0:=fP fun he=>by have:=hz he;omega
  subst he
  have hT:=ajs b' 0 (by omega)
  have hto:=ZH b' 0
  have hstep:GT b fun l0 r=>(FI b' 0).2.2=0∧QT l0 r (ks++ [(FI b' 0).1]) (b'.drop (FI b' 0).2.1):=fun l0 r hl ht hbb=>by
   have:=k4 l0 r hl ht hbb
   exact this.2.2.step ht (by omega)
  generalize FI b' 0=t at *
  obtain⟨s,j,f⟩:=t
  simp only at hT hto hstep
  refine pW [0] [] (by kernel_rfl) hT rfl (by trivial) (by trivial) rfl ?_
  refine pW [0] [] (by kernel_rfl) (Dn (b'.drop j) f) rfl (by trivial) (by trivial) rfl ?_
  apply lK<;>intro h
  ·have hf:f≠0:=by simpa using h
   refine pW [0] [] (by kernel_rfl) (Dn (b'.drop j) f) rfl (by trivial) (by trivial) rfl ?_
   apply lK<;>intro h
   rotate_left
   ·exfalso;simp at h;exact hf h
   exact lX (.nN [tl [],iv (0:Nat),iv 1]) 0 [] [] [] ⟨[],0,1,OC.bad fun l0 r ha hl h=>hf (hstep l0 r ha hl h).1,rfl,rfl,rfl⟩ rfl trivial (by trivial)
  have hf:f=0:=by simpa using h
  subst hf
  conv=>whnf
  have alf:=hto.2.2.1 rfl
  refine lN.mk (lS (by simp only [ln];omega) (by kernel_rfl)) ?_
  conv=>whnf
  have hs2:=hto.1
  refine mY [] (by kernel_rfl) (afe [] s (by simp) hs2) (by trivial) ?_
  conv=>whnf
  have hpl:=Jk s hs2
  refine lV.i64 (by simp only [ln];omega) ?_
  refine lV.i64 (by simp only;omega) ?_
  conv=>whnf
  have hbd:(b'.drop j).length<=100000:=qh hb'
  have hfm:(ks++ [s]).flatMap qH=ks.flatMap qH++qH s:=by simp
  refine lU ⟨ks++ [s],b'.drop j⟩ [(2, .lab 4)] [] rfl (by show n -(ks++ [s]).length<n-ks.length;rw [ak];simp only [ln];omega) ⟨hbd,by show (ks++ [s]).length<=n;rw [ak];simp only [ln];omega,fun t ht=> ?_,fun _=> ?_,fun l0 r hl ht hbb=> ?_⟩ ⟨⟨rfl,rfl,(vN ks s).symm⟩,⟨rfl,⟨rfl,rfl⟩,rfl,trivial⟩,trivial⟩ ⟨?_,rfl, ?_,trivial⟩
  ·rcases bK.1 ht with h|h
   ·exact k2 t h
   ·rw [bF.1 h];exact hs2
  ·show b=num (n:Int)++(ks++ [s]).flatMap qH++b'.drop j
   rw [hfm,k3 rfl,aH,aH,aH, <-alf.2.1]
  ·exact⟨rfl,(k4 l0 r hl ht hbb).2.1,(hstep l0 r hl ht hbb).2⟩
  ·refine congrArg (fun n:Int=>Value.int .i64 n) ?_
   show _=((num (n:Int)++(ks++ [s]).flatMap qH).length:Int)
   rw [hfm]
   simp only [ah,ak,dO]
   omega
  ·refine congrArg (fun n:Int=>Value.int .i64 n) ?_
   show _=((ks++ [s]).length:Int)
   rw [ak];rfl
 ·have hkn:ks.length=n:=by simp at h;omega
  refine pW [0] [] (by kernel_rfl) (Dn b' e) rfl (by trivial) (by trivial) rfl ?_
  apply lK<;>intro h
  ·have he:e≠0:=by simpa using h
   exact lX (.nN [tl [],iv (0:Nat),iv 1]) 0 [] [] [] ⟨[],0,1,OC.bad fun l0 r ha hl h=>he (k4 l0 r ha hl h).1,rfl,rfl,rfl⟩ rfl trivial (by trivial)
  have he:e=0:=by simpa using h
  subst he
  have hbe:=k3 rfl
  have hbl:=congrArg List.length hbe
  simp only [ak]at hbl
  have hdrop:(b.map oh).drop (num (n:Int)++ks.flatMap qH).length=b'.map oh:=by
   rw [<-bI,hbe,eY rfl]
  have hfin:GT b fun l0 r=>ks=dsT l0∧b'=ints (BM (dsT l0) l0)++r:=fun l0 r hl ht hb=>by
   have:=k4 l0 r hl ht hb
   exact this.2.2.fin (by omega)
  refine sN.mk' (num (n:Int)++ks.flatMap qH).length b.length rfl (by rw [ah]) (by rw [ak];omega) (by rw [ah];exact aA _) ?_
  conv=>whnf
  rw [show cut (some (AV.v (.int .i64 (((num (n:Int)++ks.flatMap qH).length:Nat):Int)))) none (num (n:Int)++ks.flatMap qH).length b.length (b.map oh)=b'.map oh from hdrop]
  (refine nO [] (by kernel_rfl) (uX b' hb') ?_ ?_;(focus trivial))
  rintro _ _ _ ⟨il,m,f,hR,rfl,rfl,rfl⟩
  have hgood:GT b fun l0 r=>f=0∧il=BM (dsT l0) l0∧ks=dsT l0:=fun l0 r hl ht hb=>by
   have h1:=hfin l0 r hl ht hb
   have h2:=wB l0
   have h3:=hR.2.2.2 _ r (GK (dsT l0) l0 (fun x hx=>(tN l0 x).2 hx) (by omega)) (by rw [uM];exact hl) h1.2
   exact⟨h3.1,h3.2,h1.1⟩
  have hil:=hR.2.1
  have hR1:=hR.1
  clear hdrop hfin hR hC hk0
  apply lK<;>intro h
  ·have he:f≠0:=by simpa using h
   exact lX (.nN [tl [],iv (0:Nat),iv 1]) 0 [] [] [] ⟨[],0,1,OC.bad fun l0 r ha hl h=>he (hgood l0 r ha hl h).1,rfl,rfl,rfl⟩ rfl trivial (by trivial)
  refine mO abR 4 [9,57] (fun i:Nat=> [(9, .own 3),(57,iv i)]) (fun i=> [(3, .rows 9 1 ((Kr ks (il.take i)).map wC)),(2, .rows 9 1 (ks.map wC)),(0,vw b' 0)]) (fun i=>i<=il.length∧∀j (h:j<il.length),j<i->0<=il[j]∧il[j]<(ks.length:Int)) (fun i=>il.length-i) [(3, .nil)] [] 0 (by kernel_rfl) (fun _=>rfl) rfl ⟨au _,fun j _ h=>absurd h (gI j)⟩ ⟨rfl,⟨rfl,rfl,rfl⟩,(by trivial),trivial⟩ ⟨trivial,rfl,trivial⟩ ?_
  rintro i ⟨hi,hin⟩
  apply lK<;>intro h
  ·have hlt:i<il.length:=by simp at h;omega
   have hat:=aj hlt
   refine mZ.mk' i rfl (pU hlt) ?_
   refine mD.lT hat ?_
   conv=>whnf
   have hbad : ¬(0<=il[i]∧il[i]<(ks.length:Int))->GT b fun _ _=>False:=fun hx l0 r hl ht hb=>by
    obtain⟨_,h2,h3⟩:=hgood l0 r hl ht hb
    have hlt':i<(BM (dsT l0) l0).length:=by rw [<-h2];exact hlt
    have e:il[i]=(BM (dsT l0) l0)[i]'hlt':=by simp only [h2]
    rw [uM]at hlt'
    have e2:il[i]=((wu (dsT l0) l0[i]:Nat):Int):=by rw [e];simp [BM]
    have:=(y7 ((tN l0 l0[i]).2 (aT hlt'))).1
    exact hx (by rw [h3];omega)
   have hstep : ∀q:Nat,il[i]=(q:Int)->∀x,ks[q]? = some x->Kr ks (il.take (i+1))=Kr ks (il.take i)++ [x]:=fun q hq x hx=>Qq hlt hq hx
   have hnx:(0<=il[i]∧il[i]<(ks.length:Int))->∀j (h:j<il.length),j<i+1->0<=il[j]∧il[j]<(ks.length:Int):=fun hx j h hj=>by
    rcases dP j i with h4|h4
    ·exact hin j h h4
    ·have:j=i:=by omega
     subst this;exact hx
   have hxI:I64 il[i]:=hR1 _ (aT hlt)
   generalize il[i]=x at *
   apply lK<;>intro h
   ·have hx:x<0:=by simpa using h
    exact lX (.nN [tl [],iv (0:Nat),iv 1]) 0 [] [] [] ⟨[],0,1,OC.bad (hbad (by omega)),rfl,rfl,rfl⟩ rfl trivial (by trivial)
   have hx0:0<=x:=by simpa using h
   apply lK<;>intro h
   ·have hx:(ks.length:Int)<=x:=by simpa using h
    exact lX (.nN [tl [],iv (0:Nat),iv 1]) 0 [] [] [] ⟨[],0,1,OC.bad (hbad (by omega)),rfl,rfl,rfl⟩ rfl trivial (by trivial)
   have hx1:x<(ks.length:Int):=by simp at h;omega
   obtain⟨q,rfl⟩ : ∃q:Nat,x=(q:Int):=⟨x.toNat,by omega⟩
   have hq:q<ks.length:=by omega
   have hkq:=aj hq
   refine mZ.mk' q rfl (pU hq) ?_
   refine mD.lT hkq ?_
   conv=>whnf
   have e1:=hstep q rfl ks[q] hkq
   have htl:(Kr ks (il.take i)).length<=512:=by rw [GN,aK];omega
   refine lN.mk (lS (by simp only [ln];omega) (by kernel_rfl)) ?_
   refine lV.i64 (by omega) ?_
   exact lU (i+1) [(3, .lab 5)] [] rfl (by show il.length -(i+1)<il.length-i;omega) ⟨hlt,hnx ⟨hx0,hx1⟩⟩ ⟨⟨rfl,rfl,by rw [e1];exact(vN _ _).symm⟩,⟨rfl,rfl,rfl⟩,⟨rfl,(by trivial)⟩,trivial⟩ ⟨rfl,rfl,trivial⟩
  ·have hie:i=il.length:=by simp at h;omega
   subst hie
   rw [aW]
   have hl5:(Kr ks il).length<=512:=by rw [GN];exact hil
   have hok:=ZJ k2 il
   have hG:GT b fun l0 r=>Kr ks il=l0:=fun l0 r hl ht hb=>by
    obtain⟨_,h2,h3⟩:=hgood l0 r hl ht hb
    rw [h2,h3]
    exact ZI fun x hx=>(tN l0 x).2 hx
   generalize Kr ks il=l at *
   conv=>whnf
   have hT:=Jo l hl5 hok
   have hpre:=y5 b (rF l)
   refine mY [3] (by kernel_rfl) (hT) (by trivial) ?_
   (refine mF [] (by kernel_rfl) (hpre) rfl ?_ ?_;(focus trivial))
   apply lK<;>intro h
   ·have hp : ¬b.take (rF l).length=rF l:=by simpa using h
    exact lX (.nN [tl [],iv (0:Nat),iv 1]) 0 [] [] [] ⟨[],0,1,OC.bad fun l0 r ha hl h=>hp (by rw [hG l0 r ha hl h,h,dZ rfl]),rfl,rfl,rfl⟩ rfl trivial (by trivial)
   ·have hp:b.take (rF l).length=rF l:=by simpa using h
    exact lX (.nN [tl l,iv ((rF l).length:Nat),iv 0]) 0 [] [] [] ⟨l,(rF l).length,0,⟨hok,hl5, .inl ⟨rfl,rfl,hp⟩,fun l0 r ha hl h=>⟨rfl,hG l0 r ha hl h⟩⟩,rfl,rfl,rfl⟩ rfl trivial ⟨⟨rfl,rfl⟩,congrArg (fun n:Nat=>Value.int .i64 (n:Int)) (ah _),rfl,trivial⟩
end
abbrev hdA (g f i n:Int):AV:= .agg [iv g,iv f,iv i,iv n]
theorem Jp (n k:Nat)(m:Nat)(hm:m=k):IntKind.u8.wrap ((n:Int).fdiv (2^m))=((bt (n/2^k)).toNat:Int):=by
 subst hm
 rw [IntKind.wrap_u8,gB _ (Int.le_of_lt (Int.pow_pos (by decide))),Jb]
 have e:((n:Int)/2^m)=((n/2^m:Nat):Int):=by simp
 rw [e];omega
theorem ZP (n:Nat):IntKind.u8.wrap (n:Int)=((bt n).toNat:Int):=by
 rw [IntKind.wrap_u8,Jb];omega
theorem ajt (G:Glob)(g f i n:Nat)(h1:g<4294967296)(h2:f<65536)(h3:i<256)(h4:n<256):mQ Tryz.prog G 67 [hdA g f i n] 0 [] (Is (bs (hd g f i n))):=by
 refine lQ func67 rfl mixed (by kernel_rfl) ?_
 conv=>whnf
 repeat' (first|(refine lN.mk (by decide) ?_;conv=>whnf)|(refine lV.to (Jp g 24 _ rfl) ?_;conv=>whnf)|(refine lV.to (Jp g 16 _ rfl) ?_;conv=>whnf)|(refine lV.to (Jp g 8 _ rfl) ?_;conv=>whnf)|(refine lV.to (Jp f 8 _ rfl) ?_;conv=>whnf)|(refine lV.to (ZP _) ?_;conv=>whnf))
 refine lZ [1] ⟨rfl,rfl, ?_⟩
 simp only [hd,be,iQ,List.range_zero,dO,gG,jB,aJ,List.singleton_append,iq,oh]
 simp
theorem ZQ (a b:Int)(l:By):0<=Dg.CY a b l∧Dg.CY a b l<18446744073709551616:=by
 unfold Dg.CY Dg.S4.done Dg.xor
 simp only [nD]
 rw [IntKind.wrap_u64]
 omega
theorem aff (g f i n:Nat)(d:By):hw g f i n d<18446744073709551616∧hsh 101 [hd g f i n,d]=(hw g f i n d:Int):=by
 have h:=ZQ 101 0 (Dg.frame [hd g f i n,d])
 unfold hw hsh
 omega
theorem Jq (a b:By):(Dg.frame [a,b]).length=16+a.length+b.length:=by
 simp only [Dg.frame,ak,Dg.uT,fK];omega
theorem U4 (G:Glob)(g f i n:Nat)(d:By)(h1:g<4294967296)(h2:f<65536)(h3:i<256)(h4:n<256)(hd_:d.length<=1000):mQ Tryz.prog G 29 [hdA g f i n,bs d] 0 [] (Is (bs (sec g f i n d))):=by
 obtain⟨hH1,hH2⟩:=aff g f i n d
 have hP:=ajt G g f i n h1 h2 h3 h4
 have hh:=ajc G 101 [hd g f i n,d] (show 2<=1000 by decide) (by rw [Jq,Aq];omega)
 have hl:=Aq g f i n
 have hW:=Y8 G (hd g f i n) (hw g f i n d) (by omega) hH1
 rw [hH2]at hh
 have hl2:(hd g f i n++be 8 (hw g f i n d)).length=16:=by rw [ak,uV,hl]
 have hs:sec g f i n d=hd g f i n++be 8 (hw g f i n d)++d:=rfl
 rw [hs]
 clear hs
 generalize hd g f i n++be 8 (hw g f i n d)=x at *
 generalize hw g f i n d=y at *
 generalize hd g f i n=z at *
 refine lQ func29 rfl mixed (by kernel_rfl) ?_
 refine mY [] (by kernel_rfl) (hP) (by trivial) ?_
 refine mY [] (by kernel_rfl) (hP) (by trivial) ?_
 (refine mF [1] (by kernel_rfl) (hh) rfl ?_ ?_;(focus trivial))
 refine mY [] (by kernel_rfl) hW (by trivial) ?_
 refine lN.mk (lS (by simp only [ah];omega) (by kernel_rfl)) ?_
 refine lZ [3] ⟨rfl,rfl, ?_⟩
 simp only [aJ]
theorem Qs (G:Glob)(a b:By):mQ Tryz.prog G 36 [bs a,bs b] 0 [] (Is (bv (decide (a=b)))):=by
 refine lQ func36 rfl mixed (by kernel_rfl) ?_
 refine F7.of ?_
 refine F7.of ?_
 refine lZ [] ?_
 exact congrArg Value.bool (qP a b)
theorem Qu (s:By):hG s<4294967296:=by
 unfold hG
 have:=NK (s.take 4)
 have h2:(s.take 4).length<=4:=List.length_take_le ..
 have h3:256^(s.take 4).length<=256^4:=dL (by decide) h2
 have h4:(256:Nat)^4=4294967296:=by decide
 omega
theorem NY (a b:Nat)(ha:a<4611686018427387904)(hb:b<4611686018427387904):nD .or .i64 a b=((a ||| b:Nat):Int):=by
 have e:IntKind.i64.bits=64:=rfl
 have h:=jP (n:=62) ha hb
 simp only [nD,e,wP,kW,fQ]
 rw [cZ (by omega),cZ (by omega)]
 exact IntWalk.i64_in _ (by omega)
theorem or_hi (c k a:Nat)(ha:a<2^k):c*2^k ||| a=c*2^k+a:=by rw [Nat.or_comm,EH k c ha,lH]
theorem aju {s:By}(h:s.length=64):hG s=(s.getD 0 0).toNat*16777216+(s.getD 1 0).toNat*65536+(s.getD 2 0).toNat*256+(s.getD 3 0).toNat:=by
 match s,h with
 | a::b::c::d::r,_=>
  simp only [hG,Lr,iL,jv,eX,List.foldl_nil,List.getD_cons_zero,kD]
  omega
theorem ajv {s:By}(h:s.length=64):hF s=(s.getD 4 0).toNat*256+(s.getD 5 0).toNat:=by
 match s,h with
 | _::_::_::_::a::b::r,_=>
  simp only [hF,Lr,List.drop_succ_cons,dJ,iL,jv,eX,List.foldl_nil,List.getD_cons_zero,kD]
  omega
theorem ZR {a b c d:Nat}(ha:a<256)(hb:b<256)(hc:c<256)(hd:d<256):nD .or .i64 (nD .or .i64 (nD .or .i64 ((a*16777216:Nat):Int) ((b*65536:Nat):Int)) ((c*256:Nat):Int)) (d:Int)=((a*16777216+b*65536+c*256+d:Nat):Int):=by
 have e1:a*16777216 ||| b*65536=a*16777216+b*65536:=or_hi a 24 (b*65536) (by omega)
 have e2:(a*16777216+b*65536) ||| c*256=a*16777216+b*65536+c*256:=by
  have:=or_hi (a*256+b) 16 (c*256) (by omega)
  rw [show (a*256+b)*2^16=a*16777216+b*65536 by omega]at this
  exact this
 have e3:(a*16777216+b*65536+c*256) ||| d=a*16777216+b*65536+c*256+d:=by
  have:=or_hi (a*65536+b*256+c) 8 d (by omega)
  rw [show (a*65536+b*256+c)*2^8=a*16777216+b*65536+c*256 by omega]at this
  exact this
 rw [NY _ _ (by omega) (by omega),e1,NY _ _ (by omega) (by omega),e2,NY _ _ (by omega) (by omega),e3]
theorem ZT {a b:Nat}(ha:a<256)(hb:b<256):nD .or .i64 ((a*256:Nat):Int) (b:Int)=((a*256+b:Nat):Int):=by
 rw [NY _ _ (by omega) (by omega),show a*256 ||| b=a*256+b from or_hi a 8 b (by omega)]
theorem Dp {a:Nat}(ha:a<256)(k:Nat)(m e:Nat)(he:e=k)(hm:2^k=m)(h:m<=16777216):IntKind.i64.wrap ((a:Int)*2^e)=((a*m:Nat):Int):=by
 subst he
 have:(2:Int)^e=(m:Int):=by rw [<-hm];simp
 rw [this, <-dN]
 have:=jd (show a<=255 by omega) h
 exact IntWalk.i64_in _ (by omega)
theorem TA (G:Glob)(s:By):mQ Tryz.prog G 32 [bs s] 0 [] (fun a n H=>n=0∧H = []∧∃g f i m:Nat,a = .nN [hdA g f i m,bv (wo s)]∧(wo s=true->g=hG s∧f=hF s∧i=hI s∧m=hN s)):=by
 refine lQ func32 rfl mixed (by kernel_rfl) ?_
 apply lK<;>intro h
 ·have hl:s.length≠64:=by simp at h;omega
  have hr:wo s=false:=by simp [wo,hl]
  exact lX (.nN [hdA 0 0 0 0,bv false]) 0 [] [] [] ⟨rfl,rfl,0,0,0,0,by rw [hr];rfl,fun h=>by rw [hr]at h;cases h⟩ rfl trivial (by trivial)
 have hl:s.length=64:=by simp at h;omega
 have hk : ∀k,k<64->s[k]? = some (s.getD k 0):=fun k hk=>by rw [ay,aj (by omega),bH]
 have e1:=aju hl
 have e2:=ajv hl
 have e3:hI s=(s.getD 6 0).toNat:=rfl
 have e4:hN s=(s.getD 7 0).toNat:=rfl
 have k0:=hk 0 (by decide)
 have k1:=hk 1 (by decide)
 have k2:=hk 2 (by decide)
 have k3:=hk 3 (by decide)
 have k4:=hk 4 (by decide)
 have k5:=hk 5 (by decide)
 have k6:=hk 6 (by decide)
 have k7:=hk 7 (by decide)
 have hr:wo s=(decide (0<hG s)&&(decide (hI s<hN s)&&decide (s=sec (hG s) (hF s) (hI s) (hN s) (s.drop 16)))):=by
  unfold wo;rw [decide_eq_true hl,gW]
 have hgl:=Qu s
 rw [e1,e2,e3,e4]at hr ⊢
 generalize s.getD 0 0=a0 at *
 generalize s.getD 1 0=a1 at *
 generalize s.getD 2 0=a2 at *
 generalize s.getD 3 0=a3 at *
 generalize s.getD 4 0=a4 at *
 generalize s.getD 5 0=a5 at *
 generalize s.getD 6 0=a6 at *
 generalize s.getD 7 0=a7 at *
 have l0:=a0.toNat_lt
 have l1:=a1.toNat_lt
 have l2:=a2.toNat_lt
 have l3:=a3.toNat_lt
 have l4:=a4.toNat_lt
 have l5:=a5.toNat_lt
 have l6:=a6.toNat_lt
 have l7:=a7.toNat_lt
 clear hk
 have q0:IntKind.i64.wrap ((a0.toNat:Int)*2^min (Int.toNat 24) IntKind.i64.bits)=_:=Dp l0 24 16777216 _ rfl (by decide) (by decide)
 have q1:IntKind.i64.wrap ((a1.toNat:Int)*2^min (Int.toNat 16) IntKind.i64.bits)=_:=Dp l1 16 65536 _ rfl (by decide) (by decide)
 have q2:IntKind.i64.wrap ((a2.toNat:Int)*2^min (Int.toNat 8) IntKind.i64.bits)=_:=Dp l2 8 256 _ rfl (by decide) (by decide)
 have q4:IntKind.i64.wrap ((a4.toNat:Int)*2^min (Int.toNat 8) IntKind.i64.bits)=_:=Dp l4 8 256 _ rfl (by decide) (by decide)
 refine xY aeV [] [(4,4),(9,49)] 2 [(4, .ptr 1 0)] [(1, .var 59 [iv ((a0.toNat*16777216+a1.toNat*65536+a2.toNat*256+a3.toNat:Nat):Int),iv ((a4.toNat*256+a5.toNat:Nat):Int),iv (a6.toNat:Nat),iv (a7.toNat:Nat)]),(0, .var 59 [iv 0,iv 0,iv 0,iv 0])] (by kernel_rfl) (by kernel_rfl) ?_ ?_
 ·conv=>whnf
  repeat' (first
   | (refine mZ.mk' 0 rfl (by rw [ah];omega) ?_;conv=>whnf)|(refine mZ.mk' 1 rfl (by rw [ah];omega) ?_;conv=>whnf)|(refine mZ.mk' 2 rfl (by rw [ah];omega) ?_;conv=>whnf)|(refine mZ.mk' 3 rfl (by rw [ah];omega) ?_;conv=>whnf)|(refine mZ.mk' 4 rfl (by rw [ah];omega) ?_;conv=>whnf)|(refine mZ.mk' 5 rfl (by rw [ah];omega) ?_;conv=>whnf)|(refine mZ.mk' 6 rfl (by rw [ah];omega) ?_;conv=>whnf)|(refine mZ.mk' 7 rfl (by rw [ah];omega) ?_;conv=>whnf)
   | (refine mD.lT k0 ?_;conv=>whnf)|(refine mD.lT k1 ?_;conv=>whnf)|(refine mD.lT k2 ?_;conv=>whnf)|(refine mD.lT k3 ?_;conv=>whnf)
   | (refine mD.lT k4 ?_;conv=>whnf)|(refine mD.lT k5 ?_;conv=>whnf)|(refine mD.lT k6 ?_;conv=>whnf)|(refine mD.lT k7 ?_;conv=>whnf)
   | (refine lN.mk (by decide) ?_;conv=>whnf)
   | (refine lV.i64 (by omega) ?_;conv=>whnf)
   | (with_reducible refine lV.to q0 ?_;conv=>whnf)
   | (with_reducible refine lV.to q1 ?_;conv=>whnf)
   | (with_reducible refine lV.to q2 ?_;conv=>whnf)
   | (with_reducible refine lV.to q4 ?_;conv=>whnf))
  refine nH [(1, .lab 1)] [] ?_ ?_ ?_
  ·rfl
  ·rw [ZR l0 l1 l2 l3,ZT l4 l5]
   trivial
  ·trivial
 have hf5:a4.toNat*256+a5.toNat<65536:=by omega
 rw [e1]at hgl
 clear q0 q1 q2 q4 k0 k1 k2 k3 k4 k5 k6 k7 e1 e2 e3 e4
 generalize a0.toNat*16777216+a1.toNat*65536+a2.toNat*256+a3.toNat=g at *
 generalize a4.toNat*256+a5.toNat=f at *
 generalize a6.toNat=i at *
 generalize a7.toNat=m at *
 have alh:(s.drop 16).length=48:=by rw [aS,hl]
 have hS:=fun h=>U4 G g f i m (s.drop 16) hgl hf5 l6 l7 h
 have hS:=hS (by omega)
 have hs2:s.length=64:=hl
 refine mP aeV [0] (by kernel_rfl) ?_
 refine NP [0,1,2,3,4] ?_
 refine⟨Gy 54 rfl (fun h=> ?_) (fun h=> ?_)⟩
 ·have hg0:0<g:=by have:=of_decide_eq_true h;omega
  refine NP [5,6,7,8,9,10,11] ?_
  refine⟨Gy 61 rfl (fun h=> ?_) (fun h=> ?_)⟩
  ·have him:i<m:=by have:=of_decide_eq_true h;omega
   have hrr:wo s=decide (sec g f i m (s.drop 16)=s):=by
    rw [hr,decide_eq_true hg0,decide_eq_true him,gW,gW]
    exact decide_eq_decide.2 eq_comm
   refine sN.mk' 16 s.length rfl (by rw [ah]) (by omega) (by rw [ah];exact aA _) ?_
   refine mY [] (by kernel_rfl) hS ⟨(by trivial),⟨rfl,bI.symm⟩,trivial⟩ ?_
   refine mF [] (by kernel_rfl) (Qs G s (sec g f i m (s.drop 16))) rfl (by trivial) ?_
   exact lX (.nN [hdA g f i m,bv (wo s)]) 0 [] [] [] ⟨rfl,rfl,g,f,i,m,rfl,fun _=>⟨rfl,rfl,rfl,rfl⟩⟩ rfl trivial ⟨(by trivial),congrArg Value.bool (by rw [hrr];exact decide_eq_decide.2 eq_comm),trivial⟩
  ·have him : ¬i<m:=by have:=of_decide_eq_false h;omega
   have hrr:wo s=false:=by rw [hr,decide_eq_false him,dY,Bool.and_false]
   exact lX (.nN [hdA g f i m,bv (wo s)]) 0 [] [] [] ⟨rfl,rfl,g,f,i,m,rfl,fun _=>⟨rfl,rfl,rfl,rfl⟩⟩ rfl trivial ⟨(by trivial),congrArg Value.bool hrr.symm,trivial⟩
 ·have hg0:g=0:=by have:=of_decide_eq_false h;omega
  have hrr:wo s=false:=by rw [hr,decide_eq_false (by omega),dY]
  exact lX (.nN [hdA g f i m,bv (wo s)]) 0 [] [] [] ⟨rfl,rfl,g,f,i,m,rfl,fun _=>⟨rfl,rfl,rfl,rfl⟩⟩ rfl trivial ⟨(by trivial),congrArg Value.bool hrr.symm,trivial⟩
end Go.Proofs.YtocckceefcmeaaaGreatDoor.Cl
