/- Joined parts of the proof. Library contracts at this program (written by the kit's command lay-plain) -/
import Derived.Shelf.Sort.Plain
import Derived.Shelf.Bits.Mul64
import Derived.Ground.Names2Prog
import Derived.Shelf.Slices.CompactI
import Derived.Shelf.Slices.CompactS
import Derived.Test.YtocckceefcmeaaaGreatDoorProg
import Derived.Test.YtocckceefcmeaaaGreatDoorPk7
import Derived.Sort.Walk0
set_option linter.unusedVariables false
set_option linter.unusedSimpArgs false
set_option maxRecDepth 100000
set_option maxHeartbeats 16000000
namespace Go.Proofs
open Go.Shelf
def Tryz.lays189_ren:Go.Shelf.Ren:=⟨fun|189=>203|125=>173|257=>216|128=>198|129=>199|294=>222|295=>223|296=>224|297=>225|298=>226|299=>227|216=>217|300=>228|301=>229|328=>231|329=>211|330=>212|331=>232|332=>233|215=>230|343=>234|n=>n,fun|28=>24|3=>3|46=>35|0=>0|51=>215|53=>74|4=>4|183=>220|182=>219|131=>148|5=>5|9=>9|218=>240|222=>166|228=>251|229=>135|n=>n,fun|n=>n⟩
theorem Tryz.lays189:Go.Proofs.Lays.n189 Tryz.prog Tryz.lays189_ren:= {
 mixed:=by kernel_rfl
 f125:=func173.trans (congrArg some (by kernel_rfl))
 f128:=func198.trans (congrArg some (by kernel_rfl))
 f129:=func199.trans (congrArg some (by kernel_rfl))
 f189:=func203.trans (congrArg some (by kernel_rfl))
 f215:=func230.trans (congrArg some (by kernel_rfl))
 f216:=func217.trans (congrArg some (by kernel_rfl))
 f257:=func216.trans (congrArg some (by kernel_rfl))
 f294:=func222.trans (congrArg some (by kernel_rfl))
 f295:=func223.trans (congrArg some (by kernel_rfl))
 f296:=func224.trans (congrArg some (by kernel_rfl))
 f297:=func225.trans (congrArg some (by kernel_rfl))
 f298:=func226.trans (congrArg some (by kernel_rfl))
 f299:=func227.trans (congrArg some (by kernel_rfl))
 f300:=func228.trans (congrArg some (by kernel_rfl))
 f301:=func229.trans (congrArg some (by kernel_rfl))
 f328:=func231.trans (congrArg some (by kernel_rfl))
 f329:=func211.trans (congrArg some (by kernel_rfl))
 f330:=func212.trans (congrArg some (by kernel_rfl))
 f331:=func232.trans (congrArg some (by kernel_rfl))
 f332:=func233.trans (congrArg some (by kernel_rfl))
 f343:=func234.trans (congrArg some (by kernel_rfl))
 t0:=underlying0
 a0:=Tryz.isAgg0
 z0:=Tryz.sizeOf0
 v0:=Tryz.zeroValue0
 t3:=underlying3
 a3:=Tryz.isAgg3
 z3:=Tryz.sizeOf3
 v3:=Tryz.zeroValue3
 t4:=underlying4
 a4:=Tryz.isAgg4
 z4:=Tryz.sizeOf4
 v4:=Tryz.zeroValue4
 t5:=underlying5
 a5:=Tryz.isAgg5
 z5:=Tryz.sizeOf5
 v5:=Tryz.zeroValue5
 t9:=underlying9
 a9:=Tryz.isAgg9
 z9:=Tryz.sizeOf9
 v9:=Tryz.zeroValue9
 t28:=underlying24
 a28:=Tryz.isAgg24
 z28:=Tryz.sizeOf24
 v28:=Tryz.zeroValue24
 t46:=underlying35
 a46:=Tryz.isAgg35
 z46:=Tryz.sizeOf35
 v46:=Tryz.zeroValue35
 t51:=underlying215
 a51:=Tryz.isAgg215
 z51:=Tryz.sizeOf215
 v51:=Tryz.zeroValue215
 t53:=underlying74
 a53:=Tryz.isAgg74
 z53:=Tryz.sizeOf74
 v53:=Tryz.zeroValue74
 t131:=underlying148
 a131:=Tryz.isAgg148
 z131:=Tryz.sizeOf148
 v131:=Tryz.zeroValue148
 t182:=underlying219
 a182:=Tryz.isAgg219
 z182:=Tryz.sizeOf219
 v182:=Tryz.zeroValue219
 t183:=underlying220
 a183:=Tryz.isAgg220
 z183:=Tryz.sizeOf220
 v183:=Tryz.zeroValue220
 t218:=underlying240
 a218:=Tryz.isAgg240
 z218:=Tryz.sizeOf240
 v218:=Tryz.zeroValue240
 t222:=underlying166
 a222:=Tryz.isAgg166
 z222:=Tryz.sizeOf166
 v222:=Tryz.zeroValue166
 t228:=underlying251
 a228:=Tryz.isAgg251
 z228:=Tryz.sizeOf251
 v228:=Tryz.zeroValue251
 t229:=underlying135
 a229:=Tryz.isAgg135
 z229:=Tryz.sizeOf135
 v229:=Tryz.zeroValue135}
open Go.Sort Go.RowKit in
theorem Tryz.slices_Sort_int (blk off cap:Nat)(zs:List Int)(w:World)(hH:Holds (Value.int .i64) w blk off zs.toArray)(hblk:blk<w.heap.size)(hsz:zs.length<4611686018427387904) :
  Calls Tryz.prog 203 #[.slice (some ⟨blk,off,none⟩) zs.length cap] w fun e w'=>
   e = .returned (.tuple #[])∧∃n os,w'=grow (putRow (Value.int .i64) (Sort.ahead w n) blk off (zs.mergeSort fun x y=>decide (x<=y)).toArray) os:=Any.slices_Sort_int Tryz.lays189 blk off cap zs w hH hblk hsz
def Tryz.lays190_ren:Go.Shelf.Ren:=⟨fun|190=>154|125=>173|258=>172|128=>198|129=>199|302=>190|303=>191|304=>192|305=>193|306=>194|307=>195|308=>174|309=>196|310=>197|333=>210|329=>211|330=>212|334=>213|335=>214|336=>200|344=>219|n=>n,fun|31=>133|9=>9|3=>3|46=>35|0=>0|51=>215|53=>74|4=>4|183=>220|182=>219|131=>148|5=>5|218=>240|222=>166|228=>251|229=>135|n=>n,fun|n=>n⟩
theorem Tryz.lays190:Go.Proofs.Lays.n190 Tryz.prog Tryz.lays190_ren:= {
 mixed:=by kernel_rfl
 f125:=func173.trans (congrArg some (by kernel_rfl))
 f128:=func198.trans (congrArg some (by kernel_rfl))
 f129:=func199.trans (congrArg some (by kernel_rfl))
 f190:=func154.trans (congrArg some (by kernel_rfl))
 f258:=func172.trans (congrArg some (by kernel_rfl))
 f302:=func190.trans (congrArg some (by kernel_rfl))
 f303:=func191.trans (congrArg some (by kernel_rfl))
 f304:=func192.trans (congrArg some (by kernel_rfl))
 f305:=func193.trans (congrArg some (by kernel_rfl))
 f306:=func194.trans (congrArg some (by kernel_rfl))
 f307:=func195.trans (congrArg some (by kernel_rfl))
 f308:=func174.trans (congrArg some (by kernel_rfl))
 f309:=func196.trans (congrArg some (by kernel_rfl))
 f310:=func197.trans (congrArg some (by kernel_rfl))
 f329:=func211.trans (congrArg some (by kernel_rfl))
 f330:=func212.trans (congrArg some (by kernel_rfl))
 f333:=func210.trans (congrArg some (by kernel_rfl))
 f334:=func213.trans (congrArg some (by kernel_rfl))
 f335:=func214.trans (congrArg some (by kernel_rfl))
 f336:=func200.trans (congrArg some (by kernel_rfl))
 f344:=func219.trans (congrArg some (by kernel_rfl))
 t0:=underlying0
 a0:=Tryz.isAgg0
 z0:=Tryz.sizeOf0
 v0:=Tryz.zeroValue0
 t3:=underlying3
 a3:=Tryz.isAgg3
 z3:=Tryz.sizeOf3
 v3:=Tryz.zeroValue3
 t4:=underlying4
 a4:=Tryz.isAgg4
 z4:=Tryz.sizeOf4
 v4:=Tryz.zeroValue4
 t5:=underlying5
 a5:=Tryz.isAgg5
 z5:=Tryz.sizeOf5
 v5:=Tryz.zeroValue5
 t9:=underlying9
 a9:=Tryz.isAgg9
 z9:=Tryz.sizeOf9
 v9:=Tryz.zeroValue9
 t31:=underlying133
 a31:=Tryz.isAgg133
 z31:=Tryz.sizeOf133
 v31:=Tryz.zeroValue133
 t46:=underlying35
 a46:=Tryz.isAgg35
 z46:=Tryz.sizeOf35
 v46:=Tryz.zeroValue35
 t51:=underlying215
 a51:=Tryz.isAgg215
 z51:=Tryz.sizeOf215
 v51:=Tryz.zeroValue215
 t53:=underlying74
 a53:=Tryz.isAgg74
 z53:=Tryz.sizeOf74
 v53:=Tryz.zeroValue74
 t131:=underlying148
 a131:=Tryz.isAgg148
 z131:=Tryz.sizeOf148
 v131:=Tryz.zeroValue148
 t182:=underlying219
 a182:=Tryz.isAgg219
 z182:=Tryz.sizeOf219
 v182:=Tryz.zeroValue219
 t183:=underlying220
 a183:=Tryz.isAgg220
 z183:=Tryz.sizeOf220
 v183:=Tryz.zeroValue220
 t218:=underlying240
 a218:=Tryz.isAgg240
 z218:=Tryz.sizeOf240
 v218:=Tryz.zeroValue240
 t222:=underlying166
 a222:=Tryz.isAgg166
 z222:=Tryz.sizeOf166
 v222:=Tryz.zeroValue166
 t228:=underlying251
 a228:=Tryz.isAgg251
 z228:=Tryz.sizeOf251
 v228:=Tryz.zeroValue251
 t229:=underlying135
 a229:=Tryz.isAgg135
 z229:=Tryz.sizeOf135
 v229:=Tryz.zeroValue135}
open Go.Sort Go.RowKit in
theorem Tryz.slices_Sort_string (blk off cap:Nat)(ss:List (List UInt8))(w:World)(hH:Holds encStr w blk off ss.toArray)(hblk:blk<w.heap.size)(hsz:ss.length<4611686018427387904) :
  Calls Tryz.prog 154 #[.slice (some ⟨blk,off,none⟩) ss.length cap] w fun e w'=>
   e = .returned (.tuple #[])∧∃n os,w'=grow (putRow encStr (Sort.ahead w n) blk off (ss.mergeSort fun x y=>decide (x<=y)).toArray) os:=Any.slices_Sort_string Tryz.lays190 blk off cap ss w hH hblk hsz
def Tryz.lays212_ren:Go.Shelf.Ren:=⟨fun|212=>215|263=>220|264=>221|n=>n,fun|46=>35|51=>215|146=>253|53=>74|148=>255|n=>n,fun|n=>n⟩
theorem Tryz.lays212:Go.Proofs.Lays.n212 Tryz.prog Tryz.lays212_ren:= {
 mixed:=by kernel_rfl
 f212:=func215.trans (congrArg some (by kernel_rfl))
 f263:=func220.trans (congrArg some (by kernel_rfl))
 f264:=func221.trans (congrArg some (by kernel_rfl))
 t46:=underlying35
 a46:=Tryz.isAgg35
 z46:=Tryz.sizeOf35
 v46:=Tryz.zeroValue35
 t51:=underlying215
 a51:=Tryz.isAgg215
 z51:=Tryz.sizeOf215
 v51:=Tryz.zeroValue215
 t53:=underlying74
 a53:=Tryz.isAgg74
 z53:=Tryz.sizeOf74
 v53:=Tryz.zeroValue74
 t146:=underlying253
 a146:=Tryz.isAgg253
 z146:=Tryz.sizeOf253
 v146:=Tryz.zeroValue253
 t148:=underlying255
 a148:=Tryz.isAgg255
 z148:=Tryz.sizeOf255
 v148:=Tryz.zeroValue255}
open Go.RowKit Go.Lib in
theorem Tryz.bits_Mul (x y:Nat)(hx:x<18446744073709551616)(hy:y<18446744073709551616)(w:World) :
  Calls Tryz.prog 215 #[.int .u64 x, .int .u64 y] w fun e w'=>e = .returned (.tuple #[.int .u64 ((x*y/18446744073709551616:Nat):Int), .int .u64 ((x*y%18446744073709551616:Nat):Int)])∧w'=w:=Any.bits_Mul Tryz.lays212 x y hx hy w
def Tryz.laysNm220_ren:Go.Shelf.Ren:=⟨fun|20=>204|n=>n,fun|22=>24|3=>3|4=>4|0=>0|n=>n,fun|n=>n⟩
theorem Tryz.laysNm220:Go.Proofs.Lays2.n20 Tryz.prog Tryz.laysNm220_ren:= {
 mixed:=by kernel_rfl
 f20:=func204.trans (congrArg some (by kernel_rfl))
 t0:=underlying0
 a0:=Tryz.isAgg0
 z0:=Tryz.sizeOf0
 v0:=Tryz.zeroValue0
 t3:=underlying3
 a3:=Tryz.isAgg3
 z3:=Tryz.sizeOf3
 v3:=Tryz.zeroValue3
 t4:=underlying4
 a4:=Tryz.isAgg4
 z4:=Tryz.sizeOf4
 v4:=Tryz.zeroValue4
 t22:=underlying24
 a22:=Tryz.isAgg24
 z22:=Tryz.sizeOf24
 v22:=Tryz.zeroValue24
 i3:=by kernel_rfl}
open Go.RowKit Go.Lib Go.Sort in
theorem Tryz.slices_Compact_int (blk off cap:Nat)(zs:List Int)(w:World)(hH:Holds (Value.int .i64) w blk off zs.toArray)(hsz:zs.length<=9223372036854775807)(hcap:zs.length<=cap) :
  Calls Tryz.prog 204 #[.slice (some ⟨blk,off,none⟩) zs.length cap] w fun e w'=>e = .returned (.slice (some ⟨blk,off,none⟩) (Lib.compact zs).length cap)∧∃q,w'=putRow (Value.int .i64) (Sort.ahead w q) blk off (Lib.compact zs++List.replicate (zs.length -(Lib.compact zs).length) 0).toArray:=Any.slices_Compact_int Tryz.laysNm220 blk off cap zs w hH hsz hcap
def Tryz.lays194_ren:Go.Shelf.Ren:=⟨fun|194=>155|n=>n,fun|31=>133|9=>9|3=>3|4=>4|0=>0|n=>n,fun|n=>n⟩
theorem Tryz.lays194:Go.Proofs.Lays.n194 Tryz.prog Tryz.lays194_ren:= {
 mixed:=by kernel_rfl
 f194:=func155.trans (congrArg some (by kernel_rfl))
 t0:=underlying0
 a0:=Tryz.isAgg0
 z0:=Tryz.sizeOf0
 v0:=Tryz.zeroValue0
 t3:=underlying3
 a3:=Tryz.isAgg3
 z3:=Tryz.sizeOf3
 v3:=Tryz.zeroValue3
 t4:=underlying4
 a4:=Tryz.isAgg4
 z4:=Tryz.sizeOf4
 v4:=Tryz.zeroValue4
 t9:=underlying9
 a9:=Tryz.isAgg9
 z9:=Tryz.sizeOf9
 v9:=Tryz.zeroValue9
 t31:=underlying133
 a31:=Tryz.isAgg133
 z31:=Tryz.sizeOf133
 v31:=Tryz.zeroValue133}
open Go.RowKit Go.Lib Go.Sort in
theorem Tryz.slices_Compact_string (blk off cap:Nat)(zs:List (List UInt8))(w:World)(hH:Holds encStr w blk off zs.toArray)(hsz:zs.length<=9223372036854775807)(hcap:zs.length<=cap) :
  Calls Tryz.prog 155 #[.slice (some ⟨blk,off,none⟩) zs.length cap] w fun e w'=>e = .returned (.slice (some ⟨blk,off,none⟩) (Lib.compact zs).length cap)∧∃q,w'=putRow encStr (Sort.ahead w q) blk off (Lib.compact zs++List.replicate (zs.length -(Lib.compact zs).length) []).toArray:=Any.slices_Compact_string Tryz.lays194 blk off cap zs w hH hsz hcap
end Go.Proofs
namespace Go.Proofs.YtocckceefcmeaaaGreatDoor.Cl
open RowKit Vc Ax Go.Proofs.Tryz
attribute [local irreducible] loadVar storeVar Instr.indexAt Instr.index Instr.sliceAt Instr.makeSlice Instr.lookup Instr.mapUpdate Instr.range Instr.next Instr.entry Instr.makeMap Builtin.append_ Builtin.copy_ Builtin.len_ Builtin.min_ Builtin.max_ Builtin.cap_ Builtin.delete_ Builtin.clear_ convert binOp eqGuard Op.unary Calls
theorem P7 {lo x:Int}(h1:I64 lo)(h2:I64 x)(h:lo<=x):IntKind.u64.wrap (IntKind.u64.wrap x-IntKind.u64.wrap lo)=((dif lo x:Nat):Int)∧dif lo x<18446744073709551616:=by
 have e:IntKind.u64.bits=64:=rfl
 have s:IntKind.u64.signed=false:=rfl
 unfold I64 at h1 h2
 unfold dif
 simp only [IntKind.wrap,e,s,fE,aZ,if_false]
 omega
theorem ZJ : ∀a,a<256->∀s,s<8->a.testBit s=false->a ||| 2^s=a+2^s:=by decide
theorem acS {d k:Nat}(hd:d<18446744073709551616)(hk:k<=64):mD .and .u64 (Int.fdiv (d:Int) (2^min (Int.toNat (k:Int)) IntKind.u64.bits)) 1=(((if d.testBit k=true then 1 else 0):Nat):Int):=by
 have e:(1:Int)=((1:Nat):Int):=rfl
 have h1:d/2^k<=d:=kR _ _
 rw [ZA d k hk,e,FD _ 1 (by omega) (by decide),and1,OD]
theorem w8 {n:Nat}(h:n<256):IntKind.u8.wrap (n:Int)=n:=vJ h
theorem pw8 {c s:Nat}(hc:c<=1)(hs:s<8):c*2^s<256:=by
 have:2^s<=2^7:=dw (by decide) (by omega)
 have h2:=jC hc this
 have:(1:Nat)*2^7=128:=by decide
 omega
theorem Rn {c s:Nat}(hc:c<=1)(hs:s<8):IntKind.u8.wrap ((c:Int)*2^min (Int.toNat (s:Int)) IntKind.u8.bits)=((c*2^s:Nat):Int):=by
 have e:IntKind.u8.bits=8:=rfl
 rw [e,dK,dG (by omega)]
 have e2:(c:Int)*2^s=((c*2^s:Nat):Int):=by simp
 rw [e2,w8 (pw8 hc hs)]
theorem ZK (bit:Nat->Bool)(p:Nat):mD .or .u8 ((UInt8.ofNat (GN bit p (p/8) 8)).toNat:Int) (((if bit p=true then 1 else 0)*2^(p%8):Nat):Int)=((UInt8.ofNat (GN bit p (p/8) 8+(if bit p=true then 2^(p%8)else 0))).toNat:Int):=by
 have hlt:=OA bit p (p/8) 8
 have hb:=PV bit p (p/8) 8 (p%8) (by omega)
 have e:8*(p/8)+p%8=p:=by omega
 rw [e,decide_eq_false (iV p),fE]at hb
 rw [toNat_ofNat (by omega)]
 by_cases h:bit p=true
 ·rw [if_pos h,if_pos h,dA]
  have h2:=pw8 (c:=1) (s:=p%8) (ay _) (by omega)
  have h3:=ZJ _ hlt (p%8) (by omega) hb
  have h4:=jB (n:=8) hlt (show 2^(p%8)<2^8 by omega)
  rw [Jw _ _ (by omega) (by omega),h3,toNat_ofNat (by omega)]
 ·rw [if_neg h,if_neg h,dY,Jw _ _ (by omega) (by omega),Nat.or_zero,dH,toNat_ofNat (by omega)]
theorem acT (bit:Nat->Bool)(n p:Nat):(pk bit n (p+1)).map oh=((pk bit n p).map oh).set (p/8) [FV.v (.int .u8 (mD .or .u8 ((UInt8.ofNat (GN bit p (p/8) 8)).toNat:Int) (((if bit p=true then 1 else 0)*2^(p%8):Nat):Int)))]:=by
 rw [ZK,Zj,dP];rfl
theorem VE {bit:Nat->Bool}{n p j:Nat}(h:j<n):(pk bit n p)[j]? = some (UInt8.ofNat (GN bit p j 8)):=by
 simp only [pk,aP,fP h,bM]
theorem ZL {l:Li}{i k:Nat}(hk:k<wd l)(hi:i<l.length):zC (lo l) (wd l) l (i*wd l+k)=(dif (lo l) l[i]).testBit k:=by
 unfold zC
 have hw:0<wd l:=by omega
 have e1:(i*wd l+k)/wd l=i:=by rw [fU,Nat.mul_add_div hw,Nat.div_eq_of_lt hk,dH]
 have e2:(i*wd l+k)%wd l=k:=by rw [fU,kP,bU hk]
 rw [e1,e2,aW,aj hi];rfl
theorem aaR {n w i k:Nat}(hi:i<n)(hk:k<w):i*w+k<n*w∧(i*w+k)/8<AY n w:=by
 have:=aU w (show i+1<=n from hi)
 rw [bK,dA]at this
 unfold AY
 omega
theorem VF (b:By)(l:Li)(hl:nY l)(hne:l≠ [])(hb:b.length<=1000000)(hs:l.length<=10000):mX Tryz.prog GC 184 [bs b,li l] 0 [] (Is (bs (b++b5 l))):=by
 obtain⟨a,ha⟩:=List.exists_mem_of_ne_nil l hne
 have h1:=lo_le ha
 have h2:=PU ha
 have hlo:=hl _ h1.2
 have hhi:=hl _ h2.2
 have hd:=P7 hlo hhi (by omega)
 have hw:=PW l hl
 have hlen:=Vz (dif (lo l) (hi l)) hd.2
 have hwd:wid 64 (dif (lo l) (hi l))=wd l:=rfl
 rw [hwd]at hlen
 have n1:=(mP (lo l)).2
 have hmin:=aga l hne (by omega)
 have hmax:=agb l hne (by omega)
 clear hwd
 generalize hwe:wd l=w at *
 generalize hm:lo l=m at *
 generalize hM:hi l=M at *
 refine lH func184 rfl mixed (by kernel_rfl) ?_
 (refine mQ [] (by kernel_rfl) (hmin) rfl ?_ ?_;(focus trivial))
 (refine mQ [] (by kernel_rfl) (hmax) rfl ?_ ?_;(focus trivial))
 refine lU.to rfl ?_
 refine lU.to rfl ?_
 refine lU.to hd.1 ?_
 (refine mQ [] (by kernel_rfl) (hlen) rfl ?_ ?_;(focus trivial))
 refine nI [] (by kernel_rfl) (qx b m hlo (by omega)) (by trivial) ?_
 refine nI [0] (by kernel_rfl) (qx (b++num m) (w:Int) (nD (by omega)) (by rw [ak];omega)) (by trivial) ?_
 conv=>whnf
 have hlw:l.length*w<=640000:=by
  have:=jC hs hw;omega
 refine lU.to (y:=((l.length*w:Nat):Int)) (by rw [ah, <-iw];exact IntWalk.i64_in _ (by omega)) ?_
 refine lU.i64 (by omega) ?_
 refine lG.mk (by decide) ?_
 refine lU.to (y:=((AY l.length w:Nat):Int)) (by
  have e:Int.tdiv (((l.length*w:Nat):Int)+7) 8=((AY l.length w:Nat):Int):=rfl
  rw [e];exact IntWalk.i64_in _ (by unfold AY;omega)) ?_
 refine NR.mk' (qU:=1) (AY l.length w) rfl rfl (by unfold AY maxLen;omega) ?_
 conv=>whnf
 have hb3:(b++num m++num (w:Int)).length<=1000020:=by have:=(mP (w:Int)).2;simp only [ak];omega
 refine mO Yw 3 [36] (fun i:Nat=> [(36,iv i)]) (fun i=> [(2, .rows 5 1 ((pk (zC m w l) (AY l.length w) (i*w)).map oh)),(1, .rows 5 1 ((b++num m++num (w:Int)).map oh))]) (fun i=>i<=l.length) (fun i=>l.length-i) [] [] 0 (by kernel_rfl) (fun _=>rfl) rfl (aB _) ⟨⟨rfl,rfl,by rw [dY,Zi,gX];rfl⟩,⟨rfl,rfl,rfl⟩,trivial⟩ ⟨rfl,trivial⟩ ?_
 rintro i hi
 apply lD<;>intro h
 ·have hlt:i<l.length:=by simp at h;omega
  have hx:=lo_le (bD hlt)
  rw [hm]at hx
  have hxd:=P7 hlo (hl _ (bD hlt)) hx.1
  conv=>whnf
  (repeat' ((first|refine And.intro ?_ ?_|(apply lD<;>intro h<;>try simp only [bl]at h)|refine lU.i64 (by first|omega|(simp only [ln]at *;omega)) ?_|refine ni.mk' _ rfl (by first|omega|(simp only [ln]at *;omega)) ?_|refine mG.lS (by assumption) ?_|refine mG.set (by first|omega|(simp only [ln]at *;omega)) ?_|refine mG.map (by first|omega|(simp only [ln]at *;omega)) ?_|refine lG.mk (by first|decide|omega) ?_|refine tY.mk (by kernel_rfl) rfl rfl ?_|refine lG.mk (lM (by first|omega|(simp only [ln]at *;omega)) (by kernel_rfl)) ?_)<;>conv=>whnf))
  refine lU.to rfl ?_
  refine lU.to rfl ?_
  refine lU.to hxd.1 ?_
  conv=>whnf
  have hbit : ∀k,k<w->zC m w l (i*w+k)=(dif m l[i]).testBit k:=fun k hk=>by
   have:=ZL (l:=l) (i:=i) (k:=k) (by rw [hwe];exact hk) hlt
   rwa [hm,hwe]at this
  generalize dif m l[i]=d at *
  refine mO Yx 3 [47] (fun k:Nat=> [(47,iv k)]) (fun k=> [(2, .rows 5 1 ((pk (zC m w l) (AY l.length w) (i*w+k)).map oh)),(1, .rows 5 1 ((b++num m++num (w:Int)).map oh))]) (fun k=>k<=w) (fun k=>w-k) [] [] 0 (by kernel_rfl) (fun _=>rfl) rfl (aB _) ⟨⟨rfl,rfl,rfl⟩,⟨rfl,rfl,rfl⟩,trivial⟩ ⟨rfl,trivial⟩ ?_
  rintro k hk
  apply lD<;>intro h
  ·have hkw:k<w:=by simp at h;omega
   have hat:=aaR hlt hkw
   have hmul:i*w+k<=640000:=by omega
   refine lU.to (y:=((i*w:Nat):Int)) (by rw [<-iw];exact IntWalk.i64_in _ (by omega)) ?_
   refine lU.to (y:=((i*w+k:Nat):Int)) (by rw [<-iH];exact IntWalk.i64_in _ (by omega)) ?_
   conv=>whnf
   generalize hp:i*w+k=p at *
   (refine nZ ab3 [] (by kernel_rfl) ?_;conv=>whnf)
   refine lG.mk (by decide) ?_
   refine lU.to (y:=((p/8:Nat):Int)) (by
    have e:Int.tdiv (p:Int) 8=((p/8:Nat):Int):=rfl
    rw [e];exact IntWalk.i64_in _ (by omega)) ?_
   refine ni.mk' (p/8) rfl (by rw [ah,pk_len];exact hat.2) ?_
   refine mG.lS (VE hat.2) ?_
   refine lG.mk (by omega) ?_
   refine lU.to (y:=(((if d.testBit k=true then 1 else 0:Nat)):Int)) (by rw [acS hxd.2 (by omega)];exact w8 (by split<;>omega)) ?_
   refine lG.mk (by decide) ?_
   refine lG.mk (by show (0:Int)<=((p%8:Nat):Int);omega) ?_
   refine lU.to (y:=(((if d.testBit k=true then 1 else 0)*2^(p%8):Nat):Int)) (Rn (s:=p%8) (by split<;>omega) (iJ _ (by decide))) ?_
   refine ni.mk' (p/8) rfl (by rw [ah,pk_len];exact hat.2) ?_
   refine mG.lS (VE hat.2) ?_
   refine lU.i64 (by omega) ?_
   conv=>whnf
   have hbk:zC m w l p=d.testBit k:=by rw [<-hp];exact hbit k hkw
   refine lX (k+1) [] [] rfl (by show w -(k+1)<w-k;omega) hkw ⟨⟨rfl,rfl, ?_⟩,⟨rfl,rfl,rfl⟩,trivial⟩ ⟨rfl,trivial⟩
   rw [show i*w+(k+1)=p+1 by omega,acT,hbk]
  ·have:k=w:=by simp at h;omega
   subst this
   refine lU.i64 (by omega) ?_
   refine lX (i+1) [] [] rfl (by show l.length -(i+1)<l.length-i;omega) hlt ⟨⟨rfl,rfl, ?_⟩,⟨rfl,rfl,rfl⟩,trivial⟩ ⟨rfl,trivial⟩
   rw [show (i+1)*k=i*k+k by rw [bK,dA]]
 ·have:i=l.length:=by simp at h;omega
  subst this
  have hS:AY l.length w<=100000:=by unfold AY;omega
  refine lG.mk (lM (by simp only [ah,ak,pk_len]at *;omega) (by kernel_rfl)) ?_
  conv=>whnf
  have e:b++b5 l=b++num m++num (w:Int)++pk (zC m w l) (AY l.length w) (l.length*w):=by
   unfold b5
   rw [hm,hwe]
   simp only [aO]
  rw [e]
  refine mJ [3] ⟨rfl,rfl, ?_⟩
  simp only [aJ]
def ZM (l:Li):Li:=l.mergeSort fun x y=>decide (x<=y)
theorem yG (l:Li):(ZM l).length=l.length:=kV l
theorem ZN (l:Li)(y:Int):y∈ZM l↔y∈l:=List.mem_mergeSort
theorem OI (l:Li):(ZM l).Pairwise (· <= ·):=by
 have:=kJ (le:=fun x y:Int=>decide (x<=y)) (fun a b c h1 h2=>by simp at *;omega) (fun a b=>by simp;omega) l
 exact this.imp fun h=>by simpa using h
theorem VG (z:Li)(hs:z.Pairwise (· <= ·)) : ∀m,m<=z.length->SS (Lib.compactUpTo z.toArray m)∧∀y,y∈Lib.compactUpTo z.toArray m↔y∈z.take m:=by
 intro m
 induction m with
 | zero=>intro _;simp [Lib.compactUpTo,SS]
 | succ m ih=>
  intro hm
  have hlt:m<z.length:=by omega
  obtain⟨h1,h2⟩:=ih (by omega)
  have em:z.toArray[m]! = z[m]:=by simp [hlt]
  have le : ∀j (hj:j<m),z[j]'(by omega)<=z[m]:=fun j hj=>fO.1 hs j m (by omega) hlt hj
  rw [Lib.compactUpTo_succ,aH hlt,em]
  by_cases hk:Lib.keeps z.toArray m=true
  ·rw [if_pos hk]
   refine⟨List.pairwise_append.2 ⟨h1,kK _ _,fun a ha b hb=> ?_⟩,fun y=>by simp only [cu,h2,bG]⟩
   rw [bG.1 hb]
   obtain⟨j,hj,e⟩:=iM ((h2 a).1 ha)
   rw [aK]at hj
   rw [iZ]at e
   have hjm:j<m:=by omega
   have hne:z[m-1]'(by omega)≠z[m]:=by
    unfold Lib.keeps at hk
    rw [decide_eq_true_eq]at hk
    rcases hk with h|h
    ·omega
    ·rw [em]at h
     have e1:z.toArray[m-1]! = z[m-1]'(by omega):=by simp [show m-1<z.length by omega]
     rw [e1]at h
     exact fun e=>h e.symm
   have l1:z[m-1]'(by omega)<=z[m]:=le (m-1) (by omega)
   have l2:z[j]'(by omega)<=z[m-1]'(by omega):=by
    rcases dJ j (m-1)with h|h
    ·exact fO.1 hs j (m-1) (by omega) (by omega) h
    ·have:j=m-1:=by omega
     subst this;exact iQ _
   rw [<-e];omega
  ·rw [if_neg hk,bZ]
   refine⟨h1,fun y=> ?_⟩
   rw [h2,cu,bG]
   constructor
   ·exact .inl
   ·rintro(h|h)
    ·exact h
    ·unfold Lib.keeps at hk
     rw [decide_eq_true_eq]at hk
     have h0:0<m:=by
      rcases bP m with e|e
      ·exact absurd (.inl e) hk
      ·exact e
     have e1:z.toArray[m-1]! = z[m-1]'(by omega):=by simp [show m-1<z.length by omega]
     have e2:z[m]=z[m-1]'(by omega):=by
      rw [em,e1]at hk
      exact dX fun h=>hk (.inr h)
     rw [h,e2]
     exact List.mem_iff_getElem.2 ⟨m-1,by rw [aK];omega,by rw [iZ]⟩
theorem FX (l:Li):Lib.compact (ZM l)=ds l:=by
 have h:=VG (ZM l) (OI l) (ZM l).length (ay _)
 rw [bn]at h
 exact aex h.1 fun y=>by
  have:=h.2 y
  rw [ZN]at this
  exact this
theorem aeL (a:Int):(Value.int .i64 a).oneCell'=true:=rfl
theorem sortA (l:Li)(hne:l≠ [])(hs:l.length<=1000000):mX Tryz.prog GC 203 [.own 0] 1 [(0, .rows 3 1 (l.map xG))] (fun a n H=>a = .mW []∧n=1∧H = [(0, .rows 3 1 ((ZM l).map xG))]):=
 yB (enc:=Value.int .i64) (V:=fun _ _ v=>v = .tuple #[]) aeL hne (yG l)
  (fun w blk cap hH hb _=>Calls.mono (Tryz.slices_Sort_int blk 0 cap l w hH hb (by omega)) fun e w' ⟨h1,h2⟩=>⟨_,h1,rfl,h2⟩)
  (fun w σ F blk cap v _ _ hv=>by subst hv;exact ng.mW («as» := []) (vs:= []) trivial)
theorem VH (l:Li)(hne:l≠ [])(hs:l.length<=1000000):mX Tryz.prog GC 204 [.own 0] 1 [(0, .rows 3 1 ((ZM l).map xG))] (fun a n H=>a = .sub 0 0 (ds l).length∧n=1∧H = [(0, .rows 3 1 ((ds l++List.replicate (l.length -(ds l).length) 0).map xG))]):=
 yB (enc:=Value.int .i64) (zs':=ds l++List.replicate (l.length -(ds l).length) 0) (V:=fun blk cap v=>v = .slice (some ⟨blk,0,none⟩) (ds l).length cap) aeL (by intro h;have:=yG l;rw [h]at this;exact hne (aF this.symm))
  (by have:=Cb l;rw [yG,ak,dL];omega)
  (fun w blk cap hH hb hc=>Calls.mono (Tryz.slices_Compact_int blk 0 cap (ZM l) w hH (by rw [yG];omega) hc) fun e w' ⟨h1,q,h2⟩=>⟨_,h1,by rw [FX],q, #[],by rw [h2,FX,Sort.grow_empty,yG]⟩)
  (fun w σ F blk cap v hσ hc hv=>by
   subst hv
   have hd:=Cb l
   rw [yG]at hσ hc
   refine .sub 0 0 _ _ cap (by decide) (by rw [hσ];show 0+_<=l.length;omega) (by omega) (fun h=>by cases h) fun _=>⟨blk,by rw [hσ],by rw [dY]⟩)
theorem P8 (l:Li)(x:Li):(((ds l++x).map xG).drop 0).take (ds l).length=(ds l).map xG:=by
 rw [gK,aJ]
 exact eG (ah _)
theorem VI {d l:Li}{k:Nat}(h:k<l.length):ixs d (l.take (k+1))=ixs d (l.take k)++num (idx d l[k]):=by
 rw [aH h]
 unfold ixs
 rw [iL,gI,kH,bZ]
theorem RS (b:By)(l:Li)(hl:nY l)(hne:l≠ [])(hb:b.length+20*l.length<=2000000):mX Tryz.prog GC 182 [bs b,li l] 0 [] (Is (bs (b++b4 l))):=by
 have hdl:=Cb l
 have hda:nY (ds l):=fun x hx=>hl x ((xg l x).1 hx)
 have n1:=(mP ((ds l).length:Int)).2
 have n2:=FN (ds l)
 refine lH func182 rfl mixed (by kernel_rfl) ?_
 refine nI [] (by kernel_rfl) (acR l hne (by omega)) (by trivial) ?_
 refine sG [0] [] (by kernel_rfl) (sortA l hne (by omega)) rfl (by trivial) (by trivial) rfl ?_
 refine sG [0] [] (by kernel_rfl) (VH l hne (by omega)) rfl (by trivial) (by trivial) rfl ?_
 refine nI [] (by kernel_rfl) (qx b ((ds l).length:Int) (nD (by omega)) (by omega)) (by trivial) ?_
 refine nI [1,0] (by kernel_rfl) (Ie (b++num ((ds l).length:Int)) (ds l) hda (by rw [ak];omega)) ⟨⟨rfl,rfl,rfl⟩,⟨rfl,rfl,P8 l _⟩,trivial⟩ ?_
 conv=>whnf
 have hix : ∀k,(ixs (ds l) (l.take k)).length<=10*l.length:=fun k=>by
  have h1:=FM (fun x=>num (idx (ds l) x)) 10 (l.take k) fun x _=>(mP _).2
  rw [aK]at h1
  have h2:(ixs (ds l) (l.take k)).length<=10*min k l.length:=h1
  omega
 refine mO Yu 2 [0,24] (fun k:Nat=> [(0,bs (b++num ((ds l).length:Int)++b1 (ds l)++ixs (ds l) (l.take k))),(24,iv k)]) (fun _=> [(0, .fz 1 ((ds l++List.replicate (l.length -(ds l).length) 0).map xG))]) (fun k=>k<=l.length) (fun k=>l.length-k) [] [] 0 (by kernel_rfl) (fun _=>rfl) rfl (aB _) ⟨⟨rfl,rfl⟩,trivial⟩ ⟨⟨rfl,by rw [iO];simp [ixs]⟩,rfl,trivial⟩ ?_
 rintro k hk
 have hx:=hix k
 apply lD<;>intro h
 ·have hlt:k<l.length:=by simp at h;omega
  have hmem:l[k]∈ds l:=(xg l _).2 (bD hlt)
  have hil:=(Oz hmem).1
  conv=>whnf
  (repeat' ((first|refine And.intro ?_ ?_|(apply lD<;>intro h<;>try simp only [bl]at h)|refine lU.i64 (by first|omega|(simp only [ln]at *;omega)) ?_|refine ni.mk' _ rfl (by first|omega|(simp only [ln]at *;omega)) ?_|refine mG.lS (by assumption) ?_|refine mG.set (by first|omega|(simp only [ln]at *;omega)) ?_|refine mG.map (by first|omega|(simp only [ln]at *;omega)) ?_|refine lG.mk (by first|decide|omega) ?_|refine tY.mk (by kernel_rfl) rfl rfl ?_|refine lG.mk (lM (by first|omega|(simp only [ln]at *;omega)) (by kernel_rfl)) ?_)<;>conv=>whnf))
  refine mQ [] (by kernel_rfl) (ZI (ds l) l[k] (PS l) hmem (by omega)) rfl ⟨⟨rfl,P8 l _⟩,rfl,trivial⟩ ?_
  refine nI [] (by kernel_rfl) (qx (b++num ((ds l).length:Int)++b1 (ds l)++ixs (ds l) (l.take k)) (idx (ds l) l[k]:Int) (nD (by omega)) (by simp only [ak];omega)) (by trivial) ?_
  conv=>whnf
  (repeat' ((first|refine And.intro ?_ ?_|(apply lD<;>intro h<;>try simp only [bl]at h)|refine lU.i64 (by first|omega|(simp only [ln]at *;omega)) ?_|refine ni.mk' _ rfl (by first|omega|(simp only [ln]at *;omega)) ?_|refine mG.lS (by assumption) ?_|refine mG.set (by first|omega|(simp only [ln]at *;omega)) ?_|refine mG.map (by first|omega|(simp only [ln]at *;omega)) ?_|refine lG.mk (by first|decide|omega) ?_|refine tY.mk (by kernel_rfl) rfl rfl ?_|refine lG.mk (lM (by first|omega|(simp only [ln]at *;omega)) (by kernel_rfl)) ?_)<;>conv=>whnf))
  refine lX (k+1) [] [2] rfl (by show l.length -(k+1)<l.length-k;omega) hlt ⟨⟨rfl,rfl⟩,trivial⟩ ⟨⟨rfl,rfl, ?_⟩,rfl,trivial⟩
  rw [VI hlt, <-aO]
 ·have:k=l.length:=by simp at h;omega
  subst this
  conv=>whnf
  have e:b++b4 l=b++num ((ds l).length:Int)++b1 (ds l)++ixs (ds l) (l.take l.length):=by
   rw [bn]
   unfold b4 ixs
   simp only [aO]
  rw [e]
  exact mJ [] (by trivial)
section
def bst (l:Li):Nat->AV
 | 0=> .v (.slice none 0 0)
 | k+1=>bs (best l k)
theorem VJ (l:Li)(h:nY l)(hs:l.length<=512) : ∀k,0<(best l k).length∧(best l k).length<=20000:=by
 intro k
 obtain⟨j,_,e⟩:=PX l k
 rw [e]
 have:=acG (j+1) l h
 have:=acH (j+1) l
 omega
theorem ZO {l:Li}(h:l≠ []):ints l=best l 4:=by unfold ints;rw [if_neg h]
theorem VK:ints []=num 1++num 0:=by unfold ints;rfl
theorem RU (l:Li):best l 0=en 1 l:=rfl
theorem D9 {l:Li}(k:Nat)(h:(en (k+2) l).length<(best l k).length):best l (k+1)=en (k+2) l:=by show sh _ _=_;unfold sh;rw [if_pos h]
theorem Ea {l:Li}(k:Nat)(h : ¬(en (k+2) l).length<(best l k).length):best l (k+1)=best l k:=by show sh _ _=_;unfold sh;rw [if_neg h]
theorem en1 (l:Li):num (1:Int)++num l.length++b1 l=en 1 l:=rfl
theorem en2 (l:Li):num (2:Int)++num l.length++b2 l=en 2 l:=rfl
theorem en3 (l:Li):num (3:Int)++num l.length++b3 l=en 3 l:=rfl
theorem en4 (l:Li):num (4:Int)++num l.length++b4 l=en 4 l:=rfl
theorem en5 (l:Li):num (5:Int)++num l.length++b5 l=en 5 l:=rfl
attribute [local irreducible] best ints en bd
theorem uY (l:Li)(hl:nY l)(hs:l.length<=512):mX Tryz.prog GC 122 [li l] 0 [] (Is (bs (ints l))):=by
 have hb:=VJ l hl hs
 have n2:=(mP (l.length:Int)).2
 have nn : ∀k:Int,(num k).length<=10:=fun k=>(mP k).2
 have hlenA : ∀k:Int,mX Tryz.prog GC 28 [bs (num k),iv ((l.map xG).length:Nat)] 0 [] (wJ 5 1 ((num k++num l.length).map oh)):=fun k=>by
  rw [ah]
  exact qx (num k) l.length (nD (by omega)) (by have:=nn k;omega)
 have hz : ∀k:Int,(num k++num (l.length:Int)).length<=20:=fun k=>by have:=nn k;simp only [ak];omega
 have hp1:=Ie (num 1++num l.length) l hl (by have:=hz 1;omega)
 have hp2:=VD (num 2++num l.length) l hl (by have:=hz 2;omega)
 have hp3:=RJ (num 3++num l.length) l (by have:=hz 3;omega)
 have hp4:=fun h=>RS (num 4++num l.length) l hl h (by have:=hz 4;omega)
 have hp5:=fun h=>VF (num 5++num l.length) l hl h (by have:=hz 5;omega) (by omega)
 refine lH func122 rfl mixed (by kernel_rfl) ?_
 refine nI [] (by kernel_rfl) (yF) (by trivial) ?_
 refine mO X7 0 [3,8] (fun i:Nat=> [(3,bst l i),(8,iv i)]) (fun _=> []) (fun i=>i<=5∧(0<i->l≠ [])) (fun i=>5-i) [] [] 0 (by kernel_rfl) (fun _=>rfl) rfl ⟨aB _,fun h=>absurd h (iV 0)⟩ trivial ⟨rfl,rfl,trivial⟩ ?_
 rintro i ⟨hi,hne⟩
 have hc:i=0∨i=1∨i=2∨i=3∨i=4∨i=5:=by omega
 rcases hc with rfl|rfl|rfl|rfl|rfl|rfl
 ·refine ni.mk' 0 rfl (by decide) ?_
  conv=>whnf
  (repeat' ((first|refine And.intro ?_ ?_|(apply lD<;>intro h<;>try simp only [bl]at h)|refine lU.i64 (by first|omega|(simp only [ln]at *;omega)) ?_|refine ni.mk' _ rfl (by first|omega|(simp only [ln]at *;omega)) ?_|refine mG.lS (by assumption) ?_|refine mG.set (by first|omega|(simp only [ln]at *;omega)) ?_|refine mG.map (by first|omega|(simp only [ln]at *;omega)) ?_|refine lG.mk (by first|decide|omega) ?_|refine tY.mk (by kernel_rfl) rfl rfl ?_|refine lG.mk (lM (by first|omega|(simp only [ln]at *;omega)) (by kernel_rfl)) ?_)<;>conv=>whnf))
  refine nI [] (by kernel_rfl) (qx [] 1 (by unfold I64;omega) (by simp)) (by trivial) ?_
  refine nI [1] (by kernel_rfl) (hlenA 1) (by trivial) ?_
  apply lD<;>intro h
  ·have e:l = []:=aF (by simp at h;simp [h])
   subst e
   conv=>whnf
   rw [VK]
   exact mJ [2] (by trivial)
  have hnn:l≠ []:=fun e=>by subst e;simp at h
  refine nI [2] (by kernel_rfl) (hp1) (by trivial) ?_
  conv=>whnf
  (repeat' ((first|refine And.intro ?_ ?_|(apply lD<;>intro h<;>try simp only [bl]at h)|refine lU.i64 (by first|omega|(simp only [ln]at *;omega)) ?_|refine ni.mk' _ rfl (by first|omega|(simp only [ln]at *;omega)) ?_|refine mG.lS (by assumption) ?_|refine mG.set (by first|omega|(simp only [ln]at *;omega)) ?_|refine mG.map (by first|omega|(simp only [ln]at *;omega)) ?_|refine lG.mk (by first|decide|omega) ?_|refine tY.mk (by kernel_rfl) rfl rfl ?_|refine lG.mk (lM (by first|omega|(simp only [ln]at *;omega)) (by kernel_rfl)) ?_)<;>conv=>whnf))
  refine lX 1 [] [] rfl (by decide) ⟨by decide,fun _=>hnn⟩ trivial ⟨⟨rfl, ?_⟩,rfl,trivial⟩
  rw [RU, <-en1]
 ·refine ni.mk' 1 rfl (by decide) ?_
  conv=>whnf
  (repeat' ((first|refine And.intro ?_ ?_|(apply lD<;>intro h<;>try simp only [bl]at h)|refine lU.i64 (by first|omega|(simp only [ln]at *;omega)) ?_|refine ni.mk' _ rfl (by first|omega|(simp only [ln]at *;omega)) ?_|refine mG.lS (by assumption) ?_|refine mG.set (by first|omega|(simp only [ln]at *;omega)) ?_|refine mG.map (by first|omega|(simp only [ln]at *;omega)) ?_|refine lG.mk (by first|decide|omega) ?_|refine tY.mk (by kernel_rfl) rfl rfl ?_|refine lG.mk (lM (by first|omega|(simp only [ln]at *;omega)) (by kernel_rfl)) ?_)<;>conv=>whnf))
  refine nI [] (by kernel_rfl) (qx [] 2 (by unfold I64;omega) (by simp)) (by trivial) ?_
  refine nI [1] (by kernel_rfl) (hlenA 2) (by trivial) ?_
  apply lD<;>intro h
  ·exact absurd (aF (by simp at h;simp [h])) (hne (by decide))
  have hnn:=hne (by decide)
  refine nI [2] (by kernel_rfl) (hp2) (by trivial) ?_
  conv=>whnf
  have hbb:=hb (1-1)
  refine⟨fun b hbn=> ?_⟩
  rw [hbn (by rw [ah];exact hbb.1)]
  apply lD<;>intro h
  ·conv=>whnf
   (repeat' ((first|refine And.intro ?_ ?_|(apply lD<;>intro h<;>try simp only [bl]at h)|refine lU.i64 (by first|omega|(simp only [ln]at *;omega)) ?_|refine ni.mk' _ rfl (by first|omega|(simp only [ln]at *;omega)) ?_|refine mG.lS (by assumption) ?_|refine mG.set (by first|omega|(simp only [ln]at *;omega)) ?_|refine mG.map (by first|omega|(simp only [ln]at *;omega)) ?_|refine lG.mk (by first|decide|omega) ?_|refine tY.mk (by kernel_rfl) rfl rfl ?_|refine lG.mk (lM (by first|omega|(simp only [ln]at *;omega)) (by kernel_rfl)) ?_)<;>conv=>whnf))
   refine lX (1+1) [] [] rfl (by decide) ⟨by decide,fun _=>hnn⟩ trivial ⟨⟨rfl, ?_⟩,rfl,trivial⟩
   rw [D9 0 (by simp only [ah,cond_false,decide_eq_true_eq,decide_eq_false_iff_not]at h;rw [<-en2];omega), <-en2]
  ·conv=>whnf
   (repeat' ((first|refine And.intro ?_ ?_|(apply lD<;>intro h<;>try simp only [bl]at h)|refine lU.i64 (by first|omega|(simp only [ln]at *;omega)) ?_|refine ni.mk' _ rfl (by first|omega|(simp only [ln]at *;omega)) ?_|refine mG.lS (by assumption) ?_|refine mG.set (by first|omega|(simp only [ln]at *;omega)) ?_|refine mG.map (by first|omega|(simp only [ln]at *;omega)) ?_|refine lG.mk (by first|decide|omega) ?_|refine tY.mk (by kernel_rfl) rfl rfl ?_|refine lG.mk (lM (by first|omega|(simp only [ln]at *;omega)) (by kernel_rfl)) ?_)<;>conv=>whnf))
   refine lX (1+1) [] [] rfl (by decide) ⟨by decide,fun _=>hnn⟩ trivial ⟨⟨rfl, ?_⟩,rfl,trivial⟩
   rw [Ea 0 (by simp only [ah,cond_false,decide_eq_true_eq,decide_eq_false_iff_not]at h;rw [<-en2];omega)]
 ·refine ni.mk' 2 rfl (by decide) ?_
  conv=>whnf
  (repeat' ((first|refine And.intro ?_ ?_|(apply lD<;>intro h<;>try simp only [bl]at h)|refine lU.i64 (by first|omega|(simp only [ln]at *;omega)) ?_|refine ni.mk' _ rfl (by first|omega|(simp only [ln]at *;omega)) ?_|refine mG.lS (by assumption) ?_|refine mG.set (by first|omega|(simp only [ln]at *;omega)) ?_|refine mG.map (by first|omega|(simp only [ln]at *;omega)) ?_|refine lG.mk (by first|decide|omega) ?_|refine tY.mk (by kernel_rfl) rfl rfl ?_|refine lG.mk (lM (by first|omega|(simp only [ln]at *;omega)) (by kernel_rfl)) ?_)<;>conv=>whnf))
  refine nI [] (by kernel_rfl) (qx [] 3 (by unfold I64;omega) (by simp)) (by trivial) ?_
  refine nI [1] (by kernel_rfl) (hlenA 3) (by trivial) ?_
  apply lD<;>intro h
  ·exact absurd (aF (by simp at h;simp [h])) (hne (by decide))
  have hnn:=hne (by decide)
  refine nI [2] (by kernel_rfl) (hp3) (by trivial) ?_
  conv=>whnf
  have hbb:=hb (2-1)
  refine⟨fun b hbn=> ?_⟩
  rw [hbn (by rw [ah];exact hbb.1)]
  apply lD<;>intro h
  ·conv=>whnf
   (repeat' ((first|refine And.intro ?_ ?_|(apply lD<;>intro h<;>try simp only [bl]at h)|refine lU.i64 (by first|omega|(simp only [ln]at *;omega)) ?_|refine ni.mk' _ rfl (by first|omega|(simp only [ln]at *;omega)) ?_|refine mG.lS (by assumption) ?_|refine mG.set (by first|omega|(simp only [ln]at *;omega)) ?_|refine mG.map (by first|omega|(simp only [ln]at *;omega)) ?_|refine lG.mk (by first|decide|omega) ?_|refine tY.mk (by kernel_rfl) rfl rfl ?_|refine lG.mk (lM (by first|omega|(simp only [ln]at *;omega)) (by kernel_rfl)) ?_)<;>conv=>whnf))
   refine lX (2+1) [] [] rfl (by decide) ⟨by decide,fun _=>hnn⟩ trivial ⟨⟨rfl, ?_⟩,rfl,trivial⟩
   rw [D9 1 (by simp only [ah,cond_false,decide_eq_true_eq,decide_eq_false_iff_not]at h;rw [<-en3];omega), <-en3]
  ·conv=>whnf
   (repeat' ((first|refine And.intro ?_ ?_|(apply lD<;>intro h<;>try simp only [bl]at h)|refine lU.i64 (by first|omega|(simp only [ln]at *;omega)) ?_|refine ni.mk' _ rfl (by first|omega|(simp only [ln]at *;omega)) ?_|refine mG.lS (by assumption) ?_|refine mG.set (by first|omega|(simp only [ln]at *;omega)) ?_|refine mG.map (by first|omega|(simp only [ln]at *;omega)) ?_|refine lG.mk (by first|decide|omega) ?_|refine tY.mk (by kernel_rfl) rfl rfl ?_|refine lG.mk (lM (by first|omega|(simp only [ln]at *;omega)) (by kernel_rfl)) ?_)<;>conv=>whnf))
   refine lX (2+1) [] [] rfl (by decide) ⟨by decide,fun _=>hnn⟩ trivial ⟨⟨rfl, ?_⟩,rfl,trivial⟩
   rw [Ea 1 (by simp only [ah,cond_false,decide_eq_true_eq,decide_eq_false_iff_not]at h;rw [<-en3];omega)]
 ·refine ni.mk' 3 rfl (by decide) ?_
  conv=>whnf
  (repeat' ((first|refine And.intro ?_ ?_|(apply lD<;>intro h<;>try simp only [bl]at h)|refine lU.i64 (by first|omega|(simp only [ln]at *;omega)) ?_|refine ni.mk' _ rfl (by first|omega|(simp only [ln]at *;omega)) ?_|refine mG.lS (by assumption) ?_|refine mG.set (by first|omega|(simp only [ln]at *;omega)) ?_|refine mG.map (by first|omega|(simp only [ln]at *;omega)) ?_|refine lG.mk (by first|decide|omega) ?_|refine tY.mk (by kernel_rfl) rfl rfl ?_|refine lG.mk (lM (by first|omega|(simp only [ln]at *;omega)) (by kernel_rfl)) ?_)<;>conv=>whnf))
  refine nI [] (by kernel_rfl) (qx [] 4 (by unfold I64;omega) (by simp)) (by trivial) ?_
  refine nI [1] (by kernel_rfl) (hlenA 4) (by trivial) ?_
  apply lD<;>intro h
  ·exact absurd (aF (by simp at h;simp [h])) (hne (by decide))
  have hnn:=hne (by decide)
  refine nI [2] (by kernel_rfl) ((hp4 hnn)) (by trivial) ?_
  conv=>whnf
  have hbb:=hb (3-1)
  refine⟨fun b hbn=> ?_⟩
  rw [hbn (by rw [ah];exact hbb.1)]
  apply lD<;>intro h
  ·conv=>whnf
   (repeat' ((first|refine And.intro ?_ ?_|(apply lD<;>intro h<;>try simp only [bl]at h)|refine lU.i64 (by first|omega|(simp only [ln]at *;omega)) ?_|refine ni.mk' _ rfl (by first|omega|(simp only [ln]at *;omega)) ?_|refine mG.lS (by assumption) ?_|refine mG.set (by first|omega|(simp only [ln]at *;omega)) ?_|refine mG.map (by first|omega|(simp only [ln]at *;omega)) ?_|refine lG.mk (by first|decide|omega) ?_|refine tY.mk (by kernel_rfl) rfl rfl ?_|refine lG.mk (lM (by first|omega|(simp only [ln]at *;omega)) (by kernel_rfl)) ?_)<;>conv=>whnf))
   refine lX (3+1) [] [] rfl (by decide) ⟨by decide,fun _=>hnn⟩ trivial ⟨⟨rfl, ?_⟩,rfl,trivial⟩
   rw [D9 2 (by simp only [ah,cond_false,decide_eq_true_eq,decide_eq_false_iff_not]at h;rw [<-en4];omega), <-en4]
  ·conv=>whnf
   (repeat' ((first|refine And.intro ?_ ?_|(apply lD<;>intro h<;>try simp only [bl]at h)|refine lU.i64 (by first|omega|(simp only [ln]at *;omega)) ?_|refine ni.mk' _ rfl (by first|omega|(simp only [ln]at *;omega)) ?_|refine mG.lS (by assumption) ?_|refine mG.set (by first|omega|(simp only [ln]at *;omega)) ?_|refine mG.map (by first|omega|(simp only [ln]at *;omega)) ?_|refine lG.mk (by first|decide|omega) ?_|refine tY.mk (by kernel_rfl) rfl rfl ?_|refine lG.mk (lM (by first|omega|(simp only [ln]at *;omega)) (by kernel_rfl)) ?_)<;>conv=>whnf))
   refine lX (3+1) [] [] rfl (by decide) ⟨by decide,fun _=>hnn⟩ trivial ⟨⟨rfl, ?_⟩,rfl,trivial⟩
   rw [Ea 2 (by simp only [ah,cond_false,decide_eq_true_eq,decide_eq_false_iff_not]at h;rw [<-en4];omega)]
 ·refine ni.mk' 4 rfl (by decide) ?_
  conv=>whnf
  (repeat' ((first|refine And.intro ?_ ?_|(apply lD<;>intro h<;>try simp only [bl]at h)|refine lU.i64 (by first|omega|(simp only [ln]at *;omega)) ?_|refine ni.mk' _ rfl (by first|omega|(simp only [ln]at *;omega)) ?_|refine mG.lS (by assumption) ?_|refine mG.set (by first|omega|(simp only [ln]at *;omega)) ?_|refine mG.map (by first|omega|(simp only [ln]at *;omega)) ?_|refine lG.mk (by first|decide|omega) ?_|refine tY.mk (by kernel_rfl) rfl rfl ?_|refine lG.mk (lM (by first|omega|(simp only [ln]at *;omega)) (by kernel_rfl)) ?_)<;>conv=>whnf))
  refine nI [] (by kernel_rfl) (qx [] 5 (by unfold I64;omega) (by simp)) (by trivial) ?_
  refine nI [1] (by kernel_rfl) (hlenA 5) (by trivial) ?_
  apply lD<;>intro h
  ·exact absurd (aF (by simp at h;simp [h])) (hne (by decide))
  have hnn:=hne (by decide)
  refine nI [2] (by kernel_rfl) ((hp5 hnn)) (by trivial) ?_
  conv=>whnf
  have hbb:=hb (4-1)
  refine⟨fun b hbn=> ?_⟩
  rw [hbn (by rw [ah];exact hbb.1)]
  apply lD<;>intro h
  ·conv=>whnf
   (repeat' ((first|refine And.intro ?_ ?_|(apply lD<;>intro h<;>try simp only [bl]at h)|refine lU.i64 (by first|omega|(simp only [ln]at *;omega)) ?_|refine ni.mk' _ rfl (by first|omega|(simp only [ln]at *;omega)) ?_|refine mG.lS (by assumption) ?_|refine mG.set (by first|omega|(simp only [ln]at *;omega)) ?_|refine mG.map (by first|omega|(simp only [ln]at *;omega)) ?_|refine lG.mk (by first|decide|omega) ?_|refine tY.mk (by kernel_rfl) rfl rfl ?_|refine lG.mk (lM (by first|omega|(simp only [ln]at *;omega)) (by kernel_rfl)) ?_)<;>conv=>whnf))
   refine lX (4+1) [] [] rfl (by decide) ⟨by decide,fun _=>hnn⟩ trivial ⟨⟨rfl, ?_⟩,rfl,trivial⟩
   rw [D9 3 (by simp only [ah,cond_false,decide_eq_true_eq,decide_eq_false_iff_not]at h;rw [<-en5];omega), <-en5]
  ·conv=>whnf
   (repeat' ((first|refine And.intro ?_ ?_|(apply lD<;>intro h<;>try simp only [bl]at h)|refine lU.i64 (by first|omega|(simp only [ln]at *;omega)) ?_|refine ni.mk' _ rfl (by first|omega|(simp only [ln]at *;omega)) ?_|refine mG.lS (by assumption) ?_|refine mG.set (by first|omega|(simp only [ln]at *;omega)) ?_|refine mG.map (by first|omega|(simp only [ln]at *;omega)) ?_|refine lG.mk (by first|decide|omega) ?_|refine tY.mk (by kernel_rfl) rfl rfl ?_|refine lG.mk (lM (by first|omega|(simp only [ln]at *;omega)) (by kernel_rfl)) ?_)<;>conv=>whnf))
   refine lX (4+1) [] [] rfl (by decide) ⟨by decide,fun _=>hnn⟩ trivial ⟨⟨rfl, ?_⟩,rfl,trivial⟩
   rw [Ea 3 (by simp only [ah,cond_false,decide_eq_true_eq,decide_eq_false_iff_not]at h;rw [<-en5];omega)]
 ·conv=>whnf
  rw [ZO (hne (by decide))]
  exact mJ [] (by trivial)
end
section
attribute [local irreducible] best ints en bd
theorem MF (out:Li)(v:Int):(out++ [v]).map xG=out.map xG++ [[FV.v (.int .i64 v)]]:=by rw [aJ];rfl
structure BX where
 i:Nat
 out:Li
end
def tq (b:By)(e:Int):oN:= .var 109 [bs b,iv e]
def RdR (x:Int)(b:By)(e:Int)(a:AV)(n:Nat)(H:lF):Prop:=a=iv x∧n=1∧H = [(0,tq b e)]
theorem JB (b:By)(hb:b.length<=3000000):mX Tryz.prog GC 33 [bs b] 0 [] (fun a n H=>a = .ptr 0 0∧n=1∧H = [(0,tq b 0)]):=by
 have h:=acP b [] (by simp;omega)
 rw [bZ]at h
 refine lH func33 rfl mixed (by kernel_rfl) ?_
 refine nI [] (by kernel_rfl) (h) (by trivial) ?_
 exact lW (.ptr 0 0) 1 _ [(0, .lab 1)] [0] ⟨rfl,rfl,rfl⟩ rfl (by trivial) (by trivial)
theorem Au (b:By)(e:Int):mX Tryz.prog GC 109 [.ptr 0 0] 1 [(0,tq b e)] (RdR e b e):=by
 refine lH func109 rfl mixed (by kernel_rfl) ?_
 exact lW (iv e) 1 [(0,tq b e)] [] [] ⟨rfl,rfl,rfl⟩ rfl (by trivial) (by trivial)
theorem aaS (b:By)(e f:Int):mX Tryz.prog GC 107 [.ptr 0 0,iv f] 1 [(0,tq b e)] (fun a n H=>a = .mW []∧n=1∧H = [(0,tq b (if e=0 then f else e))]):=by
 refine lH func107 rfl mixed (by kernel_rfl) ?_
 apply lD<;>intro h
 ·have h0:e=0:=by simpa using h
  exact lW (.mW []) 1 [(0,tq b f)] [] [] ⟨rfl,rfl,by rw [if_pos h0]⟩ rfl (by trivial) (by trivial)
 ·have h0:e≠0:=by simpa using h
  exact lW (.mW []) 1 [(0,tq b e)] [] [] ⟨rfl,rfl,by rw [if_neg h0]⟩ rfl (by trivial) (by trivial)
theorem vM {b:By}{e:Int}(h:AX b 0 0 = .bad e):nG b 0=(0,0,e):=by unfold nG;rw [if_pos rfl,h]
theorem qF {b:By}{n:Int}{k:Nat}(h:AX b 0 0 = .ok n k):nG b 0=(n,k,0):=by unfold nG;rw [if_pos rfl,h]
theorem P9 {b:By}{e:Int}(h:e≠0):nG b e=(0,0,e):=by unfold nG;rw [if_neg h]
structure NX where
 i:Nat
 u:Nat
def NI (b:By)(i u:Nat):Prop:=AX b 0 0=AX (b.drop i) i u∧u<128^i∧i<=9∧i<=b.length
theorem NI.last {b:By}{i u:Nat}(h:NI b i u)(hl:b.length<=i):AX b 0 0 = .bad 16:=by
 rw [h.1,iT hl];rfl
theorem NI.cons {b:By}{i u:Nat}(h:NI b i u)(hl:i<b.length):AX b 0 0=if i=9∧1<b[i].toNat then .bad 3 else if 128<=b[i].toNat then AX (b.drop (i+1)) (i+1) (u+b[i].toNat%128*128^i)else if b[i].toNat=0∧0<i then .bad 1 else .ok (zz (u+b[i].toNat%128*128^i)) (i+1):=by
 rw [h.1,dM hl];rfl
theorem NI.lt {i u c:Nat}(hu:u<128^i):u+c%128*128^i<128^(i+1):=by
 have h1:c%128<=127:=by omega
 have h2:=aU (128^i) h1
 rw [zB];omega
theorem Qa (c:UInt8):IntKind.u64.wrap (mD .and .u8 (c.toNat:Int) 127)=((c.toNat%128:Nat):Int):=by
 have e:(127:Int)=((127:Nat):Int):=rfl
 have hc:=c.toNat_lt
 rw [e,PK _ _ (by omega) (by decide),UZ,rY (by omega)]
theorem Dc {u:Nat}(hu:u<18446744073709551616):mD .and .u64 (u:Int) 1=((u%2:Nat):Int):=by
 have e:(1:Int)=((1:Nat):Int):=rfl
 rw [e,FD _ 1 hu (by decide),and1]
theorem rZ (b:By)(e:Int)(hb:b.length<=3000000):mX Tryz.prog GC 106 [.ptr 0 0] 1 [(0,tq b e)] (RdR (nG b e).1 (b.drop (nG b e).2.1) (nG b e).2.2):=by
 refine lH func106 rfl mixed (by kernel_rfl) ?_
 apply lD<;>intro h
 ·have h0:e≠0:=by simpa using h
  exact lW (iv 0) 1 [(0,tq b e)] [] [] (by rw [P9 h0];exact⟨rfl,rfl,rfl⟩) rfl (by trivial) (by trivial)
 have h0:e=0:=by simpa using h
 subst h0
 refine zx XZ [3,4] (fun x:NX=> [(3,uv x.u),(4,iv x.i)]) (fun x=>NI b x.i x.u) (fun x=>b.length-x.i) ⟨0,0⟩ (by kernel_rfl) (fun _=>rfl) (by kernel_rfl) ⟨rfl,by decide,by decide,aB _⟩ (by trivial) (by trivial) ?_
 rintro⟨i,u⟩ hN
 change NI b i u at hN
 have hi:=hN.2.2.1
 have hu:=hN.2.1
 refine lD (fun h1=> ?_) (fun h1=> ?_)
 ·have hil:b.length<=i:=by simp at h1;omega
  exact lW (iv 0) 1 [(0,tq b 16)] [] [] (by rw [vM (hN.last hil)];exact⟨rfl,rfl,rfl⟩) rfl (by trivial) (by trivial)
 have hil:i<b.length:=by simp at h1;omega
 have hc:=hN.cons hil
 refine ni.mk' i rfl (sD hil) ?_
 refine mG.map hil ?_
 conv=>whnf
 generalize b[i]=c at *
 have hcl:=c.toNat_lt
 refine lD (fun h2=> ?_) (fun h2=> ?_)
 ·have h9:i=9:=by simp at h2;omega
  refine lD (fun h3=> ?_) (fun h3=> ?_)
  ·have hc1:1<c.toNat:=by simp at h3;omega
   exact lW (iv 0) 1 [(0,tq b 3)] [] [] (by rw [vM (by rw [hc,if_pos ⟨h9,hc1⟩])];exact⟨rfl,rfl,rfl⟩) rfl (by trivial) (by trivial)
  ·have hc1:c.toNat<=1:=by simp at h3;omega
   have JC : ¬(i=9∧1<c.toNat):=by omega
   have VL:i=9->c.toNat%128<=1:=by omega
   have hx:=Jy (x:=c.toNat%128) hi (iJ _ (by decide)) VL
   have hU:u+c.toNat%128*128^i<18446744073709551616:=by
    have h1:=NI.lt (c:=c.toNat) hu
    rcases dJ i 9 with h2|h2
    ·have h3:128^(i+1)<=128^9:=dw (by decide) (by omega)
     have h4:(128:Nat)^9<18446744073709551616:=by decide
     omega
    ·have h3:i=9:=by omega
     have h4:=VL h3
     subst h3
     have h5:(128:Nat)^9=9223372036854775808:=by decide
     have h6:=aU (128^9) h4
     rw [h5]at hu h6 ⊢
     omega
   refine lU.to (Qa c) ?_
   refine lU.i64 (x:=7*(i:Int)) (by omega) ?_
   refine lG.mk (by show (0:Int)<=7*(i:Int);omega) ?_
   refine lU.to hx.1 ?_
   conv=>whnf
   rw [PL hu hi hx.2]
   refine lD (fun h4=> ?_) (fun h4=> ?_)
   ·have h128:128<=c.toNat:=by simp at h4;omega
    refine lU.i64 (x:=(i:Int)+1) (by omega) ?_
    exact lX ⟨i+1,u+c.toNat%128*128^i⟩ [] [] rfl (by show b.length -(i+1)<b.length-i;omega) ⟨by rw [hc,if_neg JC,if_pos h128],NI.lt hu,(show i+1<=9 by omega),hil⟩ (by trivial) ⟨rfl,rfl,trivial⟩
   ·have h128:c.toNat<128:=by simp at h4;omega
    refine lD (fun h5=> ?_) (fun h5=> ?_)
    ·have hc0:c.toNat=0:=by simp at h5;omega
     refine lD (fun h6=> ?_) (fun h6=> ?_)
     ·have hi0:0<i:=by simp at h6;omega
      exact lW (iv 0) 1 [(0,tq b 1)] [] [] (by rw [vM (by rw [hc,if_neg JC,if_neg (by omega),if_pos ⟨hc0,hi0⟩])];exact⟨rfl,rfl,rfl⟩) rfl (by trivial) (by trivial)
     have hi0:i=0:=by simp at h6;omega
     conv=>whnf
     have hok:AX b 0 0 = .ok (zz (u+c.toNat%128*128^i)) (i+1):=by rw [hc,if_neg JC,if_neg (by omega),if_neg (by omega)]
     refine lU.i64 (x:=(i:Int)+1) (by omega) ?_
     refine tJ.mk' (i+1) b.length rfl (by rw [ah]) (by omega) (by rw [ah];exact ay _) ?_
     refine lG.mk (by decide) ?_
     conv=>whnf
     generalize u+c.toNat%128*128^i=U at *
     refine lU.to (y:=((U/2:Nat):Int)) (by rw [vK];exact IntWalk.i64_in _ (by omega)) ?_
     refine lU.to (y:=((U%2:Nat):Int)) (by rw [Dc hU];exact IntWalk.i64_in _ (by omega)) ?_
     refine lU.i64 (by omega) ?_
     refine lW (iv (zz U)) 1 [(0,tq (b.drop (i+1)) 0)] [] [] (by rw [qF hok];exact⟨rfl,rfl,rfl⟩) rfl ⟨⟨rfl,⟨rfl,bT.symm⟩,rfl,trivial⟩,trivial⟩ ?_
     exact Je (D5 hU)
    ·have hc0:c.toNat≠0:=by simp at h5;omega
     conv=>whnf
     have hok:AX b 0 0 = .ok (zz (u+c.toNat%128*128^i)) (i+1):=by rw [hc,if_neg JC,if_neg (by omega),if_neg (by omega)]
     refine lU.i64 (x:=(i:Int)+1) (by omega) ?_
     refine tJ.mk' (i+1) b.length rfl (by rw [ah]) (by omega) (by rw [ah];exact ay _) ?_
     refine lG.mk (by decide) ?_
     conv=>whnf
     generalize u+c.toNat%128*128^i=U at *
     refine lU.to (y:=((U/2:Nat):Int)) (by rw [vK];exact IntWalk.i64_in _ (by omega)) ?_
     refine lU.to (y:=((U%2:Nat):Int)) (by rw [Dc hU];exact IntWalk.i64_in _ (by omega)) ?_
     refine lU.i64 (by omega) ?_
     refine lW (iv (zz U)) 1 [(0,tq (b.drop (i+1)) 0)] [] [] (by rw [qF hok];exact⟨rfl,rfl,rfl⟩) rfl ⟨⟨rfl,⟨rfl,bT.symm⟩,rfl,trivial⟩,trivial⟩ ?_
     exact Je (D5 hU)
 ·have h9:i≠9:=by simp at h2;omega
  have JC : ¬(i=9∧1<c.toNat):=by omega
  have VL:i=9->c.toNat%128<=1:=by omega
  ·skip
   have hx:=Jy (x:=c.toNat%128) hi (iJ _ (by decide)) VL
   have hU:u+c.toNat%128*128^i<18446744073709551616:=by
    have h1:=NI.lt (c:=c.toNat) hu
    rcases dJ i 9 with h2|h2
    ·have h3:128^(i+1)<=128^9:=dw (by decide) (by omega)
     have h4:(128:Nat)^9<18446744073709551616:=by decide
     omega
    ·have h3:i=9:=by omega
     have h4:=VL h3
     subst h3
     have h5:(128:Nat)^9=9223372036854775808:=by decide
     have h6:=aU (128^9) h4
     rw [h5]at hu h6 ⊢
     omega
   refine lU.to (Qa c) ?_
   refine lU.i64 (x:=7*(i:Int)) (by omega) ?_
   refine lG.mk (by show (0:Int)<=7*(i:Int);omega) ?_
   refine lU.to hx.1 ?_
   conv=>whnf
   rw [PL hu hi hx.2]
   refine lD (fun h4=> ?_) (fun h4=> ?_)
   ·have h128:128<=c.toNat:=by simp at h4;omega
    refine lU.i64 (x:=(i:Int)+1) (by omega) ?_
    exact lX ⟨i+1,u+c.toNat%128*128^i⟩ [] [] rfl (by show b.length -(i+1)<b.length-i;omega) ⟨by rw [hc,if_neg JC,if_pos h128],NI.lt hu,(show i+1<=9 by omega),hil⟩ (by trivial) ⟨rfl,rfl,trivial⟩
   ·have h128:c.toNat<128:=by simp at h4;omega
    refine lD (fun h5=> ?_) (fun h5=> ?_)
    ·have hc0:c.toNat=0:=by simp at h5;omega
     refine lD (fun h6=> ?_) (fun h6=> ?_)
     ·have hi0:0<i:=by simp at h6;omega
      exact lW (iv 0) 1 [(0,tq b 1)] [] [] (by rw [vM (by rw [hc,if_neg JC,if_neg (by omega),if_pos ⟨hc0,hi0⟩])];exact⟨rfl,rfl,rfl⟩) rfl (by trivial) (by trivial)
     have hi0:i=0:=by simp at h6;omega
     conv=>whnf
     have hok:AX b 0 0 = .ok (zz (u+c.toNat%128*128^i)) (i+1):=by rw [hc,if_neg JC,if_neg (by omega),if_neg (by omega)]
     refine lU.i64 (x:=(i:Int)+1) (by omega) ?_
     refine tJ.mk' (i+1) b.length rfl (by rw [ah]) (by omega) (by rw [ah];exact ay _) ?_
     refine lG.mk (by decide) ?_
     conv=>whnf
     generalize u+c.toNat%128*128^i=U at *
     refine lU.to (y:=((U/2:Nat):Int)) (by rw [vK];exact IntWalk.i64_in _ (by omega)) ?_
     refine lU.to (y:=((U%2:Nat):Int)) (by rw [Dc hU];exact IntWalk.i64_in _ (by omega)) ?_
     refine lU.i64 (by omega) ?_
     refine lW (iv (zz U)) 1 [(0,tq (b.drop (i+1)) 0)] [] [] (by rw [qF hok];exact⟨rfl,rfl,rfl⟩) rfl ⟨⟨rfl,⟨rfl,bT.symm⟩,rfl,trivial⟩,trivial⟩ ?_
     exact Je (D5 hU)
    ·have hc0:c.toNat≠0:=by simp at h5;omega
     conv=>whnf
     have hok:AX b 0 0 = .ok (zz (u+c.toNat%128*128^i)) (i+1):=by rw [hc,if_neg JC,if_neg (by omega),if_neg (by omega)]
     refine lU.i64 (x:=(i:Int)+1) (by omega) ?_
     refine tJ.mk' (i+1) b.length rfl (by rw [ah]) (by omega) (by rw [ah];exact ay _) ?_
     refine lG.mk (by decide) ?_
     conv=>whnf
     generalize u+c.toNat%128*128^i=U at *
     refine lU.to (y:=((U/2:Nat):Int)) (by rw [vK];exact IntWalk.i64_in _ (by omega)) ?_
     refine lU.to (y:=((U%2:Nat):Int)) (by rw [Dc hU];exact IntWalk.i64_in _ (by omega)) ?_
     refine lU.i64 (by omega) ?_
     refine lW (iv (zz U)) 1 [(0,tq (b.drop (i+1)) 0)] [] [] (by rw [qF hok];exact⟨rfl,rfl,rfl⟩) rfl ⟨⟨rfl,⟨rfl,bT.symm⟩,rfl,trivial⟩,trivial⟩ ?_
     exact Je (D5 hU)
theorem uF (b:By)(e most em:Int):qL b e most em=(if(if(nG b e).2.2=0 then(if(nG b e).1<0 then 3 else if most<(nG b e).1 then em else 0)else(nG b e).2.2)=0 then(nG b e).1 else 0,(nG b e).2.1,if(nG b e).2.2=0 then(if(nG b e).1<0 then 3 else if most<(nG b e).1 then em else 0)else(nG b e).2.2):=rfl
theorem JD (b:By)(e most em:Int)(hb:b.length<=3000000)(hem:em≠0)(aaT:0<=most):mX Tryz.prog GC 73 [.ptr 0 0,iv most,iv em] 1 [(0,tq b e)] (RdR (qL b e most em).1 (b.drop (qL b e most em).2.1) (qL b e most em).2.2):=by
 have hN:=rZ b e hb
 have hz:=(qW b e).2.2.2
 rw [uF]
 generalize nG b e=t at *
 obtain⟨x,k,e'⟩:=t
 simp only at hN hz ⊢
 generalize b.drop k=b' at *
 by_cases he:e'=0
 ·subst he
  clear hz
  simp only [if_true]
  refine lH func73 rfl mixed (by kernel_rfl) ?_
  refine sG [0] [] (by kernel_rfl) hN rfl (by trivial) (by trivial) rfl ?_
  apply lD<;>intro h
  ·have hx:x<0:=by simpa using h
   refine sG [0] [] (by kernel_rfl) (aaS b' 0 3) rfl (by trivial) (by trivial) rfl ?_
   exact lW (iv 0) 1 [(0,tq b' 3)] [] [] (by rw [if_pos hx];exact⟨rfl,rfl,rfl⟩) rfl (by trivial) (by trivial)
  have hx : ¬x<0:=by simpa using h
  apply lD<;>intro h
  ·have hm:most<x:=by simpa using h
   refine sG [0] [] (by kernel_rfl) (aaS b' 0 em) rfl (by trivial) (by trivial) rfl ?_
   rw [if_pos rfl]
   apply lD<;>intro h
   rotate_left
   ·exact absurd (by simpa using h) hem
   exact lW (iv 0) 1 [(0,tq b' em)] [] [] (by rw [if_neg hx,if_pos hm,if_neg hem];exact⟨rfl,rfl,rfl⟩) rfl (by trivial) (by trivial)
  have hm : ¬most<x:=by simpa using h
  exact lW (iv x) 1 [(0,tq b' 0)] [] [] (by rw [if_neg hx,if_neg hm,if_pos rfl];exact⟨rfl,rfl,rfl⟩) rfl (by trivial) (by trivial)
 ·obtain⟨rfl,rfl⟩:=hz he
  simp only [he,if_false]
  refine lH func73 rfl mixed (by kernel_rfl) ?_
  refine sG [0] [] (by kernel_rfl) hN rfl (by trivial) (by trivial) rfl ?_
  apply lD<;>intro h
  ·exfalso;simp at h;omega
  apply lD<;>intro h
  rotate_left
  ·exfalso;simp at h;exact he h
  exact lW (iv 0) 1 [(0,tq b' e')] [] [] ⟨rfl,rfl,rfl⟩ rfl (by trivial) (by trivial)
theorem Cm (b:By)(e most:Int)(hb:b.length<=3000000)(aaT:0<=most):mX Tryz.prog GC 108 [.ptr 0 0,iv most] 1 [(0,tq b e)] (RdR (qL b e most 5).1 (b.drop (qL b e most 5).2.1) (qL b e most 5).2.2):=by
 have hN:=JD b e most 5 hb (by decide) aaT
 generalize qL b e most 5=t at *
 obtain⟨x,k,e'⟩:=t
 simp only at hN ⊢
 generalize b.drop k=b' at *
 refine lH func108 rfl mixed (by kernel_rfl) ?_
 refine sG [0] [] (by kernel_rfl) hN rfl (by trivial) (by trivial) rfl ?_
 exact lW (iv x) 1 [(0,tq b' e')] [] [] ⟨rfl,rfl,rfl⟩ rfl (by trivial) (by trivial)
theorem agi (x y:Nat)(hx:x<18446744073709551616)(hy:y<18446744073709551616):mX Tryz.prog GC 215 [uv x,uv y] 0 [] (Is (.mW [uv (x*y/18446744073709551616),uv (x*y%18446744073709551616)])):=
 VA (l:= [.int .u64 (x:Int), .int .u64 (y:Int)]) fun w=>Calls.mono (Tryz.bits_Mul x y hx hy w) fun e w' ⟨h1,h2⟩=>⟨_,h1,rfl,by rw [h2];exact Below.refl _ _⟩
def zD (x:Int)(n k:Nat):List (List FV):=(List.replicate n x++List.replicate (k-n) 0).map xG
theorem MG (x:Int){n k:Nat}(h:n<=k):(zD x n k).length=k:=by simp [zD];omega
theorem FY (x:Int){n c k:Nat}(h:n+c<=k)(ys:List (List FV))(hy:ys=List.replicate c (xG x)):splice (zD x n k) n ys=zD x (n+c) k:=by
 subst hy
 unfold splice zD
 rw [dL,aJ,aJ,gX,gX,gX,gX]
 rw [eG (by simp),List.drop_append,dL,iT (by simp),bI,List.drop_replicate,jD]
 congr 2
 omega
theorem ZP (x:Int)(k:Nat)(hk:1<=k)(hk2:k<=100000):mX Tryz.prog GC 201 [li [x],iv k] 0 [] (wJ 3 1 ((List.replicate k x).map xG)):=by
 have hm:=agi 1 k (by decide) (by omega)
 refine lH func201 rfl mixed (by kernel_rfl) ?_
 refine lU.to (y:=((1:Nat):Int)) (rY (n:=1) (by decide)) ?_
 refine lU.to (y:=((k:Nat):Int)) (rY (by omega)) ?_
 (refine mQ [] (by kernel_rfl) (hm) rfl ?_ ?_;(focus trivial))
 apply lD<;>intro h
 ·exfalso;simp at h;omega
 apply lD<;>intro h
 ·exfalso;simp at h;omega
 refine lU.to (y:=((k:Nat):Int)) (by
  have e:1*k%18446744073709551616=k:=by omega
  rw [e];exact IntWalk.i64_in _ (by omega)) ?_
 refine NR.mk' (qU:=8) k rfl rfl (by unfold maxLen;omega) ?_
 refine mO YB 1 [8] (fun n:Nat=> [(8,iv n)]) (fun n=> [(0, .rows 3 1 (zD x n k))]) (fun n=>1<=n∧n<=k) (fun n=>k-n) [] [] 1 (by kernel_rfl) (fun _=>rfl) rfl ⟨ay _,hk⟩ ⟨⟨rfl,rfl, ?_⟩,trivial⟩ ⟨?_,trivial⟩ ?_
 ·have e:=FY x (n:=0) (c:=1) (k:=k) (by omega) [xG x] rfl
  have e2:List.replicate k [FV.v (.int .i64 0)]=zD x 0 k:=by unfold zD;rw [List.replicate_zero,bI,je,gX];rfl
  show splice (List.replicate k [FV.v (.int .i64 0)]) 0 (List.take (min 1 (List.replicate k [FV.v (.int .i64 0)]).length) [xG x])=_
  rw [e2,MG x (aB _),dG hk]
  exact e
 ·show Value.int .i64 ((min 1 (List.replicate k [FV.v (.int .i64 0)]).length:Nat):Int)=Value.int .i64 ((1:Nat):Int)
  rw [dL,dG hk]
 rintro n ⟨hn1,hn2⟩
 have hrl:=MG x hn2
 apply lD<;>intro h
 ·have hlt:n<k:=by rw [hrl]at h;simp at h;omega
  (refine nZ ab4 [0] (by kernel_rfl) ?_;conv=>whnf)
  refine tJ.mk' n k rfl (by rw [hrl]) hn2 (by rw [hrl];exact ay _) ?_
  refine tJ.mk' 0 n rfl rfl (aB _) (by rw [hrl];exact hn2) ?_
  conv=>whnf
  have hy:((zD x n k).drop 0).take (n-0)=List.replicate n (xG x):=by
   unfold zD
   rw [gK,je,aJ,gX,eG (by simp)]
  have hc:min (((zD x n k).drop 0).take (n-0)).length (k-n)=min n (k-n):=by rw [hy,dL]
  have hys:List.take (min (((zD x n k).drop 0).take (n-0)).length (k-n)) (((zD x n k).drop 0).take (n-0))=List.replicate (min n (k-n)) (xG x):=by
   rw [hc,hy,List.take_replicate]
   congr 1;omega
  have hsp:=FY x (n:=n) (c:=min n (k-n)) (k:=k) (by omega) _ hys
  refine lU.to (y:=((n+min n (k-n):Nat):Int)) (by rw [hc,IntWalk.i64_in _ (by omega)];omega) ?_
  exact lX (n+min n (k-n)) [] [] rfl (by show k -(n+min n (k-n))<k-n;omega) ⟨by omega,by omega⟩ ⟨⟨rfl,rfl,hsp⟩,trivial⟩ ⟨rfl,trivial⟩
 ·have:n=k:=by rw [hrl]at h;simp at h;omega
  subst this
  conv=>whnf
  have e:zD x n n=(List.replicate n x).map xG:=by unfold zD;rw [gJ,List.replicate_zero,bZ]
  exact lW (.own 0) 1 _ [(0, .lab 0)] [] ⟨rfl,rfl,rfl⟩ rfl ⟨⟨rfl,rfl,e⟩,trivial⟩ (by trivial)
def GR (body:Li->By)(b:By)(n:Nat)(a:AV)(m:Nat)(H:lF):Prop:= ∃l ok,OB body b n l ok∧a = .mW [.own 0,bv ok]∧m=1∧H = [(0, .rows 3 1 (l.map xG))]
structure RX where
 b:By
 e:Int
 out:Li
theorem pX {b:By}{m k:Nat}(h:b.length<=m):(b.drop k).length<=m:=by rw [aX];omega
theorem FZ (b:By)(n:Nat)(hb:b.length<=3000000)(hn:n<=512):mX Tryz.prog GC 177 [bs b,iv n] 0 [] (GR b1 b n):=by
 refine lH func177 rfl mixed (by kernel_rfl) ?_
 refine nI [] (by kernel_rfl) (JB b hb) (by trivial) ?_
 refine mO Yn 2 [7] (fun _:RX=> [(7, .own 1)]) (fun x=> [(1, .rows 3 1 (x.out.map xG)),(0,tq x.b x.e)]) (fun x=>x.out.length<=n∧nY x.out∧x.b.length<=3000000∧Pr b n b1 (Q1 x.b x.out x.e)) (fun x=>n-x.out.length) [(1, .nil)] [] ⟨b,0,[]⟩ (by kernel_rfl) (fun _=>rfl) rfl ⟨aB _,nY.nil,hb,(Pr.start b n b1).mono fun l0 r _ _ h=>Q1.start h⟩ ⟨rfl,(by trivial),trivial⟩ ⟨trivial,trivial⟩ ?_
 rintro⟨b',e,out⟩ ⟨h1,h2,h3,h4⟩
 change out.length<=n at h1
 change nY out at h2
 change b'.length<=3000000 at h3
 change Pr b n b1 (Q1 b' out e)at h4
 have fin:((e=0->out.length=n))->OB b1 b n out (e==0):=fun hx=>⟨h2,h1,h4.mono fun l0 r _ hl h=>by
  have:=h.fin fun he=>by rw [hx he,hl]
  exact⟨by simp [this.1],this.2.1⟩⟩
 apply lD<;>intro h
 ·have hlt:out.length<n:=by simp at h;omega
  refine sG [0] [] (by kernel_rfl) (Au b' e) rfl (by trivial) (by trivial) rfl ?_
  apply lD<;>intro h
  ·have he:e=0:=by simpa using h
   refine sG [0] [] (by kernel_rfl) (rZ b' e h3) rfl (by trivial) (by trivial) rfl ?_
   refine lG.mk (lM (by simp only [ln];omega) (by kernel_rfl)) ?_
   refine lX ⟨b'.drop (nG b' e).2.1,(nG b' e).2.2,out++ [(nG b' e).1]⟩ [(1, .lab 3)] [] rfl (by show n -(out++ [(nG b' e).1]).length<n-out.length;rw [ak];simp;omega)
    ⟨by show (out++ [(nG b' e).1]).length<=n;rw [ak];simp;omega,h2.snoc (qW b' e).1,pX h3,fun l0 r ha hl hb0=>(h4 l0 r ha hl hb0).step ha (by omega)⟩ ⟨⟨rfl,rfl,(MF out _).symm⟩,(by trivial),trivial⟩ ⟨rfl,trivial⟩
  ·have he:e≠0:=by simpa using h
   refine sG [0] [] (by kernel_rfl) (Au b' e) rfl (by trivial) (by trivial) rfl ?_
   exact lW (.mW [.own 0,bv (e==0)]) 1 _ [(0, .lab 1)] [] ⟨out,e==0,fin fun h=>absurd h he,rfl,rfl,rfl⟩ rfl (by trivial) (by trivial)
 ·have hlt:out.length=n:=by simp at h;omega
  refine sG [0] [] (by kernel_rfl) (Au b' e) rfl (by trivial) (by trivial) rfl ?_
  exact lW (.mW [.own 0,bv (e==0)]) 1 _ [(0, .lab 1)] [] ⟨out,e==0,fin fun _=>hlt,rfl,rfl,rfl⟩ rfl (by trivial) (by trivial)
def Nr (l:Li)(i:Nat):Li:=(sm 0 l).take i++l.drop i
theorem ZQ (l:Li)(i:Nat)(h:i<=l.length):(Nr l i).length=l.length:=by unfold Nr;rw [ak,aK,aX,xY];omega
theorem acU {l:Li}{i:Nat}(h:i<l.length):(Nr l i)[i]? = some l[i]:=by
 unfold Nr
 rw [dB (by rw [aK,xY];omega),aK,xY,dG (by omega),gJ,cZ,dH,aj h]
theorem OJ {l:Li}{i:Nat}(h:i<l.length)(h0:0<i):(Nr l i)[i-1]? = some ((sm 0 l).getD (i-1) 0):=by
 unfold Nr
 rw [dF (by rw [aK,xY];omega),bH,if_pos (by omega),aW,aj (by rw [xY];omega)]
 rfl
theorem VN {l:Li}{i:Nat}(h:i<l.length)(h0:0<i):Nr l (i+1)=(Nr l i).set i (FK (l[i]+(sm 0 l).getD (i-1) 0)):=by
 obtain⟨j,rfl⟩ : ∃j,i=j+1:=⟨i-1,by omega⟩
 have hs:=sm_at l 0 j h
 have hg:l.getD (j+1) 0=l[j+1]:=by rw [aW,aj h];rfl
 rw [hg,Int.add_comm]at hs
 have hlt:j+1<(sm 0 l).length:=by rw [xY];exact h
 unfold Nr
 rw [aH hlt,iG _ _ (by rw [aK];omega),aK,dG (by omega),gJ,drop_cons h,List.set_cons_zero,aO]
 rw [aj hlt]at hs
 injection hs with hs
 rw [hs]
 rfl
theorem ZR {l:Li}(h:nY l):Nr l 1=l:=by
 cases l with
 | nil=>rfl
 | cons x r=>
  have:=U6 (h x bJ)
  simp only [Nr,sm,Int.zero_add,this]
  rfl
theorem RV {b:By}{n:Nat}{l:Li}{ok:Bool}(h:OB b1 b n l ok):OB b3 b n (sm 0 l) ok:=by
 refine⟨acK l 0,by rw [xY];exact h.2.1,fun l0 r ha hl hb=> ?_⟩
 have:=h.2.2 (dl 0 l0) r (acJ l0 0) (by rw [acI];exact hl) (by rw [hb, <-aeA];rfl)
 exact⟨this.1,by rw [this.2,aeB l0 0 ha]⟩
theorem OL (b:By)(n:Nat)(hb:b.length<=3000000)(hn:n<=512):mX Tryz.prog GC 181 [bs b,iv n] 0 [] (GR b3 b n):=by
 refine lH func181 rfl mixed (by kernel_rfl) ?_
 (refine oJ [] (by kernel_rfl) (FZ b n hb hn) ?_ ?_;(focus trivial))
 rintro _ _ _ ⟨l,ok,hd,rfl,rfl,rfl⟩
 conv=>whnf
 have hll:=hd.2.1
 refine mO Yt 1 [8] (fun i:Nat=> [(8,iv i)]) (fun i=> [(0, .rows 3 1 ((Nr l i).map xG))]) (fun i=>1<=i∧(l.length=0∨i<=l.length)) (fun i=>l.length-i) [] [] 1 (by kernel_rfl) (fun _=>rfl) rfl ⟨ay _,by omega⟩ ⟨⟨rfl,rfl,by rw [ZR hd.1]⟩,trivial⟩ ⟨rfl,trivial⟩ ?_
 rintro i ⟨hi1,hi2⟩
 have hsl:(Nr l i).length=l.length:=by
  rcases hi2 with h|h
  ·have:l = []:=aF h
   subst this;simp [Nr,sm]
  ·exact ZQ l i h
 apply lD<;>intro h
 ·have hlt:i<l.length:=by simp only [ah,hsl]at h;simp at h;omega
  (refine nZ ab2 [] (by kernel_rfl) ?_;conv=>whnf)
  repeat' (first
   | (refine ni.mk' i rfl (by rw [ah,hsl];exact hlt) ?_;conv=>whnf)
   | (refine ni.mk' (i-1) (by show (i:Int)-1=_;omega) (by rw [ah,hsl];omega) ?_;conv=>whnf)
   | (refine mG.lS (acU hlt) ?_;conv=>whnf)
   | (refine mG.lS (OJ hlt hi1) ?_;conv=>whnf)
   | (refine lU.i64 (x:=(i:Int)-1) (by omega) ?_;conv=>whnf)
   | (refine lU.i64 (x:=(i:Int)+1) (by omega) ?_;conv=>whnf)
   | (refine lU.to rfl ?_;conv=>whnf))
  refine lX (i+1) [] [] rfl (by show l.length -(i+1)<l.length-i;omega) ⟨by omega, .inr hlt⟩ ⟨⟨rfl,rfl, ?_⟩,trivial⟩ ⟨rfl,trivial⟩
  rw [VN hlt hi1,dP]
  rfl
 ·have hge:l.length<=i:=by simp only [ah,hsl]at h;simp at h;omega
  have e:Nr l i=sm 0 l:=by unfold Nr;rw [iT hge,bZ,dZ (by rw [xY];exact hge)]
  exact lW (.mW [.own 0,bv ok]) 1 _ [(0, .lab 0)] [] ⟨sm 0 l,ok,RV hd,rfl,rfl,by rw [<-e]⟩ rfl (by trivial) (by trivial)
structure SX where
 b:By
 out:Li
theorem RY (b:By)(n:Nat)(hb:b.length<=3000000)(hn:n<=512):mX Tryz.prog GC 179 [bs b,iv n] 0 [] (GR b2 b n):=by
 refine lH func179 rfl mixed (by kernel_rfl) ?_
 refine nI [] (by kernel_rfl) (JB b hb) (by trivial) ?_
 refine mO Yq 2 [7] (fun _:SX=> [(7, .own 1)]) (fun x=> [(1, .rows 3 1 (x.out.map xG)),(0,tq x.b 0)]) (fun x=>x.out.length<=n∧nY x.out∧x.b.length<=3000000∧Pr b n b2 (Q2 x.b x.out 0)) (fun x=>n-x.out.length) [(1, .nil)] [] ⟨b,[]⟩ (by kernel_rfl) (fun _=>rfl) rfl ⟨aB _,nY.nil,hb,(Pr.start b n b2).mono fun l0 r _ _ h=>Q2.start h⟩ ⟨rfl,(by trivial),trivial⟩ ⟨trivial,trivial⟩ ?_
 rintro⟨b',out⟩ ⟨h1,h2,h3,h4⟩
 change out.length<=n at h1
 change nY out at h2
 change b'.length<=3000000 at h3
 change Pr b n b2 (Q2 b' out 0)at h4
 apply lD<;>intro h
 rotate_left
 ·have hlt:out.length=n:=by simp at h;omega
  exact lW (.mW [.own 0,bv true]) 1 _ [(0, .lab 1)] [] ⟨out,true,⟨h2,h1,h4.mono fun l0 r _ hl h=>⟨rfl,(h.fin (by omega)).1⟩⟩,rfl,rfl,rfl⟩ rfl (by trivial) (by trivial)
 have hlt:out.length<n:=by simp at h;omega
 refine sG [0] [] (by kernel_rfl) (rZ b' 0 h3) rfl (by trivial) (by trivial) rfl ?_
 refine sG [0] [] (by kernel_rfl) (rZ (b'.drop (nG b' 0).2.1) (nG b' 0).2.2 (pX h3)) rfl (by trivial) (by trivial) rfl ?_
 conv=>whnf
 have hx:=(qW b' 0).1
 have hb2:((b'.drop (nG b' 0).2.1).drop (nG (b'.drop (nG b' 0).2.1) (nG b' 0).2.2).2.1).length<=3000000:=pX (pX h3)
 have step:Pr b n b2 fun l0 r=> ∃m:Nat,(nG (b'.drop (nG b' 0).2.1) (nG b' 0).2.2).2.2=0∧(nG (b'.drop (nG b' 0).2.1) (nG b' 0).2.2).1=((m+1:Nat):Int)∧m+1+out.length<=n∧
   Q2 ((b'.drop (nG b' 0).2.1).drop (nG (b'.drop (nG b' 0).2.1) (nG b' 0).2.2).2.1) (out++List.replicate (m+1) (nG b' 0).1) 0 l0 r:=fun l0 r ha hl hb0=>by
  have:=(h4 l0 r ha hl hb0).step ha (by omega) (by omega)
  rw [hl]at this
  exact this
 generalize (nG b' 0).1=x at *
 generalize hq:nG (b'.drop (nG b' 0).2.1) (nG b' 0).2.2=t at *
 obtain⟨kk,j,e⟩:=t
 simp only at step hb2 ⊢
 generalize (b'.drop (nG b' 0).2.1).drop j=b2' at *
 refine sG [0] [] (by kernel_rfl) (Au b2' e) rfl (by trivial) (by trivial) rfl ?_
 conv=>whnf
 have bad:(¬(e=0∧1<=kk∧kk<=(n:Int) -(out.length:Int)))->OB b2 b n [] false:=fun hbad=>⟨nY.nil,aB _,fun l0 r ha hl hb0=>by
  obtain⟨m,m1,m2,m3,_⟩:=step l0 r ha hl hb0
  exact absurd ⟨m1,by omega,by omega⟩ hbad⟩
 apply lD<;>intro h
 ·have he:e≠0:=by simpa using h
  exact lW (.mW [.own 0,bv false]) 1 [(0, .rows 3 1 [])] [(0, .nil)] [] ⟨[],false,bad fun h=>he h.1,rfl,rfl,rfl⟩ rfl (by trivial) (by trivial)
 have he:e=0:=by simpa using h
 subst he
 apply lD<;>intro h
 ·have hk:kk<1:=by simpa using h
  exact lW (.mW [.own 0,bv false]) 1 [(0, .rows 3 1 [])] [(0, .nil)] [] ⟨[],false,bad fun h=>by omega,rfl,rfl,rfl⟩ rfl (by trivial) (by trivial)
 have hk:1<=kk:=by simp at h;omega
 refine lU.to (y:=(n:Int) -(out.length:Int)) (by rw [ah];exact IntWalk.i64_in _ (by show _<=(n:Int) -(out.length:Int)∧(n:Int) -(out.length:Int)<=_;omega)) ?_
 apply lD<;>intro h
 ·have hk2:(n:Int) -(out.length:Int)<kk:=by simp at h;omega
  exact lW (.mW [.own 0,bv false]) 1 [(0, .rows 3 1 [])] [(0, .nil)] [] ⟨[],false,bad fun h=>by omega,rfl,rfl,rfl⟩ rfl (by trivial) (by trivial)
 have hk2:kk<=(n:Int) -(out.length:Int):=by simp at h;omega
 obtain⟨k,rfl⟩ : ∃k:Nat,kk=(k:Int):=⟨kk.toNat,by omega⟩
 refine nI [2] (by kernel_rfl) (ZP x k (by omega) (by omega)) (by trivial) ?_
 refine lG.mk (lM (by simp only [ln];omega) (by kernel_rfl)) ?_
 refine lX ⟨b2',out++List.replicate k x⟩ [(1, .lab 4)] [] rfl (by show n -(out++List.replicate k x).length<n-out.length;rw [ak,dL];omega)
  ⟨by show (out++List.replicate k x).length<=n;rw [ak,dL];omega,h2.app (nY.rep hx k),hb2,fun l0 r ha hl hb0=> ?_⟩ ⟨⟨rfl,rfl,by rw [aJ]⟩,(by trivial),trivial⟩ ⟨rfl,trivial⟩
 obtain⟨m,m1,m2,m3,m4⟩:=step l0 r ha hl hb0
 have:m+1=k:=by omega
 rw [this]at m4
 exact m4
theorem uG (b:By)(e most em:Int)(hm:0<=most)(hem:em≠0):0<=(qL b e most em).1∧(qL b e most em).1<=most∧(qL b e most em).2.1=(nG b e).2.1∧((qL b e most em).2.2=0->(nG b e).2.2=0∧(qL b e most em).1=(nG b e).1):=by
 rw [uF]
 generalize nG b e=t
 obtain⟨x,k,e'⟩:=t
 simp only
 by_cases h1:e'=0
 ·by_cases h2:x<0
  ·simp [h1,h2,hm]
  ·by_cases h3:most<x
   ·simp [h1,h2,h3,hm,hem]
   ·simp [h1,h2,h3];omega
 ·simp [h1,hm]
theorem OM (b:By)(n:Nat)(hb:b.length<=3000000)(hn:n<=512):mX Tryz.prog GC 183 [bs b,iv n] 0 [] (GR b4 b n):=by
 have hstart:=Q4k.start (b:=b) (n:=n) hn (most:=(n:Int)) (em:=5) (iQ _)
 have hcb:(b.drop (qL b 0 n 5).2.1).length<=3000000:=pX hb
 have hcnt:=Cm b 0 n hb (by omega)
 have hkk:=uG b 0 (n:Int) 5 (by omega) (by decide)
 generalize qL b 0 n 5=t at *
 obtain⟨kk,j,e0⟩:=t
 simp only at hstart hcb hcnt hkk
 have hkk:=And.intro hkk.1 hkk.2.1
 generalize b.drop j=b0 at *
 obtain⟨k,rfl⟩ : ∃k:Nat,kk=(k:Int):=⟨kk.toNat,by omega⟩
 refine lH func183 rfl mixed (by kernel_rfl) ?_
 refine nI [] (by kernel_rfl) (JB b hb) (by trivial) ?_
 refine sG [0] [] (by kernel_rfl) hcnt rfl (by trivial) (by trivial) rfl ?_
 refine mO Yv 2 [8] (fun _:RX=> [(8, .own 1)]) (fun x=> [(1, .rows 3 1 (x.out.map xG)),(0,tq x.b x.e)]) (fun x=>x.out.length<=k∧nY x.out∧x.b.length<=3000000∧Pr b n b4 (Q4k k x.b x.out x.e)) (fun x=>k-x.out.length) [(1, .nil)] [] ⟨b0,e0,[]⟩ (by kernel_rfl) (fun _=>rfl) rfl ⟨aB _,nY.nil,hcb,fun l0 r ha hl hb0=>(hstart l0 r ha hl hb0).2⟩ ⟨rfl,(by trivial),trivial⟩ ⟨trivial,trivial⟩ ?_
 rintro⟨b',e,keys⟩ ⟨h1,h2,h3,h4⟩
 change keys.length<=k at h1
 change nY keys at h2
 change b'.length<=3000000 at h3
 change Pr b n b4 (Q4k k b' keys e)at h4
 apply lD<;>intro h
 ·have hlt:keys.length<k:=by simp at h;omega
  refine sG [0] [] (by kernel_rfl) (Au b' e) rfl (by trivial) (by trivial) rfl ?_
  apply lD<;>intro h
  ·have he:e=0:=by simpa using h
   refine sG [0] [] (by kernel_rfl) (rZ b' e h3) rfl (by trivial) (by trivial) rfl ?_
   refine lG.mk (lM (by simp only [ln];omega) (by kernel_rfl)) ?_
   refine lX ⟨b'.drop (nG b' e).2.1,(nG b' e).2.2,keys++ [(nG b' e).1]⟩ [(1, .lab 3)] [] rfl (by show k -(keys++ [(nG b' e).1]).length<k-keys.length;rw [ak];simp;omega)
    ⟨by show (keys++ [(nG b' e).1]).length<=k;rw [ak];simp;omega,h2.snoc (qW b' e).1,pX h3,fun l0 r ha hl hb0=> ?_⟩ ⟨⟨rfl,rfl,(MF keys _).symm⟩,(by trivial),trivial⟩ ⟨rfl,trivial⟩
   obtain⟨hk,hq⟩:=h4 l0 r ha hl hb0
   exact⟨hk,hq.step (fun y hy=>ha y ((xg l0 y).1 hy)) (by omega)⟩
  have he:e≠0:=by simpa using h
  have hx:e=0->keys.length=k:=fun h=>absurd h he
  refine mO PD 3 [9] (fun _:RX=> [(9, .own 2)]) (fun x=> [(2, .rows 3 1 (x.out.map xG)),(1, .rows 3 1 (keys.map xG)),(0,tq x.b x.e)]) (fun x=>x.out.length<=n∧nY x.out∧x.b.length<=3000000∧Pr b n b4 (Q4 keys x.b x.out x.e)) (fun x=>n-x.out.length) [(2, .nil)] [] ⟨b',e,[]⟩ (by kernel_rfl) (fun _=>rfl) rfl ⟨aB _,nY.nil,h3,h4.mono fun l0 r _ _ h=>Q4.start (fun he=>by rw [hx he]) h⟩ ⟨rfl,⟨rfl,rfl,rfl⟩,(by trivial),trivial⟩ ⟨trivial,trivial⟩ ?_
  clear h3 h4 hx h1
  rintro⟨b',e,out⟩ ⟨h1,h5,h3,h4⟩
  change out.length<=n at h1
  change nY out at h5
  change b'.length<=3000000 at h3
  change Pr b n b4 (Q4 keys b' out e)at h4
  apply lD<;>intro h
  rotate_left
  ·have hlt:out.length=n:=by simp at h;omega
   exact lW (.mW [.own 0,bv true]) 1 _ [(0, .lab 2)] [] ⟨out,true,⟨h5,h1,h4.mono fun l0 r _ hl h=>⟨rfl,(h.fin (by omega)).1⟩⟩,rfl,rfl,rfl⟩ rfl (by trivial) (by trivial)
  have hlt:out.length<n:=by simp at h;omega
  have step:Pr b n b4 fun l0 r=> ∃(i:Nat) (x:Int),(nG b' e).2.2=0∧(nG b' e).1=(i:Int)∧keys[i]? = some x∧Q4 keys (b'.drop (nG b' e).2.1) (out++ [x]) 0 l0 r:=fun l0 r ha hl hb0=>(h4 l0 r ha hl hb0).step (by omega) (by omega)
  have hnum:=rZ b' e h3
  have hb2:(b'.drop (nG b' e).2.1).length<=3000000:=pX h3
  generalize nG b' e=t at *
  obtain⟨ii,j,e2⟩:=t
  simp only at step hnum hb2
  generalize b'.drop j=b2' at *
  refine sG [0] [] (by kernel_rfl) hnum rfl (by trivial) (by trivial) rfl ?_
  refine sG [0] [] (by kernel_rfl) (Au b2' e2) rfl (by trivial) (by trivial) rfl ?_
  conv=>whnf
  have bad:(¬(e2=0∧0<=ii∧ii<(keys.length:Int)))->OB b4 b n [] false:=fun hbad=>⟨nY.nil,aB _,fun l0 r ha hl hb0=>by
   obtain⟨i,x,m1,m2,m3,_⟩:=step l0 r ha hl hb0
   have:=(aG.1 m3).1
   exact absurd ⟨m1,by omega,by omega⟩ hbad⟩
  apply lD<;>intro h
  ·have he:e2≠0:=by simpa using h
   exact lW (.mW [.own 0,bv false]) 1 [(0, .rows 3 1 [])] [(0, .nil)] [] ⟨[],false,bad fun h=>he h.1,rfl,rfl,rfl⟩ rfl (by trivial) (by trivial)
  have he:e2=0:=by simpa using h
  subst he
  apply lD<;>intro h
  ·have hk:ii<0:=by simpa using h
   exact lW (.mW [.own 0,bv false]) 1 [(0, .rows 3 1 [])] [(0, .nil)] [] ⟨[],false,bad fun h=>by omega,rfl,rfl,rfl⟩ rfl (by trivial) (by trivial)
  have hk:0<=ii:=by simp at h;omega
  apply lD<;>intro h
  ·have hk2:(keys.length:Int)<=ii:=by simp at h;omega
   exact lW (.mW [.own 0,bv false]) 1 [(0, .rows 3 1 [])] [(0, .nil)] [] ⟨[],false,bad fun h=>by omega,rfl,rfl,rfl⟩ rfl (by trivial) (by trivial)
  have hk2:ii<(keys.length:Int):=by simp at h;omega
  obtain⟨i,rfl⟩ : ∃i:Nat,ii=(i:Int):=⟨ii.toNat,by omega⟩
  have hil:i<keys.length:=by omega
  refine ni.mk' i rfl (sD hil) ?_
  refine mG.map hil ?_
  refine lG.mk (lM (by simp only [ln];omega) (by kernel_rfl)) ?_
  refine lX ⟨b2',0,out++ [keys[i]]⟩ [(2, .lab 4)] [] rfl (by show n -(out++ [keys[i]]).length<n-out.length;rw [ak];simp;omega)
   ⟨by show (out++ [keys[i]]).length<=n;rw [ak];simp;omega,h5.snoc (h2 _ (bD hil)),hb2,fun l0 r ha hl hb0=> ?_⟩ ⟨⟨rfl,rfl,(MF out _).symm⟩,⟨rfl,rfl,rfl⟩,(by trivial),trivial⟩ ⟨rfl,trivial⟩
  obtain⟨i',x,m1,m2,m3,m4⟩:=step l0 r ha hl hb0
  have:i'=i:=by omega
  subst this
  rw [aj hil]at m3
  injection m3 with m3
  rw [m3]
  exact m4
 ·have hlt:keys.length=k:=by simp at h;omega
  have hx:e=0->keys.length=k:=fun _=>hlt
  refine mO PD 3 [9] (fun _:RX=> [(9, .own 2)]) (fun x=> [(2, .rows 3 1 (x.out.map xG)),(1, .rows 3 1 (keys.map xG)),(0,tq x.b x.e)]) (fun x=>x.out.length<=n∧nY x.out∧x.b.length<=3000000∧Pr b n b4 (Q4 keys x.b x.out x.e)) (fun x=>n-x.out.length) [(2, .nil)] [] ⟨b',e,[]⟩ (by kernel_rfl) (fun _=>rfl) rfl ⟨aB _,nY.nil,h3,h4.mono fun l0 r _ _ h=>Q4.start (fun he=>by rw [hx he]) h⟩ ⟨rfl,⟨rfl,rfl,rfl⟩,(by trivial),trivial⟩ ⟨trivial,trivial⟩ ?_
  clear h3 h4 hx h1
  rintro⟨b',e,out⟩ ⟨h1,h5,h3,h4⟩
  change out.length<=n at h1
  change nY out at h5
  change b'.length<=3000000 at h3
  change Pr b n b4 (Q4 keys b' out e)at h4
  apply lD<;>intro h
  rotate_left
  ·have hlt:out.length=n:=by simp at h;omega
   exact lW (.mW [.own 0,bv true]) 1 _ [(0, .lab 2)] [] ⟨out,true,⟨h5,h1,h4.mono fun l0 r _ hl h=>⟨rfl,(h.fin (by omega)).1⟩⟩,rfl,rfl,rfl⟩ rfl (by trivial) (by trivial)
  have hlt:out.length<n:=by simp at h;omega
  have step:Pr b n b4 fun l0 r=> ∃(i:Nat) (x:Int),(nG b' e).2.2=0∧(nG b' e).1=(i:Int)∧keys[i]? = some x∧Q4 keys (b'.drop (nG b' e).2.1) (out++ [x]) 0 l0 r:=fun l0 r ha hl hb0=>(h4 l0 r ha hl hb0).step (by omega) (by omega)
  have hnum:=rZ b' e h3
  have hb2:(b'.drop (nG b' e).2.1).length<=3000000:=pX h3
  generalize nG b' e=t at *
  obtain⟨ii,j,e2⟩:=t
  simp only at step hnum hb2
  generalize b'.drop j=b2' at *
  refine sG [0] [] (by kernel_rfl) hnum rfl (by trivial) (by trivial) rfl ?_
  refine sG [0] [] (by kernel_rfl) (Au b2' e2) rfl (by trivial) (by trivial) rfl ?_
  conv=>whnf
  have bad:(¬(e2=0∧0<=ii∧ii<(keys.length:Int)))->OB b4 b n [] false:=fun hbad=>⟨nY.nil,aB _,fun l0 r ha hl hb0=>by
   obtain⟨i,x,m1,m2,m3,_⟩:=step l0 r ha hl hb0
   have:=(aG.1 m3).1
   exact absurd ⟨m1,by omega,by omega⟩ hbad⟩
  apply lD<;>intro h
  ·have he:e2≠0:=by simpa using h
   exact lW (.mW [.own 0,bv false]) 1 [(0, .rows 3 1 [])] [(0, .nil)] [] ⟨[],false,bad fun h=>he h.1,rfl,rfl,rfl⟩ rfl (by trivial) (by trivial)
  have he:e2=0:=by simpa using h
  subst he
  apply lD<;>intro h
  ·have hk:ii<0:=by simpa using h
   exact lW (.mW [.own 0,bv false]) 1 [(0, .rows 3 1 [])] [(0, .nil)] [] ⟨[],false,bad fun h=>by omega,rfl,rfl,rfl⟩ rfl (by trivial) (by trivial)
  have hk:0<=ii:=by simp at h;omega
  apply lD<;>intro h
  ·have hk2:(keys.length:Int)<=ii:=by simp at h;omega
   exact lW (.mW [.own 0,bv false]) 1 [(0, .rows 3 1 [])] [(0, .nil)] [] ⟨[],false,bad fun h=>by omega,rfl,rfl,rfl⟩ rfl (by trivial) (by trivial)
  have hk2:ii<(keys.length:Int):=by simp at h;omega
  obtain⟨i,rfl⟩ : ∃i:Nat,ii=(i:Int):=⟨ii.toNat,by omega⟩
  have hil:i<keys.length:=by omega
  refine ni.mk' i rfl (sD hil) ?_
  refine mG.map hil ?_
  refine lG.mk (lM (by simp only [ln];omega) (by kernel_rfl)) ?_
  refine lX ⟨b2',0,out++ [keys[i]]⟩ [(2, .lab 4)] [] rfl (by show n -(out++ [keys[i]]).length<n-out.length;rw [ak];simp;omega)
   ⟨by show (out++ [keys[i]]).length<=n;rw [ak];simp;omega,h5.snoc (h2 _ (bD hil)),hb2,fun l0 r ha hl hb0=> ?_⟩ ⟨⟨rfl,rfl,(MF out _).symm⟩,⟨rfl,rfl,rfl⟩,(by trivial),trivial⟩ ⟨rfl,trivial⟩
  obtain⟨i',x,m1,m2,m3,m4⟩:=step l0 r ha hl hb0
  have:i'=i:=by omega
  subst this
  rw [aj hil]at m3
  injection m3 with m3
  rw [m3]
  exact m4
theorem aeM (c:UInt8){s:Nat}(hs:s<8):IntKind.u64.wrap (mD .and .u8 (Int.fdiv (c.toNat:Int) (2^min (Int.toNat (s:Int)) IntKind.u8.bits)) 1)=(((if c.toNat.testBit s=true then 1 else 0):Nat):Int):=by
 have e:IntKind.u8.bits=8:=rfl
 have e1:(1:Int)=((1:Nat):Int):=rfl
 have hc:=c.toNat_lt
 have hd:c.toNat/2^s<=c.toNat:=kR _ _
 have e2:Int.fdiv (c.toNat:Int) (2^s)=((c.toNat/2^s:Nat):Int):=by rw [fD _ (Int.pow_nonneg (by decide))];simp
 rw [e,dK,dG (by omega),e2,e1,PK _ _ (by omega) (by decide),and1,OD,rY (by split<;>omega)]
theorem aeN {c k:Nat}(hc:c<=1)(hk:k<64):IntKind.u64.wrap ((c:Int)*2^min (Int.toNat (k:Int)) IntKind.u64.bits)=((c*2^k:Nat):Int)∧c*2^k<18446744073709551616:=by
 have e:IntKind.u64.bits=64:=rfl
 have h1:2^k<=2^63:=dw (by decide) (by omega)
 have h2:=jC hc h1
 have h3:(1:Nat)*2^63<18446744073709551616:=by decide
 have e2:(c:Int)*2^k=((c*2^k:Nat):Int):=by simp
 rw [e,dK,dG (by omega),e2]
 exact⟨rY (by omega),by omega⟩
theorem or_bit {d c k:Nat}(hd:d<2^k)(hk:k<64)(hc:c*2^k<18446744073709551616):mD .or .u64 (d:Int) ((c*2^k:Nat):Int)=((d+c*2^k:Nat):Int):=by
 have h1:2^k<=2^63:=dw (by decide) (by omega)
 have h3:(2:Nat)^63<18446744073709551616:=by decide
 rw [Jv d _ (by omega) hc,BZ _ _ hd]
theorem acV (x:Int)(d:Nat):IntKind.i64.wrap (IntKind.u64.wrap (IntKind.u64.wrap x+(d:Int)))=FK (x+(d:Int)):=by
 have e:IntKind.u64.bits=64:=rfl
 have e1:IntKind.u64.signed=false:=rfl
 have:=Cc (IntKind.u64.wrap (IntKind.u64.wrap x+(d:Int)))
 unfold FK at this
 rw [this,Cc]
 simp only [IntKind.wrap,e,e1,fE,aZ,if_false]
 omega
theorem acW {b:By}(h:(qL (b.drop (nG b 0).2.1) (nG b 0).2.2 64 5).2.2=0) : ∃(w:Nat) (rest:By),w<=64∧(qL (b.drop (nG b 0).2.1) (nG b 0).2.2 64 5).1=(w:Int)∧I64 (nG b 0).1∧b=num (nG b 0).1++(num (w:Int)++rest):=by
 have hr:=uG (b.drop (nG b 0).2.1) (nG b 0).2.2 64 5 (by decide) (by decide)
 have h2:=hr.2.2.2 h
 have o2:=(qW (b.drop (nG b 0).2.1) (nG b 0).2.2).2.2.1 h2.1
 have o1:=qW b 0
 have o3:=o1.2.2.1 o2.1
 refine⟨(qL (b.drop (nG b 0).2.1) (nG b 0).2.2 64 5).1.toNat,(b.drop (nG b 0).2.1).drop (nG (b.drop (nG b 0).2.1) (nG b 0).2.2).2.1,by omega,by omega,o1.1, ?_⟩
 have e:(((qL (b.drop (nG b 0).2.1) (nG b 0).2.2 64 5).1.toNat:Nat):Int)=(nG (b.drop (nG b 0).2.1) (nG b 0).2.2).1:=by omega
 rw [e, <-o2.2.1]
 exact o3.2.1
theorem VO {b rest:By}{least:Int}{n w:Nat}(hi:I64 least)(hw:w<=64)(hb:b=num least++(num (w:Int)++rest)):Pr b n b5 (Q5 least w rest):=fun l0 r ha hl h=>by
 rw [hb]at h
 have hlw:=PW l0 ha
 cases l0 with
 | nil=>
  have e0:b5 []=num 0++(num ((0:Nat):Int)++ []):=by decide
  have r1:=qH hi (num (w:Int)++rest)
  have r2:=qH (n:=0) (by unfold I64;omega) (num ((0:Nat):Int)++r)
  rw [h,e0]at r1
  simp only [bZ,aO]at r1
  rw [r2]at r1
  have e1:least=0:=by injection r1 with h _;exact h.symm
  subst e1
  rw [e0]at h
  simp only [bZ,aO]at h
  have h:=bV h
  have r3:=qH (n:=(w:Int)) (nD (by omega)) rest
  have r4:=qH (n:=((0:Nat):Int)) (by unfold I64;omega) r
  rw [h,r4]at r3
  have e2:w=0:=by injection r3 with h _;omega
  subst e2
  have h:=bV h
  exact⟨by decide,by decide,by rw [h];rfl⟩
 | cons x t=>
  have hlo:=ha _ (lo_le (l:=x::t) (x:=x) bJ).2
  have e0:b5 (x::t)++r=num (lo (x::t))++(num (wd (x::t):Int)++(pk (zC (lo (x::t)) (wd (x::t)) (x::t)) (AY (x::t).length (wd (x::t))) ((x::t).length*wd (x::t))++r)):=by unfold b5;simp only [aO]
  rw [e0]at h
  have r1:=qH hi (num (w:Int)++rest)
  rw [h,qH hlo]at r1
  have e1:lo (x::t)=least:=by injection r1
  rw [e1]at h
  have h:=bV h
  have r3:=qH (n:=(w:Int)) (nD (by omega)) rest
  rw [h,qH (n:=((wd (x::t):Nat):Int)) (nD (by omega))]at r3
  have e2:wd (x::t)=w:=by injection r3 with h _;omega
  rw [e2]at h
  have h:=bV h
  exact⟨e1.symm,e2.symm,by rw [h,e1,e2]⟩
theorem acX {b:By}{n:Nat} : Pr b n b5 fun _ _=>(qL (b.drop (nG b 0).2.1) (nG b 0).2.2 64 5).2.2=0:=fun l0 r ha hl h=>by
 have hlw:=PW l0 ha
 have hlo:I64 (lo l0):=by
  cases l0 with
  | nil=>show I64 0;unfold I64;omega
  | cons x t=>exact ha _ (lo_le (l:=x::t) (x:=x) bJ).2
 have r1:=OC (b:=b) (e:=0) (z:=num (wd l0:Int)++(pk (zC (lo l0) (wd l0) l0) (AY l0.length (wd l0)) (l0.length*wd l0)++r)) hlo rfl (by rw [h];unfold b5;simp only [aO])
 rw [r1.2.1,r1.2.2]
 have r2:=OC (e:=0) (nD (by omega:wd l0<=9223372036854775807)) rfl (rfl:num (wd l0:Int)++(pk (zC (lo l0) (wd l0) l0) (AY l0.length (wd l0)) (l0.length*wd l0)++r)=_)
 rw [uF]
 simp only
 rw [r2.1,r2.2.1,if_pos rfl,if_neg (by omega),if_neg (by omega)]
theorem RZ (b:By)(n:Nat)(hb:b.length<=3000000)(hn:n<=512):mX Tryz.prog GC 185 [bs b,iv n] 0 [] (GR b5 b n):=by
 have herr:=acX (b:=b) (n:=n)
 have aeO:=acW (b:=b)
 have hN:=rZ b 0 hb
 have hC:=Cm (b.drop (nG b 0).2.1) (nG b 0).2.2 64 (pX hb) (by decide)
 generalize hc:qL (b.drop (nG b 0).2.1) (nG b 0).2.2 64 5=t at *
 obtain⟨ww,j2,e2⟩:=t
 simp only at herr aeO hC
 generalize (nG b 0).1=least at *
 generalize hb1:b.drop (nG b 0).2.1=b1' at *
 generalize (nG b 0).2.2=e1 at *
 generalize b1'.drop j2=b2' at *
 clear hc hb1
 refine lH func185 rfl mixed (by kernel_rfl) ?_
 refine nI [] (by kernel_rfl) (JB b hb) (by trivial) ?_
 refine sG [0] [] (by kernel_rfl) hN rfl (by trivial) (by trivial) rfl ?_
 refine sG [0] [] (by kernel_rfl) hC rfl (by trivial) (by trivial) rfl ?_
 refine sG [0] [] (by kernel_rfl) (Au b2' e2) rfl (by trivial) (by trivial) rfl ?_
 apply lD<;>intro h
 ·have he:e2≠0:=by simpa using h
  exact lW (.mW [.own 0,bv false]) 1 [(0, .rows 3 1 [])] [(0, .nil)] [] ⟨[],false,⟨nY.nil,aB _,fun l0 r ha hl hb0=>absurd (herr l0 r ha hl hb0) he⟩,rfl,rfl,rfl⟩ rfl (by trivial) (by trivial)
 have he:e2=0:=by simpa using h
 subst he
 obtain⟨w,rest,hw,rfl,hi,hbe⟩:=aeO rfl
 have hQ:=VO (n:=n) hi hw hbe
 have n1:=(mP least).2
 have n2:=(mP (w:Int)).2
 have hbl:=congrArg List.length hbe
 simp only [ak]at hbl
 refine nI [] (by kernel_rfl) (qx [] least hi (by simp)) (by trivial) ?_
 refine nI [1] (by kernel_rfl) (qx (num least) (w:Int) (nD (by omega)) (by omega)) (by trivial) ?_
 refine tJ.mk' (num least++num (w:Int)).length b.length (by rw [ah]) (by rw [ah]) (by rw [ak];omega) (by rw [ah];exact ay _) ?_
 have hdrop:(b.map oh).drop (num least++num (w:Int)).length=rest.map oh:=by
  rw [<-bT,hbe, <-aO,kY]
 have hnw:n*w<=40000:=by
  have:=jC hn hw;omega
 have hs8:AY n w<=5001:=by unfold AY;omega
 rw [show cut (some (AV.v (.int .i64 (((num least++num (w:Int)).map oh).length:Nat)))) none (num least++num (w:Int)).length b.length (b.map oh)=rest.map oh from hdrop]
 refine lU.to (y:=((n*w:Nat):Int)) (by rw [<-iw];exact IntWalk.i64_in _ (by omega)) ?_
 refine lU.i64 (by omega) ?_
 refine lG.mk (by decide) ?_
 refine lU.to (y:=((AY n w:Nat):Int)) (by
  have e:Int.tdiv (((n*w:Nat):Int)+7) 8=((AY n w:Nat):Int):=rfl
  rw [e];exact IntWalk.i64_in _ (by omega)) ?_
 apply lD<;>intro h
 ·have hlt:rest.length<AY n w:=by simp at h;omega
  exact lW (.mW [.own 0,bv false]) 1 [(0, .rows 3 1 [])] [(0, .nil)] [] ⟨[],false,⟨nY.nil,aB _,fun l0 r ha hl hb0=>by have:=(hQ l0 r ha hl hb0).size;rw [hl]at this;omega⟩,rfl,rfl,rfl⟩ rfl (by trivial) (by trivial)
 have hrl:AY n w<=rest.length:=by simp at h;omega
 refine mO Yy 4 [9,39] (fun x:BX=> [(9, .own 3),(39,iv x.i)]) (fun x=> [(3, .rows 3 1 (x.out.map xG))]) (fun x=>x.i<=n∧x.out.length=x.i∧nY x.out∧Pr b n b5 (fun l0 _=>x.out=l0.take x.i)) (fun x=>n-x.i) [(3, .nil)] [] ⟨0,[]⟩ (by kernel_rfl) (fun _=>rfl) rfl ⟨aB _,rfl,nY.nil,fun l0 r _ _ _=>rfl⟩ ⟨rfl,trivial⟩ ⟨trivial,rfl,trivial⟩ ?_
 rintro⟨i,out⟩ ⟨hin,hol,hall,hP⟩
 change i<=n at hin
 change out.length=i at hol
 change nY out at hall
 change Pr b n b5 (fun l0 _=>out=l0.take i)at hP
 apply lD<;>intro h
 rotate_left
 ·have:i=n:=by simp at h;omega
  subst this
  exact lW (.mW [.own 0,bv true]) 1 _ [(0, .lab 3)] [] ⟨out,true,⟨hall,by omega,fun l0 r ha hl hb0=>⟨rfl,by have:=hP l0 r ha hl hb0;rw [this, <-hl,bn]⟩⟩,rfl,rfl,rfl⟩ rfl (by trivial) (by trivial)
 have hlt:i<n:=by simp at h;omega
 refine mO Yz 4 [11,43] (fun x:NX=> [(11,uv x.u),(43,iv x.i)]) (fun _=> [(3, .rows 3 1 (out.map xG))]) (fun x=>x.i<=w∧x.u<2^x.i∧Pr b n b5 (fun l0 _=>x.u=dif least (l0.getD i 0)%2^x.i)) (fun x=>w-x.i) [] [] ⟨0,0⟩ (by kernel_rfl) (fun _=>rfl) rfl ⟨aB _,Nat.one_pos,fun l0 r _ _ _=>by show 0=_%2^0;rw [Nat.pow_zero,Nat.mod_one]⟩ ⟨⟨rfl,rfl,rfl⟩,trivial⟩ ⟨rfl,rfl,trivial⟩ ?_
 rintro⟨k,d⟩ ⟨hk,hd,hD⟩
 change k<=w at hk
 change d<2^k at hd
 change Pr b n b5 (fun l0 _=>d=dif least (l0.getD i 0)%2^k)at hD
 apply lD<;>intro h
 ·have hkw:k<w:=by simp at h;omega
  have hat:=aaR hlt hkw
  have hmul:i*w+k<=640000:=by omega
  have hbit:Pr b n b5 fun l0 _=> ∃c,rest[(i*w+k)/8]? = some c∧c.toNat.testBit ((i*w+k)%8)=(dif least (l0.getD i 0)).testBit k:=fun l0 r ha hl hb0=>(hQ l0 r ha hl hb0).bit (by omega) hkw
  refine lU.to (y:=((i*w:Nat):Int)) (by show IntKind.i64.wrap ((i:Int)*(w:Int))=_;rw [<-iw];exact IntWalk.i64_in _ (by omega)) ?_
  refine lU.to (y:=((i*w+k:Nat):Int)) (by show IntKind.i64.wrap (((i*w:Nat):Int)+(k:Int))=_;rw [<-iH];exact IntWalk.i64_in _ (by omega)) ?_
  conv=>whnf
  generalize i*w+k=p at *
  refine lG.mk (by decide) ?_
  refine lU.to (y:=((p/8:Nat):Int)) (by
   have e:Int.tdiv (p:Int) 8=((p/8:Nat):Int):=rfl
   rw [e];exact IntWalk.i64_in _ (by omega)) ?_
  conv=>whnf
  have hp8:p/8<rest.length:=by omega
  refine ni.mk' (p/8) rfl (sD hp8) ?_
  refine mG.map hp8 ?_
  conv=>whnf
  have aeP:Pr b n b5 fun l0 _=>(rest[p/8]).toNat.testBit (p%8)=(dif least (l0.getD i 0)).testBit k:=fun l0 r ha hl hb0=>by
   obtain⟨c,c1,c2⟩:=hbit l0 r ha hl hb0
   rw [aj hp8]at c1
   injection c1 with c1
   rw [c1];exact c2
  generalize rest[p/8]=c at *
  refine lG.mk (by decide) ?_
  refine lG.mk (by show (0:Int)<=((p%8:Nat):Int);omega) ?_
  refine lU.to (aeM c (s:=p%8) (iJ _ (by decide))) ?_
  conv=>whnf
  have aeQ:k<64:=by omega
  have hsh:=aeN (c:=if c.toNat.testBit (p%8)=true then 1 else 0) (k:=k) (by split<;>omega) aeQ
  refine lG.mk (by show (0:Int)<=(k:Int);omega) ?_
  refine lU.to hsh.1 ?_
  conv=>whnf
  rw [or_bit hd aeQ hsh.2]
  refine lU.i64 (x:=(k:Int)+1) (by omega) ?_
  refine lX ⟨k+1,d+(if c.toNat.testBit (p%8)=true then 1 else 0)*2^k⟩ [] [] rfl (by show w -(k+1)<w-k;omega) ⟨hkw, ?_,fun l0 r ha hl hb0=> ?_⟩ ⟨⟨rfl,rfl,rfl⟩,trivial⟩ ⟨rfl,rfl,trivial⟩
  ·show d+(if c.toNat.testBit (p%8)=true then 1 else 0)*2^k<2^(k+1)
   rw [gY]
   split<;>omega
  ·show d+(if c.toNat.testBit (p%8)=true then 1 else 0)*2^k=dif least (l0.getD i 0)%2^(k+1)
   rw [Zq, <-hD l0 r ha hl hb0,aeP l0 r ha hl hb0]
 ·have:k=w:=by simp at h;omega
  subst this
  refine lU.to rfl ?_
  refine lU.to rfl ?_
  refine lU.to (acV _ _) ?_
  refine lG.mk (lM (by simp only [ln];omega) (by kernel_rfl)) ?_
  refine lU.i64 (x:=(i:Int)+1) (by omega) ?_
  refine lX ⟨i+1,out++ [FK (least+(d:Int))]⟩ [(3, .lab 5)] [] rfl (by show n -(i+1)<n-i;omega) ⟨hlt,by show (out++ [FK (least+(d:Int))]).length=i+1;simp [hol],hall.snoc (PY _),fun l0 r ha hl hb0=> ?_⟩ ⟨⟨rfl,rfl,(MF out _).symm⟩,trivial⟩ ⟨rfl,rfl,trivial⟩
  show out++ [FK (least+(d:Int))]=l0.take (i+1)
  have hil:i<l0.length:=by omega
  rw [aH hil, <-hP l0 r ha hl hb0]
  congr 2
  have:=(hQ l0 r ha hl hb0).val ha (i:=i) (x:=l0[i]) (aj hil)
  rw [<-hD l0 r ha hl hb0]at this
  exact this
section
theorem acY (a b:By):wP ⟨a.toArray⟩ ⟨b.toArray⟩=decide (a=b):=by
 rw [XG]
 by_cases h:a=b
 ·subst h;simp
 ·rw [decide_eq_false h]
  refine decide_eq_false fun e=>h ?_
  injection e with e
  simpa using congrArg Array.toList e
theorem equalA (a b:By):mX Tryz.prog GC 36 [bs a,bs b] 0 [] (Is (bv (decide (a=b)))):=by
 refine lH func36 rfl mixed (by kernel_rfl) ?_
 refine BA.of ?_
 refine BA.of ?_
 exact mJ [] (congrArg Value.bool (acY a b))
theorem xk (b x:By):mX Tryz.prog GC 166 [bs b,bs x] 0 [] (Is (bv (decide (b.take x.length=x)))):=by
 refine lH func166 rfl mixed (by kernel_rfl) ?_
 apply lD<;>intro h
 ·have hl:x.length<=b.length:=by simp at h;omega
  refine tJ.mk' 0 x.length rfl (by rw [ah]) (aB _) (by rw [ah];exact hl) ?_
  conv=>whnf
  have he:=equalA (b.take x.length) x
  refine mQ [] (by kernel_rfl) he rfl ⟨⟨rfl,(fK).symm⟩,⟨rfl,rfl⟩,trivial⟩ ?_
  exact mJ [] (by trivial)
 ·have hl:b.length<x.length:=by simp at h;omega
  refine mJ [] (congrArg Value.bool ?_)
  refine(decide_eq_false fun e=> ?_).symm
  have:=congrArg List.length e
  rw [aK]at this
  omega
theorem Si (l:Li) : ∃(k:Nat) (body:By),1<=k∧k<=5∧ints l=num (k:Int)++(num (l.length:Int)++body)∧(l≠ []->body=bd k l):=by
 by_cases h:l = []
 ·subst h
  exact⟨1,[],by omega,by omega,by decide,fun h=>absurd rfl h⟩
 ·obtain⟨k,h1,h2,h3⟩:=Zp h
  exact⟨k,bd k l,h1,h2,by rw [h3];unfold en;rw [aO],fun _=>rfl⟩
def Gd (b:By)(Q:Li->By->Prop):Prop:= ∀l0 r,nY l0->l0.length<=512->b=ints l0++r->Q l0 r
theorem ZT (b:By):Gd b fun l0 r=>(qL (b.drop (nG b 0).2.1) (nG b 0).2.2 512 5).2.2=0∧∃k:Nat,1<=k∧k<=5∧(nG b 0).1=(k:Int)∧(qL (b.drop (nG b 0).2.1) (nG b 0).2.2 512 5).1=(l0.length:Int)∧(l0≠ []->b=num (k:Int)++(num (l0.length:Int)++(bd k l0++r))):=fun l0 r ha hl h=>by
 obtain⟨k,body,k1,k2,he,hbd⟩:=Si l0
 have hb:b=num (k:Int)++(num (l0.length:Int)++(body++r)):=by rw [h,he];simp only [aO]
 have r1:=OC (b:=b) (e:=0) (z:=num (l0.length:Int)++(body++r)) (nD (by omega:k<=9223372036854775807)) rfl hb
 have r2:=OC (e:=0) (nD (by omega:l0.length<=9223372036854775807)) rfl (rfl:num (l0.length:Int)++(body++r)=_)
 rw [r1.1,r1.2.1,r1.2.2]
 rw [uF]
 simp only
 rw [r2.1,r2.2.1,if_pos rfl,if_neg (by omega),if_neg (by omega),if_pos rfl]
 exact⟨rfl,k,k1,k2,rfl,rfl,fun hne=>by rw [hb,hbd hne]⟩
theorem VP {b:By}(h:(qL (b.drop (nG b 0).2.1) (nG b 0).2.2 512 5).2.2=0) : ∃(n:Nat) (rest:By),n<=512∧(qL (b.drop (nG b 0).2.1) (nG b 0).2.2 512 5).1=(n:Int)∧I64 (nG b 0).1∧b=num (nG b 0).1++(num (n:Int)++rest):=by
 have hr:=uG (b.drop (nG b 0).2.1) (nG b 0).2.2 512 5 (by decide) (by decide)
 have h2:=hr.2.2.2 h
 have o2:=(qW (b.drop (nG b 0).2.1) (nG b 0).2.2).2.2.1 h2.1
 have o1:=qW b 0
 have o3:=o1.2.2.1 o2.1
 refine⟨(qL (b.drop (nG b 0).2.1) (nG b 0).2.2 512 5).1.toNat,(b.drop (nG b 0).2.1).drop (nG (b.drop (nG b 0).2.1) (nG b 0).2.2).2.1,by omega,by omega,o1.1, ?_⟩
 have e:(((qL (b.drop (nG b 0).2.1) (nG b 0).2.2 512 5).1.toNat:Nat):Int)=(nG (b.drop (nG b 0).2.1) (nG b 0).2.2).1:=by omega
 rw [e, <-o2.2.1]
 exact o3.2.1
def GU (b:By)(l:Li)(n:Nat)(e:Int):Prop:=nY l∧l.length<=512∧((e=0∧n=(ints l).length∧b.take (ints l).length=ints l)∨(e=1∧l = []∧n=0))∧Gd b fun l0 _=>e=0∧l=l0
def RIa (b:By)(a:AV)(m:Nat)(H:lF):Prop:= ∃l n e,GU b l n e∧a = .mW [li l,iv (n:Nat),iv e]∧m=0∧H = []
theorem GU.bad {b:By}(h:Gd b fun _ _=>False):GU b [] 0 1:=⟨nY.nil,aB _, .inr ⟨rfl,rfl,rfl⟩,fun l0 r ha hl hb=>(h l0 r ha hl hb).elim⟩
theorem GU.two (b:By){l:Li}{n:Nat}{e:Int}(h1:GU b l n e){l':Li}{n':Nat}{e':Int}(h2:GU b l' n' e'):l=l'∧n=n'∧e=e':=by
 obtain⟨a1,a2,a3,a4⟩:=h1
 obtain⟨b1,b2,b3,b4⟩:=h2
 rcases a3 with ⟨rfl,rfl,p1⟩|⟨rfl,rfl,rfl⟩
 ·have:=b4 l (b.drop (ints l).length) a1 a2 (by rw [<-p1];rw [p1];conv=>lhs;rw [<-eY (ints l).length b,p1])
  obtain⟨rfl,rfl⟩:=this
  rcases b3 with ⟨_,rfl,_⟩|⟨h,_⟩
  ·exact⟨rfl,rfl,rfl⟩
  ·omega
 ·rcases b3 with ⟨rfl,rfl,p1⟩|⟨rfl,rfl,rfl⟩
  ·have:=a4 l' (b.drop (ints l').length) b1 b2 (by conv=>lhs;rw [<-eY (ints l').length b,p1])
   omega
  ·exact⟨rfl,rfl,rfl⟩
theorem acZ (b:By)(n:Nat)(hb:b.length<=3000000)(hn:n<=512):(mX Tryz.prog GC 177 [bs b,iv n] 0 [] (GR (bd 1) b n))∧(mX Tryz.prog GC 179 [bs b,iv n] 0 [] (GR (bd 2) b n))∧(mX Tryz.prog GC 181 [bs b,iv n] 0 [] (GR (bd 3) b n))∧(mX Tryz.prog GC 183 [bs b,iv n] 0 [] (GR (bd 4) b n))∧(mX Tryz.prog GC 185 [bs b,iv n] 0 [] (GR (bd 5) b n)):=
 ⟨FZ b n hb hn,RY b n hb hn,OL b n hb hn,OM b n hb hn,RZ b n hb hn⟩
attribute [local irreducible] best ints en bd
theorem sV (b:By)(hb:b.length<=100000):mX Tryz.prog GC 138 [bs b] 0 [] (RIa b):=by
 have hhead:=ZT b
 have hrd:=VP (b:=b)
 have hN:=rZ b 0 (by omega)
 have hC:=Cm (b.drop (nG b 0).2.1) (nG b 0).2.2 512 (pX (by omega)) (by decide)
 generalize hc:qL (b.drop (nG b 0).2.1) (nG b 0).2.2 512 5=t at *
 obtain⟨nn,j2,e2⟩:=t
 simp only at hhead hrd hC
 generalize (nG b 0).1=kk at *
 generalize hb1:b.drop (nG b 0).2.1=b1' at *
 generalize (nG b 0).2.2=e1 at *
 generalize b1'.drop j2=b2' at *
 clear hc hb1
 refine lH func138 rfl mixed (by kernel_rfl) ?_
 refine nI [] (by kernel_rfl) (JB b (by omega)) (by trivial) ?_
 refine sG [0] [] (by kernel_rfl) hN rfl (by trivial) (by trivial) rfl ?_
 refine sG [0] [] (by kernel_rfl) hC rfl (by trivial) (by trivial) rfl ?_
 refine sG [0] [] (by kernel_rfl) (Au b2' e2) rfl (by trivial) (by trivial) rfl ?_
 apply lD<;>intro h
 ·have he:e2≠0:=by simpa using h
  exact lW (.mW [li [],iv (0:Nat),iv 1]) 0 [] [] [] ⟨[],0,1,(GU.bad fun l0 r ha hl h=>he (hhead l0 r ha hl h).1),rfl,rfl,rfl⟩ rfl trivial (by trivial)
 have he:e2=0:=by simpa using h
 subst he
 apply lD<;>intro h
 ·have hk:kk<1:=by simpa using h
  exact lW (.mW [li [],iv (0:Nat),iv 1]) 0 [] [] [] ⟨[],0,1,(GU.bad fun l0 r ha hl h=>by obtain⟨_,k,k1,k2,k3,_⟩:=hhead l0 r ha hl h;omega),rfl,rfl,rfl⟩ rfl trivial (by trivial)
 have hk1:1<=kk:=by simp at h;omega
 apply lD<;>intro h
 ·have hk:5<kk:=by simpa using h
  exact lW (.mW [li [],iv (0:Nat),iv 1]) 0 [] [] [] ⟨[],0,1,(GU.bad fun l0 r ha hl h=>by obtain⟨_,k,k1,k2,k3,_⟩:=hhead l0 r ha hl h;omega),rfl,rfl,rfl⟩ rfl trivial (by trivial)
 have hk2:kk<=5:=by simp at h;omega
 obtain⟨n,rest,hn,rfl,hi,hbe⟩:=hrd rfl
 have n1:=(mP kk).2
 have n2:=(mP (n:Int)).2
 have hbl:=congrArg List.length hbe
 simp only [ak]at hbl
 apply lD<;>intro h
 ·have hn0:0<n:=by simp at h;omega
  have hdrop:(b.map oh).drop (num kk++num (n:Int)).length=rest.map oh:=by
   rw [<-bT,hbe, <-aO,kY]
  have hcs:kk=1∨kk=2∨kk=3∨kk=4∨kk=5:=by omega
  have hreads:=acZ rest n (by omega) hn
  rcases hcs with rfl|rfl|rfl|rfl|rfl
  ·conv=>whnf
   have hread:=hreads.1
   (refine nZ Fg [1,2] (by kernel_rfl) ?_;conv=>whnf)
   refine lU.i64 (by decide) ?_
   refine nI [] (by kernel_rfl) (yF) (by trivial) ?_
   refine ni.mk' (1-1) rfl (by decide) ?_
   refine nI [] (by kernel_rfl) (qx [] 1 hi (by simp)) (by trivial) ?_
   refine nI [1] (by kernel_rfl) (qx (num 1) (n:Int) (nD (by omega)) (by omega)) (by trivial) ?_
   refine tJ.mk' (num 1++num (n:Int)).length b.length (by rw [ah]) (by rw [ah]) (by rw [ak];omega) (by rw [ah];exact ay _) ?_
   rw [show cut (some (AV.v (.int .i64 (((num 1++num (n:Int)).map oh).length:Nat)))) none (num 1++num (n:Int)).length b.length (b.map oh)=rest.map oh from hdrop]
   (refine oJ [] (by kernel_rfl) (hread) ?_ ?_;(focus trivial))
   rintro _ _ _ ⟨l,ok,hd,rfl,rfl,rfl⟩
   have hll:=hd.2.1
   have hgood:Gd b fun l0 _=>ok=true∧l=l0:=fun l0 r ha hl h=>by
    obtain⟨_,k,k1,k2,k3,k4,k5⟩:=hhead l0 r ha hl h
    have e1:k=1:=by omega
    have e2:l0.length=n:=by omega
    have hne:l0≠ []:=fun e=>by subst e;simp at e2;omega
    have h5:=k5 hne
    rw [e1,e2]at h5
    rw [hbe]at h5
    have h5:=bV (bV h5)
    exact hd.2.2 l0 r ha e2 h5
   conv=>whnf
   cases ok
   ·exact lW (.mW [li [],iv (0:Nat),iv 1]) 0 [] [] [] ⟨[],0,1,GU.bad fun l0 r ha hl h=>absurd (hgood l0 r ha hl h).1 (by decide),rfl,rfl,rfl⟩ rfl trivial (by trivial)
   conv=>whnf
   have hI:=uY l hd.1 (by omega)
   have hpre:=xk b (ints l)
   refine nI [3] (by kernel_rfl) (hI) (by trivial) ?_
   (refine mQ [] (by kernel_rfl) (hpre) rfl ?_ ?_;(focus trivial))
   apply lD<;>intro h
   ·have hp : ¬b.take (ints l).length=ints l:=by simpa using h
    exact lW (.mW [li [],iv (0:Nat),iv 1]) 0 [] [] [] ⟨[],0,1,GU.bad fun l0 r ha hl h=>hp (by rw [(hgood l0 r ha hl h).2,h,iP]),rfl,rfl,rfl⟩ rfl trivial (by trivial)
   ·have hp:b.take (ints l).length=ints l:=by simpa using h
    exact lW (.mW [li l,iv ((ints l).length:Nat),iv 0]) 0 [] [] [] ⟨l,(ints l).length,0,⟨hd.1,by omega, .inl ⟨rfl,rfl,hp⟩,fun l0 r ha hl h=>⟨rfl,(hgood l0 r ha hl h).2⟩⟩,rfl,rfl,rfl⟩ rfl trivial ⟨⟨rfl,rfl⟩,congrArg (fun n:Nat=>Value.int .i64 (n:Int)) (ah _),rfl,trivial⟩
  ·conv=>whnf
   have hread:=hreads.2.1
   (refine nZ Fg [1,2] (by kernel_rfl) ?_;conv=>whnf)
   refine lU.i64 (by decide) ?_
   refine nI [] (by kernel_rfl) (yF) (by trivial) ?_
   refine ni.mk' (2-1) rfl (by decide) ?_
   refine nI [] (by kernel_rfl) (qx [] 2 hi (by simp)) (by trivial) ?_
   refine nI [1] (by kernel_rfl) (qx (num 2) (n:Int) (nD (by omega)) (by omega)) (by trivial) ?_
   refine tJ.mk' (num 2++num (n:Int)).length b.length (by rw [ah]) (by rw [ah]) (by rw [ak];omega) (by rw [ah];exact ay _) ?_
   rw [show cut (some (AV.v (.int .i64 (((num 2++num (n:Int)).map oh).length:Nat)))) none (num 2++num (n:Int)).length b.length (b.map oh)=rest.map oh from hdrop]
   (refine oJ [] (by kernel_rfl) (hread) ?_ ?_;(focus trivial))
   rintro _ _ _ ⟨l,ok,hd,rfl,rfl,rfl⟩
   have hll:=hd.2.1
   have hgood:Gd b fun l0 _=>ok=true∧l=l0:=fun l0 r ha hl h=>by
    obtain⟨_,k,k1,k2,k3,k4,k5⟩:=hhead l0 r ha hl h
    have e1:k=2:=by omega
    have e2:l0.length=n:=by omega
    have hne:l0≠ []:=fun e=>by subst e;simp at e2;omega
    have h5:=k5 hne
    rw [e1,e2]at h5
    rw [hbe]at h5
    have h5:=bV (bV h5)
    exact hd.2.2 l0 r ha e2 h5
   conv=>whnf
   cases ok
   ·exact lW (.mW [li [],iv (0:Nat),iv 1]) 0 [] [] [] ⟨[],0,1,GU.bad fun l0 r ha hl h=>absurd (hgood l0 r ha hl h).1 (by decide),rfl,rfl,rfl⟩ rfl trivial (by trivial)
   conv=>whnf
   have hI:=uY l hd.1 (by omega)
   have hpre:=xk b (ints l)
   refine nI [3] (by kernel_rfl) (hI) (by trivial) ?_
   (refine mQ [] (by kernel_rfl) (hpre) rfl ?_ ?_;(focus trivial))
   apply lD<;>intro h
   ·have hp : ¬b.take (ints l).length=ints l:=by simpa using h
    exact lW (.mW [li [],iv (0:Nat),iv 1]) 0 [] [] [] ⟨[],0,1,GU.bad fun l0 r ha hl h=>hp (by rw [(hgood l0 r ha hl h).2,h,iP]),rfl,rfl,rfl⟩ rfl trivial (by trivial)
   ·have hp:b.take (ints l).length=ints l:=by simpa using h
    exact lW (.mW [li l,iv ((ints l).length:Nat),iv 0]) 0 [] [] [] ⟨l,(ints l).length,0,⟨hd.1,by omega, .inl ⟨rfl,rfl,hp⟩,fun l0 r ha hl h=>⟨rfl,(hgood l0 r ha hl h).2⟩⟩,rfl,rfl,rfl⟩ rfl trivial ⟨⟨rfl,rfl⟩,congrArg (fun n:Nat=>Value.int .i64 (n:Int)) (ah _),rfl,trivial⟩
  ·conv=>whnf
   have hread:=hreads.2.2.1
   (refine nZ Fg [1,2] (by kernel_rfl) ?_;conv=>whnf)
   refine lU.i64 (by decide) ?_
   refine nI [] (by kernel_rfl) (yF) (by trivial) ?_
   refine ni.mk' (3-1) rfl (by decide) ?_
   refine nI [] (by kernel_rfl) (qx [] 3 hi (by simp)) (by trivial) ?_
   refine nI [1] (by kernel_rfl) (qx (num 3) (n:Int) (nD (by omega)) (by omega)) (by trivial) ?_
   refine tJ.mk' (num 3++num (n:Int)).length b.length (by rw [ah]) (by rw [ah]) (by rw [ak];omega) (by rw [ah];exact ay _) ?_
   rw [show cut (some (AV.v (.int .i64 (((num 3++num (n:Int)).map oh).length:Nat)))) none (num 3++num (n:Int)).length b.length (b.map oh)=rest.map oh from hdrop]
   (refine oJ [] (by kernel_rfl) (hread) ?_ ?_;(focus trivial))
   rintro _ _ _ ⟨l,ok,hd,rfl,rfl,rfl⟩
   have hll:=hd.2.1
   have hgood:Gd b fun l0 _=>ok=true∧l=l0:=fun l0 r ha hl h=>by
    obtain⟨_,k,k1,k2,k3,k4,k5⟩:=hhead l0 r ha hl h
    have e1:k=3:=by omega
    have e2:l0.length=n:=by omega
    have hne:l0≠ []:=fun e=>by subst e;simp at e2;omega
    have h5:=k5 hne
    rw [e1,e2]at h5
    rw [hbe]at h5
    have h5:=bV (bV h5)
    exact hd.2.2 l0 r ha e2 h5
   conv=>whnf
   cases ok
   ·exact lW (.mW [li [],iv (0:Nat),iv 1]) 0 [] [] [] ⟨[],0,1,GU.bad fun l0 r ha hl h=>absurd (hgood l0 r ha hl h).1 (by decide),rfl,rfl,rfl⟩ rfl trivial (by trivial)
   conv=>whnf
   have hI:=uY l hd.1 (by omega)
   have hpre:=xk b (ints l)
   refine nI [3] (by kernel_rfl) (hI) (by trivial) ?_
   (refine mQ [] (by kernel_rfl) (hpre) rfl ?_ ?_;(focus trivial))
   apply lD<;>intro h
   ·have hp : ¬b.take (ints l).length=ints l:=by simpa using h
    exact lW (.mW [li [],iv (0:Nat),iv 1]) 0 [] [] [] ⟨[],0,1,GU.bad fun l0 r ha hl h=>hp (by rw [(hgood l0 r ha hl h).2,h,iP]),rfl,rfl,rfl⟩ rfl trivial (by trivial)
   ·have hp:b.take (ints l).length=ints l:=by simpa using h
    exact lW (.mW [li l,iv ((ints l).length:Nat),iv 0]) 0 [] [] [] ⟨l,(ints l).length,0,⟨hd.1,by omega, .inl ⟨rfl,rfl,hp⟩,fun l0 r ha hl h=>⟨rfl,(hgood l0 r ha hl h).2⟩⟩,rfl,rfl,rfl⟩ rfl trivial ⟨⟨rfl,rfl⟩,congrArg (fun n:Nat=>Value.int .i64 (n:Int)) (ah _),rfl,trivial⟩
  ·conv=>whnf
   have hread:=hreads.2.2.2.1
   (refine nZ Fg [1,2] (by kernel_rfl) ?_;conv=>whnf)
   refine lU.i64 (by decide) ?_
   refine nI [] (by kernel_rfl) (yF) (by trivial) ?_
   refine ni.mk' (4-1) rfl (by decide) ?_
   refine nI [] (by kernel_rfl) (qx [] 4 hi (by simp)) (by trivial) ?_
   refine nI [1] (by kernel_rfl) (qx (num 4) (n:Int) (nD (by omega)) (by omega)) (by trivial) ?_
   refine tJ.mk' (num 4++num (n:Int)).length b.length (by rw [ah]) (by rw [ah]) (by rw [ak];omega) (by rw [ah];exact ay _) ?_
   rw [show cut (some (AV.v (.int .i64 (((num 4++num (n:Int)).map oh).length:Nat)))) none (num 4++num (n:Int)).length b.length (b.map oh)=rest.map oh from hdrop]
   (refine oJ [] (by kernel_rfl) (hread) ?_ ?_;(focus trivial))
   rintro _ _ _ ⟨l,ok,hd,rfl,rfl,rfl⟩
   have hll:=hd.2.1
   have hgood:Gd b fun l0 _=>ok=true∧l=l0:=fun l0 r ha hl h=>by
    obtain⟨_,k,k1,k2,k3,k4,k5⟩:=hhead l0 r ha hl h
    have e1:k=4:=by omega
    have e2:l0.length=n:=by omega
    have hne:l0≠ []:=fun e=>by subst e;simp at e2;omega
    have h5:=k5 hne
    rw [e1,e2]at h5
    rw [hbe]at h5
    have h5:=bV (bV h5)
    exact hd.2.2 l0 r ha e2 h5
   conv=>whnf
   cases ok
   ·exact lW (.mW [li [],iv (0:Nat),iv 1]) 0 [] [] [] ⟨[],0,1,GU.bad fun l0 r ha hl h=>absurd (hgood l0 r ha hl h).1 (by decide),rfl,rfl,rfl⟩ rfl trivial (by trivial)
   conv=>whnf
   have hI:=uY l hd.1 (by omega)
   have hpre:=xk b (ints l)
   refine nI [3] (by kernel_rfl) (hI) (by trivial) ?_
   (refine mQ [] (by kernel_rfl) (hpre) rfl ?_ ?_;(focus trivial))
   apply lD<;>intro h
   ·have hp : ¬b.take (ints l).length=ints l:=by simpa using h
    exact lW (.mW [li [],iv (0:Nat),iv 1]) 0 [] [] [] ⟨[],0,1,GU.bad fun l0 r ha hl h=>hp (by rw [(hgood l0 r ha hl h).2,h,iP]),rfl,rfl,rfl⟩ rfl trivial (by trivial)
   ·have hp:b.take (ints l).length=ints l:=by simpa using h
    exact lW (.mW [li l,iv ((ints l).length:Nat),iv 0]) 0 [] [] [] ⟨l,(ints l).length,0,⟨hd.1,by omega, .inl ⟨rfl,rfl,hp⟩,fun l0 r ha hl h=>⟨rfl,(hgood l0 r ha hl h).2⟩⟩,rfl,rfl,rfl⟩ rfl trivial ⟨⟨rfl,rfl⟩,congrArg (fun n:Nat=>Value.int .i64 (n:Int)) (ah _),rfl,trivial⟩
  ·conv=>whnf
   have hread:=hreads.2.2.2.2
   (refine nZ Fg [1,2] (by kernel_rfl) ?_;conv=>whnf)
   refine lU.i64 (by decide) ?_
   refine nI [] (by kernel_rfl) (yF) (by trivial) ?_
   refine ni.mk' (5-1) rfl (by decide) ?_
   refine nI [] (by kernel_rfl) (qx [] 5 hi (by simp)) (by trivial) ?_
   refine nI [1] (by kernel_rfl) (qx (num 5) (n:Int) (nD (by omega)) (by omega)) (by trivial) ?_
   refine tJ.mk' (num 5++num (n:Int)).length b.length (by rw [ah]) (by rw [ah]) (by rw [ak];omega) (by rw [ah];exact ay _) ?_
   rw [show cut (some (AV.v (.int .i64 (((num 5++num (n:Int)).map oh).length:Nat)))) none (num 5++num (n:Int)).length b.length (b.map oh)=rest.map oh from hdrop]
   (refine oJ [] (by kernel_rfl) (hread) ?_ ?_;(focus trivial))
   rintro _ _ _ ⟨l,ok,hd,rfl,rfl,rfl⟩
   have hll:=hd.2.1
   have hgood:Gd b fun l0 _=>ok=true∧l=l0:=fun l0 r ha hl h=>by
    obtain⟨_,k,k1,k2,k3,k4,k5⟩:=hhead l0 r ha hl h
    have e1:k=5:=by omega
    have e2:l0.length=n:=by omega
    have hne:l0≠ []:=fun e=>by subst e;simp at e2;omega
    have h5:=k5 hne
    rw [e1,e2]at h5
    rw [hbe]at h5
    have h5:=bV (bV h5)
    exact hd.2.2 l0 r ha e2 h5
   conv=>whnf
   cases ok
   ·exact lW (.mW [li [],iv (0:Nat),iv 1]) 0 [] [] [] ⟨[],0,1,GU.bad fun l0 r ha hl h=>absurd (hgood l0 r ha hl h).1 (by decide),rfl,rfl,rfl⟩ rfl trivial (by trivial)
   conv=>whnf
   have hI:=uY l hd.1 (by omega)
   have hpre:=xk b (ints l)
   refine nI [3] (by kernel_rfl) (hI) (by trivial) ?_
   (refine mQ [] (by kernel_rfl) (hpre) rfl ?_ ?_;(focus trivial))
   apply lD<;>intro h
   ·have hp : ¬b.take (ints l).length=ints l:=by simpa using h
    exact lW (.mW [li [],iv (0:Nat),iv 1]) 0 [] [] [] ⟨[],0,1,GU.bad fun l0 r ha hl h=>hp (by rw [(hgood l0 r ha hl h).2,h,iP]),rfl,rfl,rfl⟩ rfl trivial (by trivial)
   ·have hp:b.take (ints l).length=ints l:=by simpa using h
    exact lW (.mW [li l,iv ((ints l).length:Nat),iv 0]) 0 [] [] [] ⟨l,(ints l).length,0,⟨hd.1,by omega, .inl ⟨rfl,rfl,hp⟩,fun l0 r ha hl h=>⟨rfl,(hgood l0 r ha hl h).2⟩⟩,rfl,rfl,rfl⟩ rfl trivial ⟨⟨rfl,rfl⟩,congrArg (fun n:Nat=>Value.int .i64 (n:Int)) (ah _),rfl,trivial⟩
 ·have hn0:n=0:=by simp at h;omega
  subst hn0
  conv=>whnf
  have hI:=uY [] nY.nil (by decide)
  refine nI [] (by kernel_rfl) (hI) (by trivial) ?_
  conv=>whnf
  have hpre:=xk b (ints [])
  (refine mQ [] (by kernel_rfl) (hpre) rfl ?_ ?_;(focus trivial))
  apply lD<;>intro h
  ·have hp : ¬b.take (ints []).length=ints []:=by simpa using h
   exact lW (.mW [li [],iv (0:Nat),iv 1]) 0 [] [] [] ⟨[],0,1,(GU.bad fun l0 r ha hl h=>by
    obtain⟨_,k,k1,k2,k3,k4,_⟩:=hhead l0 r ha hl h
    have e0:l0 = []:=aF (by omega)
    subst e0
    exact hp (by rw [h,iP])),rfl,rfl,rfl⟩ rfl trivial (by trivial)
  ·have hp:b.take (ints []).length=ints []:=by simpa using h
   refine lW (.mW [li [],iv ((ints []).length:Nat),iv 0]) 0 [] [] [] ⟨[],(ints []).length,0,⟨nY.nil,aB _, .inl ⟨rfl,rfl,hp⟩,fun l0 r ha hl h=> ?_⟩,rfl,rfl,rfl⟩ rfl trivial ?_
   ·obtain⟨_,k,k1,k2,k3,k4,_⟩:=hhead l0 r ha hl h
    exact⟨rfl,(aF (by omega)).symm⟩
   ·exact⟨rfl,congrArg (fun n:Nat=>Value.int .i64 (n:Int)) (ah _),rfl,trivial⟩
end
theorem Eb (a:By) : ¬a<a:=List.lt_irrefl a
theorem VQ {a b c:By}(h1:a<b)(h2:b<c):a<c:=List.lt_trans h1 h2
theorem ZU {a b:By}(h1 : ¬a<b)(h2:a≠b):b<a:=by
 by_cases h:b<a
 ·exact h
 ·exact absurd (List.le_antisymm (List.not_lt.1 h) (List.not_lt.1 h1)) h2
theorem MH {a b:By}(h1:a<b)(h2:b<a):False:=Eb a (VQ h1 h2)
def yN (d:Tx)(x:By):Tx:=
 match d with
 | []=> [x]
 | y::r=>if y<x then y::yN r x else if y=x then y::r else x::y::r
def dsT (l:Tx):Tx:=l.foldl yN []
def xZ:Tx->By->Nat
 | [],_=>0
 | y::r,x=>if y=x then 0 else xZ r x+1
def Sj (d:Tx):Prop:=d.Pairwise (· < ·)
theorem MI (d:Tx)(x y:By):y∈yN d x↔y∈d∨y=x:=by
 induction d with
 | nil=>simp [yN]
 | cons z r ih=>
  unfold yN
  split
  ·simp only [bF,ih,or_assoc]
  ·split
   ·rename_i e;subst e;simp only [bF];constructor
    ·intro h;exact .inl h
    ·rintro(h|rfl)
     ·exact h
     ·exact .inl rfl
   ·simp only [bF];constructor
    ·rintro(h|h|h)
     ·exact .inr h
     ·exact .inl (.inl h)
     ·exact .inl (.inr h)
    ·rintro((h|h)|h)
     ·exact .inr (.inl h)
     ·exact .inr (.inr h)
     ·exact .inl h
theorem ZV {d:Tx}{x:By}(h:Sj d):Sj (yN d x):=by
 induction d with
 | nil=>simp [yN,Sj]
 | cons z r ih=>
  have h1:=dO.1 h
  unfold yN
  split
  ·rename_i hz
   refine dO.2 ⟨fun a ha=> ?_,ih h1.2⟩
   rcases(MI r x a).1 ha with h2|h2
   ·exact h1.1 a h2
   ·rw [h2];exact hz
  ·split
   ·exact h
   ·rename_i n1 n2
    have hx:=ZU n1 n2
    refine dO.2 ⟨fun a ha=> ?_,h⟩
    rcases bF.1 ha with h2|h2
    ·rw [h2];exact hx
    ·exact VQ hx (h1.1 a h2)
theorem MJ (l:Tx) : ∀d,Sj d->Sj (l.foldl yN d)∧∀y,y∈l.foldl yN d↔y∈d∨y∈l:=by
 induction l with
 | nil=>intro d h;simp [h]
 | cons x r ih=>
  intro d h
  have:=ih (yN d x) (ZV h)
  refine⟨this.1,fun y=> ?_⟩
  rw [fF,this.2 y,MI,bF,or_assoc]
theorem VR (l:Tx):Sj (dsT l):=(MJ l [] List.Pairwise.nil).1
theorem xq (l:Tx)(y:By):y∈dsT l↔y∈l:=by rw [dsT,(MJ l [] List.Pairwise.nil).2 y];simp
theorem VT {a:Tx} : ∀ {b:Tx},Sj a->Sj b->(∀y,y∈a↔y∈b)->a=b:=by
 induction a with
 | nil=>intro b _ _ h;cases b with
  | nil=>rfl
  | cons y r=>exact absurd ((h y).2 bJ) (by simp)
 | cons x r ih=>
  intro b ha hb h
  have h1:=dO.1 ha
  cases b with
  | nil=>exact absurd ((h x).1 bJ) (by simp)
  | cons y s=>
   have h2:=dO.1 hb
   have e:x=y:=by
    have m1:=(h x).1 bJ
    have m2:=(h y).2 bJ
    rcases bF.1 m1 with e|e
    ·exact e
    ·rcases bF.1 m2 with e2|e2
     ·exact e2.symm
     ·exact(MH (h1.1 y e2) (h2.1 x e)).elim
   subst e
   congr 1
   refine ih h1.2 h2.2 fun z=>⟨fun hz=> ?_,fun hz=> ?_⟩
   ·rcases bF.1 ((h z).1 (dh _ hz))with e|e
    ·have:=h1.1 z hz;rw [e]at this;exact(Eb _ this).elim
    ·exact e
   ·rcases bF.1 ((h z).2 (dh _ hz))with e|e
    ·have:=h2.1 z hz;rw [e]at this;exact(Eb _ this).elim
    ·exact e
theorem ac0 {l d:Tx}(h1:Sj d)(h2 : ∀y,y∈d↔y∈l):d=dsT l:=VT h1 (VR l) fun y=>by rw [h2,xq]
theorem VU (d:Tx)(x:By):(yN d x).length<=d.length+1:=by
 induction d with
 | nil=>simp [yN]
 | cons y r ih=>
  unfold yN
  split
  ·simp only [bg];omega
  ·split<;>simp
theorem yH (l:Tx):(dsT l).length<=l.length:=by
 have : ∀(l d:Tx),(l.foldl yN d).length<=d.length+l.length:=by
  intro l
  induction l with
  | nil=>intro d;simp
  | cons x r ih=>intro d;have h1:=ih (yN d x);have h2:=VU d x;simp only [fF,bg];omega
 have:=this l []
 simpa [dsT]using this
theorem Aw {d:Tx}{x:By}(h:x∈d):xZ d x<d.length∧d[xZ d x]? = some x:=by
 induction d with
 | nil=>cases h
 | cons y r ih=>
  unfold xZ
  by_cases e:y=x
  ·rw [if_pos e];simp [e]
  ·rw [if_neg e]
   have:=ih (by rcases bF.1 h with h|h;exact absurd h.symm e;exact h)
   simp only [bg,dI]
   exact⟨by omega,this.2⟩
theorem VW {d:Tx}(hd:Sj d){i j:Nat}{x y:By}(h:i<j)(h1:d[i]? = some x)(h2:d[j]? = some y):x<y:=by
 obtain⟨hi,e1⟩:=aG.1 h1
 obtain⟨hj,e2⟩:=aG.1 h2
 rw [<-e1, <-e2]
 exact fO.1 hd i j hi hj h
def JE (l:Tx):Tx:=l.mergeSort fun x y=>decide (x<=y)
theorem wM (l:Tx):(JE l).length=l.length:=kV l
theorem VX (l:Tx)(y:By):y∈JE l↔y∈l:=List.mem_mergeSort
theorem ML (l:Tx):(JE l).Pairwise (· <= ·):=by
 have:=kJ (le:=fun x y:By=>decide (x<=y)) (fun a b c h1 h2=>by simp only [decide_eq_true_eq]at *;exact List.le_trans h1 h2) (fun a b=>by simp only [jk,decide_eq_true_eq];exact List.le_total a b) l
 exact this.imp fun h=>by simpa using h
theorem Sl (z:Tx)(hs:z.Pairwise (· <= ·)) : ∀m,m<=z.length->Sj (Go.Lib.compactUpTo z.toArray m)∧∀y,y∈Go.Lib.compactUpTo z.toArray m↔y∈z.take m:=by
 intro m
 induction m with
 | zero=>intro _;simp [Go.Lib.compactUpTo,Sj]
 | succ m ih=>
  intro hm
  have hlt:m<z.length:=by omega
  obtain⟨h1,h2⟩:=ih (by omega)
  have em:z.toArray[m]! = z[m]:=by simp [hlt]
  have le : ∀j (hj:j<m),z[j]'(by omega)<=z[m]:=fun j hj=>fO.1 hs j m (by omega) hlt hj
  rw [Go.Lib.compactUpTo_succ,aH hlt,em]
  by_cases hk:Go.Lib.keeps z.toArray m=true
  ·rw [if_pos hk]
   refine⟨List.pairwise_append.2 ⟨h1,kK _ _,fun a ha b hb=> ?_⟩,fun y=>by simp only [cu,h2,bG]⟩
   rw [bG.1 hb]
   obtain⟨j,hj,e⟩:=iM ((h2 a).1 ha)
   rw [aK]at hj
   rw [iZ]at e
   have hjm:j<m:=by omega
   have hne:z[m-1]'(by omega)≠z[m]:=by
    unfold Go.Lib.keeps at hk
    rw [decide_eq_true_eq]at hk
    rcases hk with h|h
    ·omega
    ·rw [em]at h
     have e1:z.toArray[m-1]! = z[m-1]'(by omega):=by simp [show m-1<z.length by omega]
     rw [e1]at h
     exact fun e=>h e.symm
   have l1:z[m-1]'(by omega)<=z[m]:=le (m-1) (by omega)
   have l2:z[j]'(by omega)<=z[m-1]'(by omega):=by
    rcases dJ j (m-1)with h|h
    ·exact fO.1 hs j (m-1) (by omega) (by omega) h
    ·have:j=m-1:=by omega
     subst this;exact List.le_refl _
   have l3:z[m-1]'(by omega)<z[m]:=by
    by_cases h:z[m-1]'(by omega)<z[m]
    ·exact h
    ·exact absurd (List.le_antisymm l1 (List.not_lt.1 h)) hne
   rw [<-e]
   exact List.lt_of_le_of_lt l2 l3
  ·rw [if_neg hk,bZ]
   refine⟨h1,fun y=> ?_⟩
   rw [h2,cu,bG]
   constructor
   ·exact .inl
   ·rintro(h|h)
    ·exact h
    ·unfold Go.Lib.keeps at hk
     rw [decide_eq_true_eq]at hk
     have h0:0<m:=by
      rcases bP m with e|e
      ·exact absurd (.inl e) hk
      ·exact e
     have e1:z.toArray[m-1]! = z[m-1]'(by omega):=by simp [show m-1<z.length by omega]
     have e2:z[m]=z[m-1]'(by omega):=by
      rw [em,e1]at hk
      exact dX fun h=>hk (.inr h)
     rw [h,e2]
     exact List.mem_iff_getElem.2 ⟨m-1,by rw [aK];omega,by rw [iZ]⟩
theorem Df (l:Tx):Go.Lib.compact (JE l)=dsT l:=by
 have h:=Sl (JE l) (ML l) (JE l).length (ay _)
 rw [bn]at h
 exact ac0 h.1 fun y=>by
  have:=h.2 y
  rw [VX]at this
  exact this
abbrev tv (s:By):AV:= .v (.string ⟨s.toArray⟩)
def JF (s:By):List FV:= [.v (.string ⟨s.toArray⟩)]
abbrev tl (l:Tx):AV:= .lst 1 (l.map JF)
theorem wO (l:Tx)(s:By):(l++ [s]).map JF=l.map JF++ [[FV.v (.string ⟨s.toArray⟩)]]:=by rw [aJ];rfl
theorem ac1 (a b:By):J4 ⟨a.toArray⟩ ⟨b.toArray⟩=decide (a<b):=by
 unfold J4
 rw [bytesLess_eq,Lib.toList_data,Lib.toList_data]
section
variable {G:Glob}
theorem aeR (a:By):(encStr a).oneCell'=true:=rfl
theorem ac2 (l:Tx)(hne:l≠ [])(hs:l.length<=1000000):mX Tryz.prog G 154 [.own 0] 1 [(0, .rows 9 1 (l.map JF))] (fun a n H=>a = .mW []∧n=1∧H = [(0, .rows 9 1 ((JE l).map JF))]):=
 yB (enc:=encStr) (V:=fun _ _ v=>v = .tuple #[]) aeR hne (wM l)
  (fun w blk cap hH hb _=>Calls.mono (Tryz.slices_Sort_string blk 0 cap l w hH hb (by omega)) fun e w' ⟨h1,h2⟩=>⟨_,h1,rfl,h2⟩)
  (fun w σ F blk cap v _ _ hv=>by subst hv;exact ng.mW («as» := []) (vs:= []) trivial)
theorem Sm (l:Tx)(hne:l≠ [])(hs:l.length<=1000000):mX Tryz.prog G 155 [.own 0] 1 [(0, .rows 9 1 ((JE l).map JF))] (fun a n H=>a = .sub 0 0 (dsT l).length∧n=1∧H = [(0, .rows 9 1 ((dsT l++List.replicate (l.length -(dsT l).length) []).map JF))]):=
 yB (enc:=encStr) (zs':=dsT l++List.replicate (l.length -(dsT l).length) []) (V:=fun blk cap v=>v = .slice (some ⟨blk,0,none⟩) (dsT l).length cap) aeR (by intro h;have:=wM l;rw [h]at this;exact hne (aF this.symm))
  (by have:=yH l;rw [wM,ak,dL];omega)
  (fun w blk cap hH hb hc=>Calls.mono (Tryz.slices_Compact_string blk 0 cap (JE l) w hH (by rw [wM];omega) hc) fun e w' ⟨h1,q,h2⟩=>⟨_,h1,by rw [Df],q, #[],by rw [h2,Df,Sort.grow_empty,wM]⟩)
  (fun w σ F blk cap v hσ hc hv=>by
   subst hv
   have hd:=yH l
   rw [wM]at hσ hc
   refine .sub 0 0 _ _ cap (by decide) (by rw [hσ];show 0+_<=l.length;omega) (by omega) (fun h=>by cases h) fun _=>⟨blk,by rw [hσ],by rw [dY]⟩)
theorem VY (l:Tx)(x:Tx):(((dsT l++x).map JF).drop 0).take (dsT l).length=(dsT l).map JF:=by
 rw [gK,aJ]
 exact eG (ah _)
end
def qG (s:By):By:=num (s.length:Int)++s
def Gt (d l:Tx):Li:=l.map fun s=>((xZ d s:Nat):Int)
def su (l:Tx):By:=num ((dsT l).length:Int)++(dsT l).flatMap qG++ints (Gt (dsT l) l)
def J3 (l:Tx):Prop:= ∀s∈l,s.length<=200
theorem Qb (d l:Tx)(hl : ∀x∈l,x∈d)(hd:d.length<=1000000):nY (Gt d l):=fun x hx=>by
 obtain⟨s,hs,e⟩:=dR.1 hx
 have:=(Aw (hl s hs)).1
 rw [<-e];exact nD (by omega)
theorem yI (d l:Tx):(Gt d l).length=l.length:=ah _
theorem F5 (s:By)(h:s.length<=200):(qG s).length<=210∧0<(qG s).length:=by
 have:=mP (s.length:Int)
 unfold qG
 rw [ak];omega
theorem J3.ds {l:Tx}(h:J3 l):J3 (dsT l):=fun s hs=>h s ((xq l s).1 hs)
theorem J3.take {l:Tx}(h:J3 l)(k:Nat):J3 (l.take k):=fun s hs=>h s (fA hs)
theorem Az (d:Tx)(h:J3 d):(d.flatMap qG).length<=210*d.length:=FM qG 210 d fun s hs=>(F5 s (h s hs)).1
theorem vN (l:Tx)(h:J3 l)(hl:l.length<=512):(su l).length<=5134+210*l.length:=by
 have h1:=Az (dsT l) h.ds
 have h2:=yH l
 have h3:=(mP ((dsT l).length:Int)).2
 have h4:=nM (Gt (dsT l) l) (by rw [yI];exact hl)
 unfold su
 simp only [ak]
 omega
def GV (b:By)(e:Int):By×Nat×Int:=
 let c:=qL b e 200 4
 if c.2.2=0 then(if((b.drop c.2.1).length:Int)<c.1 then([],c.2.1,16)else((b.drop c.2.1).take c.1.toNat,c.2.1+c.1.toNat,0))else([],c.2.1,c.2.2)
theorem JG (b:By)(e:Int):GV b e=if(qL b e 200 4).2.2=0 then(if((b.drop (qL b e 200 4).2.1).length:Int)<(qL b e 200 4).1 then([],(qL b e 200 4).2.1,16)else((b.drop (qL b e 200 4).2.1).take (qL b e 200 4).1.toNat,(qL b e 200 4).2.1+(qL b e 200 4).1.toNat,0))else([],(qL b e 200 4).2.1,(qL b e 200 4).2.2):=rfl
theorem ac3 (b:By)(e:Int):(GV b e).1.length<=200∧(GV b e).2.1<=b.length∧((GV b e).2.2=0->e=0∧b=qG (GV b e).1++b.drop (GV b e).2.1∧(GV b e).2.1=(qG (GV b e).1).length)∧((GV b e).2.2≠0->(GV b e).1 = []):=by
 have hr:=uG b e 200 4 (by decide) (by decide)
 have o:=qW b e
 rw [JG]
 generalize qL b e 200 4=c at *
 obtain⟨x,k,e'⟩:=c
 simp only at hr ⊢
 obtain⟨h1,h2,h3,h4⟩:=hr
 by_cases he:e'=0
 ·rw [if_pos he]
  have h5:=h4 he
  have o3:=o.2.2.1 h5.1
  rw [<-h5.2, <-h3]at o3
  have hk:k<=b.length:=by rw [h3];exact o.2.1
  by_cases hs:((b.drop k).length:Int)<x
  ·rw [if_pos hs]
   exact⟨by simp,hk,fun h=>by simp at h,fun _=>rfl⟩
  ·rw [if_neg hs]
   have hl:(b.drop k).length=b.length-k:=aX
   have hx:((x.toNat:Nat):Int)=x:=by omega
   have ht:((b.drop k).take x.toNat).length=x.toNat:=by rw [aK];omega
   have hp:qG ((b.drop k).take x.toNat)=num x++(b.drop k).take x.toNat:=by unfold qG;rw [ht,hx]
   refine⟨by simp only [ht];omega,by simp only;omega,fun _=>⟨o3.1, ?_, ?_⟩,fun h=>absurd rfl h⟩
   ·simp only
    rw [hp, <-jT,aO,eY]
    exact o3.2.1
   ·simp only
    rw [hp,ak,ht, <-o3.2.2]
 ·rw [if_neg he]
  exact⟨by simp,by simp only;rw [h3];exact o.2.1,fun h=>absurd h he,fun _=>rfl⟩
theorem JH {b:By}{e most em:Int}{n:Nat}(h1:(nG b e).1=(n:Int))(h2:(nG b e).2.2=0)(hm:(n:Int)<=most):qL b e most em=((n:Int),(nG b e).2.1,0):=by
 rw [uF,h1,h2]
 have a1 : ¬((n:Int)<0):=by omega
 have a2 : ¬(most<(n:Int)):=by omega
 simp only [a1,a2,if_true,if_false]
theorem ZW {s b r:By}(hs:s.length<=200)(h:b=qG s++r):GV b 0=(s,(qG s).length,0):=by
 have hb:b=num (s.length:Int)++(s++r):=by rw [h];unfold qG;rw [aO]
 have r1:=OC (b:=b) (e:=0) (nD (by omega:s.length<=9223372036854775807)) rfl hb
 have o3:=(qW b 0).2.2.1 r1.2.1
 rw [r1.1]at o3
 have hc:qL b 0 200 4=((s.length:Int),(nG b 0).2.1,0):=JH r1.1 r1.2.1 (by omega)
 rw [JG,hc]
 simp only [if_true]
 rw [r1.2.2,if_neg (by rw [ak];omega),dK,eG rfl,o3.2.2]
 unfold qG
 rw [ak]
def QT (l0:Tx)(r:By)(ks:Tx)(b':By):Prop:= ∃rest,dsT l0=ks++rest∧b'=rest.flatMap qG++(ints (Gt (dsT l0) l0)++r)
theorem QT.step {l0:Tx}{r:By}{ks:Tx}{b':By}(ht:J3 l0)(hlt:ks.length<(dsT l0).length)(h:QT l0 r ks b'):(GV b' 0).2.2=0∧QT l0 r (ks++ [(GV b' 0).1]) (b'.drop (GV b' 0).2.1):=by
 obtain⟨rest,h1,h2⟩:=h
 cases rest with
 | nil=>rw [h1]at hlt;simp at hlt
 | cons y rest=>
  have hy:y.length<=200:=ht.ds y (by rw [h1];simp)
  have:=ZW (b:=b') (r:=rest.flatMap qG++(ints (Gt (dsT l0) l0)++r)) hy (by rw [h2];simp)
  rw [this]
  refine⟨rfl,rest,by rw [h1];simp, ?_⟩
  rw [h2]
  simp only [gI,aO]
  rw [eu rfl]
theorem QT.fin {l0:Tx}{r:By}{ks:Tx}{b':By}(hlen:ks.length=(dsT l0).length)(h:QT l0 r ks b'):ks=dsT l0∧b'=ints (Gt (dsT l0) l0)++r:=by
 obtain⟨rest,h1,h2⟩:=h
 have hr:rest = []:=by
  rw [h1,ak]at hlen
  exact aF (by omega)
 subst hr
 exact⟨by rw [h1];simp,by rw [h2];simp⟩
def GT (b:By)(Q:Tx->By->Prop):Prop:= ∀l0 r,l0.length<=512->J3 l0->b=su l0++r->Q l0 r
theorem ZX (b:By):GT b fun l0 r=>(qL b 0 512 5).2.2=0∧(qL b 0 512 5).1=((dsT l0).length:Int)∧QT l0 r [] (b.drop (qL b 0 512 5).2.1):=fun l0 r hl ht h=>by
 have hd:=yH l0
 have hb:b=num ((dsT l0).length:Int)++((dsT l0).flatMap qG++(ints (Gt (dsT l0) l0)++r)):=by rw [h];unfold su;simp only [aO]
 have r1:=OC (b:=b) (e:=0) (nD (by omega:(dsT l0).length<=9223372036854775807)) rfl hb
 have hc:qL b 0 512 5=(((dsT l0).length:Int),(nG b 0).2.1,0):=JH r1.1 r1.2.1 (by omega)
 rw [hc]
 exact⟨rfl,rfl,dsT l0,rfl,r1.2.2⟩
def Qc (ks:Tx)(il:Li):Tx:=il.map fun i=>ks.getD i.toNat []
theorem Qd (ks:Tx)(il:Li):(Qc ks il).length=il.length:=ah _
theorem ac4 {d l:Tx}(h : ∀x∈l,x∈d):Qc d (Gt d l)=l:=by
 induction l with
 | nil=>rfl
 | cons x r ih=>
  have h1:=(Aw (h x (by simp))).2
  have h2:=ih fun y hy=>h y (by simp [hy])
  unfold Qc Gt at *
  simp only [gy,dK,aW,h1,iD]
  simp only [aW]at h2
  rw [h2]
theorem ac5 {ks:Tx}(h:J3 ks)(il:Li):J3 (Qc ks il):=fun s hs=>by
 obtain⟨i,_,e⟩:=dR.1 hs
 rw [<-e,aW]
 cases hk:ks[i.toNat]? with
 | none=>simp
 | some x=>simpa using h x (aT hk)
theorem VZ {ks:Tx}{il:Li}{k i:Nat}{x:By}(hk:k<il.length)(hi:il[k]=(i:Int))(hx:ks[i]? = some x):Qc ks (il.take (k+1))=Qc ks (il.take k)++ [x]:=by
 unfold Qc
 rw [aH hk,aJ,hi]
 simp only [gy,jQ,dK,aW,hx,iD]
def Sr (b:By)(l:Tx)(n:Nat)(e:Int):Prop:=J3 l∧l.length<=512∧((e=0∧n=(su l).length∧b.take (su l).length=su l)∨(e=1∧l = []∧n=0))∧GT b fun l0 _=>e=0∧l=l0
theorem Sr.bad {b:By}(h:GT b fun _ _=>False):Sr b [] 0 1:=⟨fun _ h=>(by cases h),aB _, .inr ⟨rfl,rfl,rfl⟩,fun l0 r ha hl hb=>(h l0 r ha hl hb).elim⟩
theorem Sr.two (b:By){l:Tx}{n:Nat}{e:Int}(h1:Sr b l n e){l':Tx}{n':Nat}{e':Int}(h2:Sr b l' n' e'):l=l'∧n=n'∧e=e':=by
 obtain⟨a1,a2,a3,a4⟩:=h1
 obtain⟨b1,b2,b3,b4⟩:=h2
 rcases a3 with ⟨rfl,rfl,p1⟩|⟨rfl,rfl,rfl⟩
 ·have:=b4 l (b.drop (su l).length) a2 a1 (by conv=>lhs;rw [<-eY (su l).length b,p1])
  obtain⟨rfl,rfl⟩:=this
  rcases b3 with ⟨_,rfl,_⟩|⟨h,_⟩
  ·exact⟨rfl,rfl,rfl⟩
  ·omega
 ·rcases b3 with ⟨rfl,rfl,p1⟩|⟨rfl,rfl,rfl⟩
  ·have:=a4 l' (b.drop (su l').length) b2 b1 (by conv=>lhs;rw [<-eY (su l').length b,p1])
   omega
  ·exact⟨rfl,rfl,rfl⟩
theorem aeS {l:Nat}(h:l<=4194304):l<=140737488355328∧l<=maxLen:=⟨by omega,by unfold maxLen;omega⟩
theorem aaU (b s:By)(hb:b.length<=2000000)(hs:s.length<=200):mX Tryz.prog GC 156 [bs b,tv s] 0 [] (wJ 5 1 ((b++qG s).map oh)):=by
 have hl:=(mP (s.length:Int)).2
 refine lH func156 rfl mixed (by kernel_rfl) ?_
 refine nI [] (by kernel_rfl) (P6 (s.length:Int) (nD (by omega))) (by trivial) ?_
 refine lG.mk (aeS (by rw [ah];show _+s.length<=_;omega)) ?_
 conv=>whnf
 have h:=acP b (qG s) (by have:=F5 s hs;omega)
 refine nI [1] (by kernel_rfl) h ⟨⟨rfl,rfl⟩,⟨rfl,rfl,by unfold qG;rw [aJ]⟩,trivial⟩ ?_
 exact lW (.own 0) 1 _ [(0, .lab 2)] [] ⟨rfl,rfl,rfl⟩ rfl (by trivial) (by trivial)
theorem ZY (l:Tx)(hl:l≠ [])(hs:l.length<=100000):mX Tryz.prog GC 153 [tl l] 0 [] (wJ 9 1 (l.map JF)):=by
 have h0:0<l.length:=dV.2 hl
 refine lH func153 rfl mixed (by kernel_rfl) ?_
 refine⟨fun b hb=> ?_⟩
 rw [hb (sD h0)]
 conv=>whnf
 (repeat' ((first|refine And.intro ?_ ?_|(apply lD<;>intro h<;>try simp only [bl]at h)|refine lU.i64 (by first|omega|(simp only [ln]at *;omega)) ?_|refine ni.mk' _ rfl (by first|omega|(simp only [ln]at *;omega)) ?_|refine mG.lS (by assumption) ?_|refine mG.set (by first|omega|(simp only [ln]at *;omega)) ?_|refine mG.map (by first|omega|(simp only [ln]at *;omega)) ?_|refine lG.mk (by first|decide|omega) ?_|refine tY.mk (by kernel_rfl) rfl rfl ?_|refine lG.mk (lM (by first|omega|(simp only [ln]at *;omega)) (by kernel_rfl)) ?_)<;>conv=>whnf))
 exact lW (.own 0) 1 _ [(0, .lab 1)] [] ⟨rfl,rfl,rfl⟩ rfl (by trivial) (by trivial)
theorem V3 (s:ByteArray):(!wP s s)=false:=by rw [XG];simp
theorem aeT (s:By):mX Tryz.prog GC 200 [tv s] 0 [] (Is (bv false)):=by
 refine lH func200 rfl mixed (by kernel_rfl) ?_
 exact mJ [] (congrArg Value.bool (V3 _))
theorem ac6 (x y:By):mX Tryz.prog GC 174 [tv x,tv y] 0 [] (Is (bv (decide (x<y)))):=by
 have e:=ac1 x y
 refine lH func174 rfl mixed (by kernel_rfl) ?_
 (refine mQ [] (by kernel_rfl) (aeT x) rfl ?_ ?_;(focus trivial))
 conv=>whnf
 rw [<-e]
 (repeat' ((first|refine And.intro ?_ ?_|(apply lD<;>intro h<;>try simp only [bl]at h)|refine lU.i64 (by first|omega|(simp only [ln]at *;omega)) ?_|refine ni.mk' _ rfl (by first|omega|(simp only [ln]at *;omega)) ?_|refine mG.lS (by assumption) ?_|refine mG.set (by first|omega|(simp only [ln]at *;omega)) ?_|refine mG.map (by first|omega|(simp only [ln]at *;omega)) ?_|refine lG.mk (by first|decide|omega) ?_|refine tY.mk (by kernel_rfl) rfl rfl ?_|refine lG.mk (lM (by first|omega|(simp only [ln]at *;omega)) (by kernel_rfl)) ?_)<;>conv=>whnf))
 all_goals first
  | exact mJ [] (by trivial)
  | exact mJ [] (congrArg Value.bool (by assumption))
theorem V4 (d:Tx)(x:By)(hd:Sj d)(hx:x∈d)(hs:d.length<=1000000):mX Tryz.prog GC 157 [tl d,tv x] 0 [] (Is (.mW [iv (xZ d x),bv true])):=by
 have hi:=Aw hx
 refine lH func157 rfl mixed (by kernel_rfl) ?_
 refine mO Yj 0 [7,8] (fun x:Nat×Nat=> [(7,iv x.1),(8,iv x.2)]) (fun _=> []) (fun y=>y.1<=xZ d x∧xZ d x<=y.2∧y.2<=d.length) (fun y=>y.2-y.1) [] [] (0,d.length) (by kernel_rfl) (fun _=>rfl) rfl ⟨aB _,jy hi.1,ay _⟩ trivial ⟨rfl,congrArg (fun n:Nat=>Value.int .i64 (n:Int)) (ah _),trivial⟩ ?_
 rintro⟨i,j⟩ ⟨h1,h2,h3⟩
 change i<=xZ d x at h1
 change xZ d x<=j at h2
 change j<=d.length at h3
 apply lD<;>intro h
 ·have hlt:i<j:=by simp at h;omega
  conv=>whnf
  (repeat' ((first|refine And.intro ?_ ?_|(apply lD<;>intro h<;>try simp only [bl]at h)|refine lU.i64 (by first|omega|(simp only [ln]at *;omega)) ?_|refine ni.mk' _ rfl (by first|omega|(simp only [ln]at *;omega)) ?_|refine mG.lS (by assumption) ?_|refine mG.set (by first|omega|(simp only [ln]at *;omega)) ?_|refine mG.map (by first|omega|(simp only [ln]at *;omega)) ?_|refine lG.mk (by first|decide|omega) ?_|refine tY.mk (by kernel_rfl) rfl rfl ?_|refine lG.mk (lM (by first|omega|(simp only [ln]at *;omega)) (by kernel_rfl)) ?_)<;>conv=>whnf))
  refine lU.to (y:=((i+j:Nat):Int)) (by rw [<-iH];exact rY (by omega)) ?_
  refine lG.mk (by decide) ?_
  rw [vK]
  refine lU.i64 (by omega) ?_
  conv=>whnf
  have hm:(i+j)/2<d.length:=by omega
  (repeat' ((first|refine And.intro ?_ ?_|(apply lD<;>intro h<;>try simp only [bl]at h)|refine lU.i64 (by first|omega|(simp only [ln]at *;omega)) ?_|refine ni.mk' _ rfl (by first|omega|(simp only [ln]at *;omega)) ?_|refine mG.lS (by assumption) ?_|refine mG.set (by first|omega|(simp only [ln]at *;omega)) ?_|refine mG.map (by first|omega|(simp only [ln]at *;omega)) ?_|refine lG.mk (by first|decide|omega) ?_|refine tY.mk (by kernel_rfl) rfl rfl ?_|refine lG.mk (lM (by first|omega|(simp only [ln]at *;omega)) (by kernel_rfl)) ?_)<;>conv=>whnf))
  (refine mQ [] (by kernel_rfl) (ac6 d[(i+j)/2] x) rfl ?_ ?_;(focus trivial))
  conv=>whnf
  have hat:=aj hm
  apply lD<;>intro h
  ·refine lU.i64 (by omega) ?_
   conv=>whnf
   have hlt2:d[(i+j)/2]<x:=of_decide_eq_true h
   have hc:(i+j)/2<xZ d x:=by
    rcases iY ((i+j)/2) (xZ d x)with h4|h4|h4
    ·exact h4
    ·have:=hi.2;rw [<-h4,hat]at this;injection this with this;rw [this]at hlt2;exact(Eb _ hlt2).elim
    ·exact(MH hlt2 (VW hd h4 hi.2 hat)).elim
   exact lX ((i+j)/2+1,j) [] [] rfl (by show j -((i+j)/2+1)<j-i;omega) ⟨hc,h2,h3⟩ trivial ⟨rfl,rfl,trivial⟩
  ·conv=>whnf
   have hlt2 : ¬d[(i+j)/2]<x:=of_decide_eq_false h
   have hc:xZ d x<=(i+j)/2:=by
    rcases dJ ((i+j)/2) (xZ d x)with h4|h4
    ·exact absurd (VW hd h4 hat hi.2) hlt2
    ·exact h4
   exact lX (i,(i+j)/2) [] [] rfl (by show (i+j)/2-i<j-i;omega) ⟨h1,hc,by show (i+j)/2<=_;omega⟩ trivial ⟨rfl,rfl,trivial⟩
 ·have hij:i=xZ d x:=by simp at h;omega
  have hil:i<d.length:=by omega
  have hat:d[i]? = some x:=by rw [hij];exact hi.2
  rw [<-hij]
  conv=>whnf
  (repeat' ((first|refine And.intro ?_ ?_|(apply lD<;>intro h<;>try simp only [bl]at h)|refine lU.i64 (by first|omega|(simp only [ln]at *;omega)) ?_|refine ni.mk' _ rfl (by first|omega|(simp only [ln]at *;omega)) ?_|refine mG.lS (by assumption) ?_|refine mG.set (by first|omega|(simp only [ln]at *;omega)) ?_|refine mG.map (by first|omega|(simp only [ln]at *;omega)) ?_|refine lG.mk (by first|decide|omega) ?_|refine tY.mk (by kernel_rfl) rfl rfl ?_|refine lG.mk (lM (by first|omega|(simp only [ln]at *;omega)) (by kernel_rfl)) ?_)<;>conv=>whnf))
  all_goals first
   | (exfalso;omega)
   | (exfalso;simp only [ah]at h;omega)
   | (exfalso;simp at h;done)
   | exact mJ [] (by trivial)
section
attribute [local irreducible] best ints en bd
theorem Sv {d:Tx}{i:Nat}(h:i<d.length):(d.take (i+1)).flatMap qG=(d.take i).flatMap qG++qG d[i]:=by
 rw [aH h,iL,gI,kH,bZ]
theorem ac7 (l x:Tx){k:Nat}(h:k<(dsT l).length):(dsT l++x)[0+k]? = some (dsT l)[k]:=by rw [aS,dF h,aj h]
theorem V5 {d l:Tx}{k:Nat}(h:k<l.length):Gt d (l.take (k+1))=Gt d (l.take k)++ [((xZ d l[k]:Nat):Int)]:=by
 unfold Gt
 rw [aH h,aJ];rfl
theorem Z4 (l:Tx)(hne:l≠ [])(hs:l.length<=512)(ht:J3 l):mX Tryz.prog GC 121 [tl l] 0 [] (Is (bs (su l))):=by
 have hdl:=yH l
 have hkl:=fun k=>Az ((dsT l).take k) (ht.ds.take k)
 have n1:=(mP ((dsT l).length:Int)).2
 refine lH func121 rfl mixed (by kernel_rfl) ?_
 refine nI [] (by kernel_rfl) (ZY l hne (by omega)) (by trivial) ?_
 refine sG [0] [] (by kernel_rfl) (ac2 l hne (by omega)) rfl (by trivial) (by trivial) rfl ?_
 refine sG [0] [] (by kernel_rfl) (Sm l hne (by omega)) rfl (by trivial) (by trivial) rfl ?_
 refine nI [0] (by kernel_rfl) (qx [] ((dsT l).length:Int) (nD (by omega)) (by simp)) (by trivial) ?_
 refine mO Jh 3 [4,23] (fun k:Nat=> [(4, .own 2),(23,iv k)]) (fun k=> [(0, .fz 1 ((dsT l++List.replicate (l.length -(dsT l).length) []).map JF)),(2, .rows 5 1 ((num ((dsT l).length:Int)++((dsT l).take k).flatMap qG).map oh))]) (fun k=>k<=(dsT l).length) (fun k=>(dsT l).length-k) [(2, .lab 1)] [] 0 (by kernel_rfl) (fun _=>rfl) rfl (aB _) ⟨⟨rfl,rfl⟩,⟨rfl,rfl,by simp⟩,trivial⟩ ⟨rfl,rfl,trivial⟩ ?_
 rintro k hk
 have hkk:=hkl k
 rw [aK]at hkk
 apply lD<;>intro h
 ·have hlt:k<(dsT l).length:=by simp at h;omega
  have hmem:(dsT l)[k]∈dsT l:=bD hlt
  refine ni.mk' k rfl hlt ?_
  refine mG.lS (ac7 l _ hlt) ?_
  refine nI [2] (by kernel_rfl) (aaU (num ((dsT l).length:Int)++((dsT l).take k).flatMap qG) (dsT l)[k] (by rw [ak];omega) (ht.ds _ hmem)) ⟨⟨rfl,rfl,rfl⟩,rfl,trivial⟩ ?_
  refine lU.i64 (by omega) ?_
  refine lX (k+1) [(2, .lab 3)] [] rfl (by show (dsT l).length -(k+1)<(dsT l).length-k;omega) hlt ⟨⟨rfl,rfl⟩,⟨rfl,rfl, ?_⟩,trivial⟩ ⟨rfl,rfl,trivial⟩
  rw [Sv hlt, <-aO]
 ·have:k=(dsT l).length:=by simp at h;omega
  subst this
  rw [bn]
  refine mO Ji 4 [7,33] (fun k:Nat=> [(7, .own 3),(33,iv k)]) (fun k=> [(0, .fz 1 ((dsT l++List.replicate (l.length -(dsT l).length) []).map JF)),(2, .rows 5 1 ((num ((dsT l).length:Int)++(dsT l).flatMap qG).map oh)),(3, .rows 3 1 ((Gt (dsT l) (l.take k)).map xG))]) (fun k=>k<=l.length) (fun k=>l.length-k) [(3, .nil)] [] 0 (by kernel_rfl) (fun _=>rfl) rfl (aB _) ⟨⟨rfl,rfl⟩,⟨rfl,rfl,rfl⟩,rfl,trivial⟩ ⟨trivial,rfl,trivial⟩ ?_
  rintro k hk
  apply lD<;>intro h
  ·have hlt:k<l.length:=by simp at h;omega
   have hmem:l[k]∈dsT l:=(xq l _).2 (bD hlt)
   have hil:=(Aw hmem).1
   conv=>whnf
   (repeat' ((first|refine And.intro ?_ ?_|(apply lD<;>intro h<;>try simp only [bl]at h)|refine lU.i64 (by first|omega|(simp only [ln]at *;omega)) ?_|refine ni.mk' _ rfl (by first|omega|(simp only [ln]at *;omega)) ?_|refine mG.lS (by assumption) ?_|refine mG.set (by first|omega|(simp only [ln]at *;omega)) ?_|refine mG.map (by first|omega|(simp only [ln]at *;omega)) ?_|refine lG.mk (by first|decide|omega) ?_|refine tY.mk (by kernel_rfl) rfl rfl ?_|refine lG.mk (lM (by first|omega|(simp only [ln]at *;omega)) (by kernel_rfl)) ?_)<;>conv=>whnf))
   refine mQ [] (by kernel_rfl) (V4 (dsT l) l[k] (VR l) hmem (by omega)) rfl ⟨⟨rfl,VY l _⟩,rfl,trivial⟩ ?_
   refine lG.mk (lM (by rw [ah,yI,aK];show _+1<=_;omega) (by kernel_rfl)) ?_
   refine lU.i64 (by omega) ?_
   refine lX (k+1) [(3, .lab 5)] [] rfl (by show l.length -(k+1)<l.length-k;omega) hlt ⟨⟨rfl,rfl⟩,⟨rfl,rfl,rfl⟩,⟨rfl,rfl, ?_⟩,trivial⟩ ⟨rfl,rfl,trivial⟩
   rw [V5 hlt,aJ]
   rfl
  ·have:k=l.length:=by simp at h;omega
   subst this
   rw [bn]
   conv=>whnf
   have ahx:=Az (dsT l) ht.ds
   have hib:=nM (Gt (dsT l) l) (by rw [yI];exact hs)
   refine nI [3] (by kernel_rfl) (uY (Gt (dsT l) l) (Qb _ _ (fun x hx=>(xq l x).2 hx) (by omega)) (by rw [yI];exact hs)) (by trivial) ?_
   refine lG.mk (lM (by simp only [ln];omega) (by kernel_rfl)) ?_
   refine mJ [4] ⟨rfl,rfl, ?_⟩
   unfold su
   simp only [aJ]
theorem V6:mX Tryz.prog GC 153 [tl []] 0 [] (fun a n H=>(a = .v (.slice none 0 0)∧n=0∧H = [])∨(a = .own 0∧n=1∧H = [(0, .rows 9 1 [])])):=by
 refine lH func153 rfl mixed (by kernel_rfl) ?_
 refine⟨fun b _=> ?_⟩
 cases b
 ·conv=>whnf
  (repeat' ((first|refine And.intro ?_ ?_|(apply lD<;>intro h<;>try simp only [bl]at h)|refine lU.i64 (by first|omega|(simp only [ln]at *;omega)) ?_|refine ni.mk' _ rfl (by first|omega|(simp only [ln]at *;omega)) ?_|refine mG.lS (by assumption) ?_|refine mG.set (by first|omega|(simp only [ln]at *;omega)) ?_|refine mG.map (by first|omega|(simp only [ln]at *;omega)) ?_|refine lG.mk (by first|decide|omega) ?_|refine tY.mk (by kernel_rfl) rfl rfl ?_|refine lG.mk (lM (by first|omega|(simp only [ln]at *;omega)) (by kernel_rfl)) ?_)<;>conv=>whnf))
  exact lW (.own 0) 1 _ [(0, .lab 1)] [] (.inr ⟨rfl,rfl,rfl⟩) rfl (by trivial) (by trivial)
 ·exact lW (.v (.slice none 0 0)) 0 [] [] [] (.inl ⟨rfl,rfl,rfl⟩) rfl (by trivial) (by trivial)
theorem aeU:mX Tryz.prog GC 173 [uv 0] 0 [] (Is (iv 0)):=by
 have h:mX Tryz.prog GC 199 [uv 0] 0 [] (Is (iv 0)):=Vz 0 (by decide)
 refine lH func173 rfl mixed (by kernel_rfl) ?_
 (refine mQ [] (by kernel_rfl) (h) rfl ?_ ?_;(focus trivial))
 exact mJ [] (by trivial)
theorem aeV:mX Tryz.prog GC 190 [tl [],iv 0,iv 0] 0 [] (Is (.mW [])):=by
 refine lH func190 rfl mixed (by kernel_rfl) ?_
 refine lU.i64 (by decide) ?_
 refine mO YA 0 [6] (fun i:Nat=> [(6,iv i)]) (fun _=> []) (fun i=>i=1) (fun _=>0) [] [] 1 (by kernel_rfl) (fun _=>rfl) rfl rfl trivial ⟨rfl,trivial⟩ ?_
 rintro i rfl
 exact mJ [] (by trivial)
theorem aeW:mX Tryz.prog GC 172 [tl [],iv 0,iv 0,iv 0] 0 [] (Is (.mW [])):=by
 refine lH func172 rfl mixed (by kernel_rfl) ?_
 refine mO Yl 0 [1,2,3,8,9] (fun _:Nat=> [(1,iv 0),(2,iv 0),(3,iv 0),(8,bv true),(9,bv true)]) (fun _=> []) (fun _=>True) (fun _=>0) [] [] 0 (by kernel_rfl) (fun _=>rfl) rfl trivial trivial (by trivial) ?_
 rintro i _
 refine lU.i64 (by decide) ?_
 (refine mQ [] (by kernel_rfl) (aeV) rfl ?_ ?_;(focus trivial))
 exact mJ [] (by trivial)
theorem Qe:mX Tryz.prog GC 154 [tl []] 0 [] (Is (.mW [])):=by
 refine lH func154 rfl mixed (by kernel_rfl) ?_
 refine lU.to (y:=0) rfl ?_
 (refine mQ [] (by kernel_rfl) (aeU) rfl ?_ ?_;(focus trivial))
 (refine mQ [] (by kernel_rfl) (aeW) rfl ?_ ?_;(focus trivial))
 exact mJ [] (by trivial)
theorem F6:mX Tryz.prog GC 155 [tl []] 0 [] (Is (tl [])):=by
 refine lH func155 rfl mixed (by kernel_rfl) ?_
 exact mJ [] (by trivial)
theorem Qg:su []=num 0++ints []:=by
 unfold su
 simp [dsT,Gt]
theorem Z5:mX Tryz.prog GC 121 [tl []] 0 [] (Is (bs (su []))):=by
 refine lH func121 rfl mixed (by kernel_rfl) ?_
 (refine oJ [] (by kernel_rfl) (V6) ?_ ?_;(focus trivial))
 rintro _ _ _ (⟨rfl,rfl,rfl⟩|⟨rfl,rfl,rfl⟩)
 ·skip
  refine nI [] (by kernel_rfl) (Qe) (by trivial) ?_
  refine nI [] (by kernel_rfl) (F6) (by trivial) ?_
  refine nI [] (by kernel_rfl) (qx [] 0 (by unfold I64;omega) (by simp)) (by trivial) ?_
  refine mO Jh (0+2) [4,23] (fun k:Nat=> [(4, .own (0+1)),(23,iv k)]) (fun _=> [(0+1, .rows 5 1 ((num 0).map oh))]) (fun k=>k=0) (fun _=>0) [(0+1, .lab 0)] [] 0 (by kernel_rfl) (fun _=>rfl) rfl rfl ⟨⟨rfl,rfl,rfl⟩,trivial⟩ ⟨rfl,rfl,trivial⟩ ?_
  rintro k rfl
  refine mO Ji (0+2) [7,33] (fun k:Nat=> [(7, .v (.slice none 0 0)),(33,iv k)]) (fun _=> [(0+1, .rows 5 1 ((num 0).map oh))]) (fun k=>k=0) (fun _=>0) [] [] 0 (by kernel_rfl) (fun _=>rfl) rfl rfl ⟨⟨rfl,rfl,rfl⟩,trivial⟩ ⟨rfl,rfl,trivial⟩ ?_
  rintro k rfl
  refine nI [] (by kernel_rfl) (uY [] nY.nil (by simp)) (by trivial) ?_
  conv=>whnf
  have hib:=nM [] (by simp)
  have hn:=(mP 0).2
  refine lG.mk (lM (by simp only [ah];omega) (by kernel_rfl)) ?_
  refine mJ [0+2] ⟨rfl,rfl, ?_⟩
  rw [Qg,aJ]
 ·skip
  refine nI [0] (by kernel_rfl) (Qe) (by trivial) ?_
  refine nI [] (by kernel_rfl) (F6) (by trivial) ?_
  refine nI [] (by kernel_rfl) (qx [] 0 (by unfold I64;omega) (by simp)) (by trivial) ?_
  refine mO Jh (1+2) [4,23] (fun k:Nat=> [(4, .own (1+1)),(23,iv k)]) (fun _=> [(1+1, .rows 5 1 ((num 0).map oh))]) (fun k=>k=0) (fun _=>0) [(1+1, .lab 1)] [] 0 (by kernel_rfl) (fun _=>rfl) rfl rfl ⟨⟨rfl,rfl,rfl⟩,trivial⟩ ⟨rfl,rfl,trivial⟩ ?_
  rintro k rfl
  refine mO Ji (1+2) [7,33] (fun k:Nat=> [(7, .v (.slice none 0 0)),(33,iv k)]) (fun _=> [(1+1, .rows 5 1 ((num 0).map oh))]) (fun k=>k=0) (fun _=>0) [] [] 0 (by kernel_rfl) (fun _=>rfl) rfl rfl ⟨⟨rfl,rfl,rfl⟩,trivial⟩ ⟨rfl,rfl,trivial⟩ ?_
  rintro k rfl
  refine nI [] (by kernel_rfl) (uY [] nY.nil (by simp)) (by trivial) ?_
  conv=>whnf
  have hib:=nM [] (by simp)
  have hn:=(mP 0).2
  refine lG.mk (lM (by simp only [ah];omega) (by kernel_rfl)) ?_
  refine mJ [1+2] ⟨rfl,rfl, ?_⟩
  rw [Qg,aJ]
theorem F7 (l:Tx)(hs:l.length<=512)(ht:J3 l):mX Tryz.prog GC 121 [tl l] 0 [] (Is (bs (su l))):=by
 by_cases h:l = []
 ·subst h;exact Z5
 ·exact Z4 l h hs ht
end
theorem takeA (b:By)(n:Nat)(hn:n<=200):mX Tryz.prog GC 72 [.ptr 0 0,iv n] 1 [(0,tq b 0)] (fun a m H=>a=bs (if n<=b.length then b.take n else [])∧m=1∧H = [(0,tq (if n<=b.length then b.drop n else b) (if n<=b.length then 0 else 16))]):=by
 refine lH func72 rfl mixed (by kernel_rfl) ?_
 apply lD<;>intro h
 ·have hl : ¬n<=b.length:=by simp at h;omega
  simp only [hl,if_false]
  exact lW (bs []) 1 [(0,tq b 16)] [] [] ⟨rfl,rfl,rfl⟩ rfl (by trivial) (by trivial)
 have hl:n<=b.length:=by simp at h;omega
 simp only [hl,if_true]
 refine lG.mk ⟨iQ _,by rw [ah];omega⟩ ?_
 refine tJ.mk' 0 n rfl rfl (aB _) (by rw [ah];exact hl) ?_
 refine tJ.mk' n b.length rfl (by rw [ah]) hl (by rw [ah];exact ay _) ?_
 exact lW (bs (b.take n)) 1 [(0,tq (b.drop n) 0)] [] [] ⟨rfl,rfl,rfl⟩ rfl ⟨⟨rfl,⟨rfl,bT.symm⟩,rfl,trivial⟩,trivial⟩ ⟨rfl,fK.symm⟩
theorem V7 (b:By)(e:Int)(he:e≠0):mX Tryz.prog GC 72 [.ptr 0 0,iv 0] 1 [(0,tq b e)] (fun a m H=>a=bs []∧m=1∧H = [(0,tq b e)]):=by
 refine lH func72 rfl mixed (by kernel_rfl) ?_
 have hq:(e==0)=false:=by simpa using he
 conv=>whnf
 rw [hq]
 apply lD<;>intro h
 rotate_left
 ·exfalso;simp at h;exact he h
 exact lW (bs []) 1 [(0,tq b e)] [] [] ⟨rfl,rfl,rfl⟩ rfl (by trivial) (by trivial)
theorem aeX (b:By)(e:Int)(hb:b.length<=3000000):mX Tryz.prog GC 34 [.ptr 0 0,iv 200] 1 [(0,tq b e)] (fun a n H=>a=tv (GV b e).1∧n=1∧H = [(0,tq (b.drop (GV b e).2.1) (GV b e).2.2)]):=by
 have hL:=JD b e 200 4 hb (by decide) (by decide)
 have hr:=uG b e 200 4 (by decide) (by decide)
 have hz:(qL b e 200 4).2.2≠0->(qL b e 200 4).1=0:=fun h=>by rw [uF]at h ⊢;simp only at h ⊢;rw [if_neg h]
 have hd:=JG b e
 generalize qL b e 200 4=c at *
 obtain⟨x,k,e'⟩:=c
 simp only at hL hr hz hd
 obtain⟨n,rfl⟩ : ∃n:Nat,x=(n:Int):=⟨x.toNat,by omega⟩
 have hn:n<=200:=by omega
 rw [dK]at hd
 by_cases he:e'=0
 ·subst he
  rw [if_pos rfl]at hd
  have hT:=takeA (b.drop k) n hn
  by_cases h:n<=(b.drop k).length
  ·have h2 : ¬((b.drop k).length:Int)<(n:Int):=by omega
   rw [if_neg h2]at hd
   rw [hd]
   simp only [h,if_true]at hT
   refine lH func34 rfl mixed (by kernel_rfl) ?_
   refine sG [0] [] (by kernel_rfl) hL rfl (by trivial) (by trivial) rfl ?_
   refine sG [0] [] (by kernel_rfl) hT rfl (by trivial) (by trivial) rfl ?_
   refine BA.of ?_
   exact lW (tv ((b.drop k).take n)) 1 [(0,tq (b.drop (k+n)) 0)] [] [] ⟨rfl,rfl,rfl⟩ rfl ⟨⟨rfl,⟨rfl,by rw [jT]⟩,rfl,trivial⟩,trivial⟩ (by trivial)
  ·have h2:((b.drop k).length:Int)<(n:Int):=by omega
   rw [if_pos h2]at hd
   rw [hd]
   simp only [h,if_false]at hT
   refine lH func34 rfl mixed (by kernel_rfl) ?_
   refine sG [0] [] (by kernel_rfl) hL rfl (by trivial) (by trivial) rfl ?_
   refine sG [0] [] (by kernel_rfl) hT rfl (by trivial) (by trivial) rfl ?_
   refine BA.of (s:= []) ?_
   exact lW (tv []) 1 [(0,tq (b.drop k) 16)] [] [] ⟨rfl,rfl,rfl⟩ rfl (by trivial) (by trivial)
 ·have h0:=hz he
  have hn0:n=0:=by omega
  subst hn0
  rw [if_neg he]at hd
  rw [hd]
  refine lH func34 rfl mixed (by kernel_rfl) ?_
  refine sG [0] [] (by kernel_rfl) hL rfl (by trivial) (by trivial) rfl ?_
  refine sG [0] [] (by kernel_rfl) (V7 (b.drop k) e' he) rfl (by trivial) (by trivial) rfl ?_
  refine BA.of (s:= []) ?_
  exact lW (tv []) 1 [(0,tq (b.drop k) e')] [] [] ⟨rfl,rfl,rfl⟩ rfl (by trivial) (by trivial)
section
attribute [local irreducible] best ints en bd
def RTa (b:By)(a:AV)(m:Nat)(H:lF):Prop:= ∃l n e,Sr b l n e∧a = .mW [tl l,iv (n:Nat),iv e]∧m=0∧H = []
structure TX where
 ks:Tx
 b:By
def KI (b:By)(n:Nat)(e:Int)(x:TX):Prop:=x.ks.length<=n∧J3 x.ks∧(e=0->b=num (n:Int)++x.ks.flatMap qG++x.b)∧GT b fun l0 r=>e=0∧(dsT l0).length=n∧QT l0 r x.ks x.b
theorem xu (b:By)(hb:b.length<=100000):mX Tryz.prog GC 137 [bs b] 0 [] (RTa b):=by
 have hC:=Cm b 0 512 (by omega) (by decide)
 have hcr:=uG b 0 512 5 (by decide) (by decide)
 have hhead:=ZX b
 have ho:=qW b 0
 have hz:(qL b 0 512 5).2.2≠0->(qL b 0 512 5).1=0:=fun h=>by rw [uF]at h ⊢;simp only at h ⊢;rw [if_neg h]
 rw [<-hcr.2.2.1]at ho
 generalize qL b 0 512 5=c at *
 obtain⟨x,k,e⟩:=c
 simp only at hC hcr hhead hz ho
 obtain⟨n,rfl⟩ : ∃n:Nat,x=(n:Int):=⟨x.toNat,by omega⟩
 have hn:n<=512:=by omega
 have hk0:KI b n e ⟨[],b.drop k⟩:=⟨aB _,fun _ h=>(by cases h),fun he=>by
  have:=hcr.2.2.2 he
  have h3:=(ho.2.2.1 this.1).2.1
  rw [<-this.2]at h3
  simpa using h3,fun l0 r hl ht hb=>by
  have:=hhead l0 r hl ht hb
  exact⟨this.1,by omega,this.2.2⟩⟩
 have hbl:(b.drop k).length<=100000:=pX hb
 generalize b.drop k=b1' at *
 clear hhead hcr ho
 refine lH func137 rfl mixed (by kernel_rfl) ?_
 refine nI [] (by kernel_rfl) (JB b (by omega)) (by trivial) ?_
 refine sG [0] [] (by kernel_rfl) hC rfl (by trivial) (by trivial) rfl ?_
 refine nI [] (by kernel_rfl) (qx [] (n:Int) (nD (by omega)) (by simp)) (by trivial) ?_
 refine mO Yc 3 [7,8,25] (fun x:TX=> [(7,iv ((num (n:Int)++x.ks.flatMap qG).length:Nat)),(8, .own 2),(25,iv x.ks.length)]) (fun x=> [(2, .rows 9 1 (x.ks.map JF)),(0,tq x.b e)]) (fun x=>x.b.length<=100000∧KI b n e x) (fun x=>n-x.ks.length) [(2, .nil)] [] ⟨[],b1'⟩ (by kernel_rfl) (fun _=>rfl) rfl ⟨hbl,hk0⟩ ⟨rfl,(by trivial),trivial⟩ ⟨congrArg (fun n:Nat=>Value.int .i64 (n:Int)) (by simp),trivial,rfl,trivial⟩ ?_
 rintro⟨ks,b'⟩ ⟨hb',hK⟩
 change b'.length<=100000 at hb'
 obtain⟨k1,k2,k3,k4⟩:=hK
 change ks.length<=n at k1
 change J3 ks at k2
 change e=0->b=num (n:Int)++ks.flatMap qG++b' at k3
 change GT b fun l0 r=>e=0∧(dsT l0).length=n∧QT l0 r ks b' at k4
 have hkl:=Az ks k2
 have hnl:=(mP (n:Int)).2
 apply lD<;>intro h
 ·have hlt:ks.length<n:=by simp at h;omega
  have he:e=0:=dX fun he=>by have:=hz he;omega
  subst he
  have hT:=aeX b' 0 (by omega)
  have hto:=ac3 b' 0
  have hstep:GT b fun l0 r=>(GV b' 0).2.2=0∧QT l0 r (ks++ [(GV b' 0).1]) (b'.drop (GV b' 0).2.1):=fun l0 r hl ht hbb=>by
   have:=k4 l0 r hl ht hbb
   exact this.2.2.step ht (by omega)
  generalize GV b' 0=t at *
  obtain⟨s,j,f⟩:=t
  simp only at hT hto hstep
  refine sG [0] [] (by kernel_rfl) hT rfl (by trivial) (by trivial) rfl ?_
  refine sG [0] [] (by kernel_rfl) (Au (b'.drop j) f) rfl (by trivial) (by trivial) rfl ?_
  apply lD<;>intro h
  ·have hf:f≠0:=by simpa using h
   refine sG [0] [] (by kernel_rfl) (Au (b'.drop j) f) rfl (by trivial) (by trivial) rfl ?_
   apply lD<;>intro h
   rotate_left
   ·exfalso;simp at h;exact hf h
   exact lW (.mW [tl [],iv (0:Nat),iv 1]) 0 [] [] [] ⟨[],0,1,Sr.bad fun l0 r ha hl h=>hf (hstep l0 r ha hl h).1,rfl,rfl,rfl⟩ rfl trivial (by trivial)
  have hf:f=0:=by simpa using h
  subst hf
  conv=>whnf
  have agk:=hto.2.2.1 rfl
  refine lG.mk (lM (by simp only [ln];omega) (by kernel_rfl)) ?_
  conv=>whnf
  have hs2:=hto.1
  refine nI [] (by kernel_rfl) (aaU [] s (by simp) hs2) (by trivial) ?_
  conv=>whnf
  have hpl:=F5 s hs2
  refine lU.i64 (by simp only [ln];omega) ?_
  refine lU.i64 (by simp only;omega) ?_
  conv=>whnf
  have hbd:(b'.drop j).length<=100000:=pX hb'
  have hfm:(ks++ [s]).flatMap qG=ks.flatMap qG++qG s:=by simp
  refine lX ⟨ks++ [s],b'.drop j⟩ [(2, .lab 4)] [] rfl (by show n -(ks++ [s]).length<n-ks.length;rw [ak];simp only [ln];omega) ⟨hbd,by show (ks++ [s]).length<=n;rw [ak];simp only [ln];omega,fun t ht=> ?_,fun _=> ?_,fun l0 r hl ht hbb=> ?_⟩ ⟨⟨rfl,rfl,(wO ks s).symm⟩,⟨rfl,⟨rfl,rfl⟩,rfl,trivial⟩,trivial⟩ ⟨?_,rfl, ?_,trivial⟩
  ·rcases cu.1 ht with h|h
   ·exact k2 t h
   ·rw [bG.1 h];exact hs2
  ·show b=num (n:Int)++(ks++ [s]).flatMap qG++b'.drop j
   rw [hfm,k3 rfl,aO,aO,aO, <-agk.2.1]
  ·exact⟨rfl,(k4 l0 r hl ht hbb).2.1,(hstep l0 r hl ht hbb).2⟩
  ·refine congrArg (fun n:Int=>Value.int .i64 n) ?_
   show _=((num (n:Int)++(ks++ [s]).flatMap qG).length:Int)
   rw [hfm]
   simp only [ah,ak,bI]
   omega
  ·refine congrArg (fun n:Int=>Value.int .i64 n) ?_
   show _=((ks++ [s]).length:Int)
   rw [ak];rfl
 ·have hkn:ks.length=n:=by simp at h;omega
  refine sG [0] [] (by kernel_rfl) (Au b' e) rfl (by trivial) (by trivial) rfl ?_
  apply lD<;>intro h
  ·have he:e≠0:=by simpa using h
   exact lW (.mW [tl [],iv (0:Nat),iv 1]) 0 [] [] [] ⟨[],0,1,Sr.bad fun l0 r ha hl h=>he (k4 l0 r ha hl h).1,rfl,rfl,rfl⟩ rfl trivial (by trivial)
  have he:e=0:=by simpa using h
  subst he
  have hbe:=k3 rfl
  have hbl:=congrArg List.length hbe
  simp only [ak]at hbl
  have hdrop:(b.map oh).drop (num (n:Int)++ks.flatMap qG).length=b'.map oh:=by
   rw [<-bT,hbe,eu rfl]
  have hfin:GT b fun l0 r=>ks=dsT l0∧b'=ints (Gt (dsT l0) l0)++r:=fun l0 r hl ht hb=>by
   have:=k4 l0 r hl ht hb
   exact this.2.2.fin (by omega)
  refine tJ.mk' (num (n:Int)++ks.flatMap qG).length b.length rfl (by rw [ah]) (by rw [ak];omega) (by rw [ah];exact ay _) ?_
  conv=>whnf
  rw [show cut (some (AV.v (.int .i64 (((num (n:Int)++ks.flatMap qG).length:Nat):Int)))) none (num (n:Int)++ks.flatMap qG).length b.length (b.map oh)=b'.map oh from hdrop]
  (refine oJ [] (by kernel_rfl) (sV b' hb') ?_ ?_;(focus trivial))
  rintro _ _ _ ⟨il,m,f,hR,rfl,rfl,rfl⟩
  have hgood:GT b fun l0 r=>f=0∧il=Gt (dsT l0) l0∧ks=dsT l0:=fun l0 r hl ht hb=>by
   have h1:=hfin l0 r hl ht hb
   have h2:=yH l0
   have h3:=hR.2.2.2 _ r (Qb (dsT l0) l0 (fun x hx=>(xq l0 x).2 hx) (by omega)) (by rw [yI];exact hl) h1.2
   exact⟨h3.1,h3.2,h1.1⟩
  have hil:=hR.2.1
  have hR1:=hR.1
  clear hdrop hfin hR hC hk0
  apply lD<;>intro h
  ·have he:f≠0:=by simpa using h
   exact lW (.mW [tl [],iv (0:Nat),iv 1]) 0 [] [] [] ⟨[],0,1,Sr.bad fun l0 r ha hl h=>he (hgood l0 r ha hl h).1,rfl,rfl,rfl⟩ rfl trivial (by trivial)
  refine mO Yd 4 [9,57] (fun i:Nat=> [(9, .own 3),(57,iv i)]) (fun i=> [(3, .rows 9 1 ((Qc ks (il.take i)).map JF)),(2, .rows 9 1 (ks.map JF)),(0,tq b' 0)]) (fun i=>i<=il.length∧∀j (h:j<il.length),j<i->0<=il[j]∧il[j]<(ks.length:Int)) (fun i=>il.length-i) [(3, .nil)] [] 0 (by kernel_rfl) (fun _=>rfl) rfl ⟨aB _,fun j _ h=>absurd h (gQ j)⟩ ⟨rfl,⟨rfl,rfl,rfl⟩,(by trivial),trivial⟩ ⟨trivial,rfl,trivial⟩ ?_
  rintro i ⟨hi,hin⟩
  apply lD<;>intro h
  ·have hlt:i<il.length:=by simp at h;omega
   have hat:=aj hlt
   refine ni.mk' i rfl (sD hlt) ?_
   refine mG.lS hat ?_
   conv=>whnf
   have hbad : ¬(0<=il[i]∧il[i]<(ks.length:Int))->GT b fun _ _=>False:=fun hx l0 r hl ht hb=>by
    obtain⟨_,h2,h3⟩:=hgood l0 r hl ht hb
    have hlt':i<(Gt (dsT l0) l0).length:=by rw [<-h2];exact hlt
    have e:il[i]=(Gt (dsT l0) l0)[i]'hlt':=by simp only [h2]
    rw [yI]at hlt'
    have e2:il[i]=((xZ (dsT l0) l0[i]:Nat):Int):=by rw [e];simp [Gt]
    have:=(Aw ((xq l0 l0[i]).2 (bD hlt'))).1
    exact hx (by rw [h3];omega)
   have hstep : ∀q:Nat,il[i]=(q:Int)->∀x,ks[q]? = some x->Qc ks (il.take (i+1))=Qc ks (il.take i)++ [x]:=fun q hq x hx=>VZ hlt hq hx
   have hnx:(0<=il[i]∧il[i]<(ks.length:Int))->∀j (h:j<il.length),j<i+1->0<=il[j]∧il[j]<(ks.length:Int):=fun hx j h hj=>by
    rcases dJ j i with h4|h4
    ·exact hin j h h4
    ·have:j=i:=by omega
     subst this;exact hx
   have hxI:I64 il[i]:=hR1 _ (bD hlt)
   generalize il[i]=x at *
   apply lD<;>intro h
   ·have hx:x<0:=by simpa using h
    exact lW (.mW [tl [],iv (0:Nat),iv 1]) 0 [] [] [] ⟨[],0,1,Sr.bad (hbad (by omega)),rfl,rfl,rfl⟩ rfl trivial (by trivial)
   have hx0:0<=x:=by simpa using h
   apply lD<;>intro h
   ·have hx:(ks.length:Int)<=x:=by simpa using h
    exact lW (.mW [tl [],iv (0:Nat),iv 1]) 0 [] [] [] ⟨[],0,1,Sr.bad (hbad (by omega)),rfl,rfl,rfl⟩ rfl trivial (by trivial)
   have hx1:x<(ks.length:Int):=by simp at h;omega
   obtain⟨q,rfl⟩ : ∃q:Nat,x=(q:Int):=⟨x.toNat,by omega⟩
   have hq:q<ks.length:=by omega
   have hkq:=aj hq
   refine ni.mk' q rfl (sD hq) ?_
   refine mG.lS hkq ?_
   conv=>whnf
   have e1:=hstep q rfl ks[q] hkq
   have htl:(Qc ks (il.take i)).length<=512:=by rw [Qd,aK];omega
   refine lG.mk (lM (by simp only [ln];omega) (by kernel_rfl)) ?_
   refine lU.i64 (by omega) ?_
   exact lX (i+1) [(3, .lab 5)] [] rfl (by show il.length -(i+1)<il.length-i;omega) ⟨hlt,hnx ⟨hx0,hx1⟩⟩ ⟨⟨rfl,rfl,by rw [e1];exact(wO _ _).symm⟩,⟨rfl,rfl,rfl⟩,⟨rfl,(by trivial)⟩,trivial⟩ ⟨rfl,rfl,trivial⟩
  ·have hie:i=il.length:=by simp at h;omega
   subst hie
   rw [bn]
   have hl5:(Qc ks il).length<=512:=by rw [Qd];exact hil
   have hok:=ac5 k2 il
   have hG:GT b fun l0 r=>Qc ks il=l0:=fun l0 r hl ht hb=>by
    obtain⟨_,h2,h3⟩:=hgood l0 r hl ht hb
    rw [h2,h3]
    exact ac4 fun x hx=>(xq l0 x).2 hx
   generalize Qc ks il=l at *
   conv=>whnf
   have hT:=F7 l hl5 hok
   have hpre:=xk b (su l)
   refine nI [3] (by kernel_rfl) (hT) (by trivial) ?_
   (refine mQ [] (by kernel_rfl) (hpre) rfl ?_ ?_;(focus trivial))
   apply lD<;>intro h
   ·have hp : ¬b.take (su l).length=su l:=by simpa using h
    exact lW (.mW [tl [],iv (0:Nat),iv 1]) 0 [] [] [] ⟨[],0,1,Sr.bad fun l0 r ha hl h=>hp (by rw [hG l0 r ha hl h,h,eG rfl]),rfl,rfl,rfl⟩ rfl trivial (by trivial)
   ·have hp:b.take (su l).length=su l:=by simpa using h
    exact lW (.mW [tl l,iv ((su l).length:Nat),iv 0]) 0 [] [] [] ⟨l,(su l).length,0,⟨hok,hl5, .inl ⟨rfl,rfl,hp⟩,fun l0 r ha hl h=>⟨rfl,hG l0 r ha hl h⟩⟩,rfl,rfl,rfl⟩ rfl trivial ⟨⟨rfl,rfl⟩,congrArg (fun n:Nat=>Value.int .i64 (n:Int)) (ah _),rfl,trivial⟩
end
abbrev hdA (g f i n:Int):AV:= .agg [iv g,iv f,iv i,iv n]
theorem F8 (n k:Nat)(m:Nat)(hm:m=k):IntKind.u8.wrap ((n:Int).fdiv (2^m))=((bt (n/2^k)).toNat:Int):=by
 subst hm
 rw [IntKind.wrap_u8,fD _ (Int.le_of_lt (Int.pow_pos (by decide))),FQ]
 have e:((n:Int)/2^m)=((n/2^m:Nat):Int):=by simp
 rw [e];omega
theorem V8 (n:Nat):IntKind.u8.wrap (n:Int)=((bt n).toNat:Int):=by
 rw [IntKind.wrap_u8,FQ];omega
theorem aeY (G:Glob)(g f i n:Nat)(h1:g<4294967296)(h2:f<65536)(h3:i<256)(h4:n<256):mX Tryz.prog G 67 [hdA g f i n] 0 [] (Is (bs (hd g f i n))):=by
 refine lH func67 rfl mixed (by kernel_rfl) ?_
 conv=>whnf
 repeat' (first|(refine lG.mk (by decide) ?_;conv=>whnf)|(refine lU.to (F8 g 24 _ rfl) ?_;conv=>whnf)|(refine lU.to (F8 g 16 _ rfl) ?_;conv=>whnf)|(refine lU.to (F8 g 8 _ rfl) ?_;conv=>whnf)|(refine lU.to (F8 f 8 _ rfl) ?_;conv=>whnf)|(refine lU.to (V8 _) ?_;conv=>whnf))
 refine mJ [1] ⟨rfl,rfl, ?_⟩
 simp only [hd,be,iU,List.range_zero,bI,gy,jQ,aJ,List.singleton_append,gW,oh]
 simp
theorem V9 (a b:Int)(l:By):0<=Dg.Ae a b l∧Dg.Ae a b l<18446744073709551616:=by
 unfold Dg.Ae Dg.S4.done Dg.xor
 simp only [mD]
 rw [IntKind.wrap_u64]
 omega
theorem aaV (g f i n:Nat)(d:By):hw g f i n d<18446744073709551616∧hsh 101 [hd g f i n,d]=(hw g f i n d:Int):=by
 have h:=V9 101 0 (Dg.frame [hd g f i n,d])
 unfold hw hsh
 omega
theorem F9 (a b:By):(Dg.frame [a,b]).length=16+a.length+b.length:=by
 simp only [Dg.frame,ak,Dg.sQ,dQ];omega
theorem Qh (G:Glob)(g f i n:Nat)(d:By)(h1:g<4294967296)(h2:f<65536)(h3:i<256)(h4:n<256)(hd_:d.length<=1000):mX Tryz.prog G 29 [hdA g f i n,bs d] 0 [] (Is (bs (sec g f i n d))):=by
 obtain⟨hH1,hH2⟩:=aaV g f i n d
 have hP:=aeY G g f i n h1 h2 h3 h4
 have hh:=aeC G 101 [hd g f i n,d] (show 2<=1000 by decide) (by rw [F9,yC];omega)
 have hl:=yC g f i n
 have hW:=Vs G (hd g f i n) (hw g f i n d) (by omega) hH1
 rw [hH2]at hh
 have hl2:(hd g f i n++be 8 (hw g f i n d)).length=16:=by rw [ak,sU,hl]
 have hs:sec g f i n d=hd g f i n++be 8 (hw g f i n d)++d:=rfl
 rw [hs]
 clear hs
 generalize hd g f i n++be 8 (hw g f i n d)=x at *
 generalize hw g f i n d=y at *
 generalize hd g f i n=z at *
 refine lH func29 rfl mixed (by kernel_rfl) ?_
 refine nI [] (by kernel_rfl) (hP) (by trivial) ?_
 refine nI [] (by kernel_rfl) (hP) (by trivial) ?_
 (refine mQ [1] (by kernel_rfl) (hh) rfl ?_ ?_;(focus trivial))
 refine nI [] (by kernel_rfl) hW (by trivial) ?_
 refine lG.mk (lM (by simp only [ah];omega) (by kernel_rfl)) ?_
 refine mJ [3] ⟨rfl,rfl, ?_⟩
 simp only [aJ]
theorem MN (G:Glob)(a b:By):mX Tryz.prog G 36 [bs a,bs b] 0 [] (Is (bv (decide (a=b)))):=by
 refine lH func36 rfl mixed (by kernel_rfl) ?_
 refine BA.of ?_
 refine BA.of ?_
 refine mJ [] ?_
 exact congrArg Value.bool (uh a b)
theorem Qi (s:By):hG s<4294967296:=by
 unfold hG
 have:=OE (s.take 4)
 have h2:(s.take 4).length<=4:=List.length_take_le ..
 have h3:256^(s.take 4).length<=256^4:=dw (by decide) h2
 have h4:(256:Nat)^4=4294967296:=by decide
 omega
theorem JI (a b:Nat)(ha:a<4611686018427387904)(hb:b<4611686018427387904):mD .or .i64 a b=((a ||| b:Nat):Int):=by
 have e:IntKind.i64.bits=64:=rfl
 have h:=jB (n:=62) ha hb
 simp only [mD,e,sS,kQ,dS]
 rw [bU (by omega),bU (by omega)]
 exact IntWalk.i64_in _ (by omega)
theorem or_hi (c k a:Nat)(ha:a<2^k):c*2^k ||| a=c*2^k+a:=by rw [Nat.or_comm,BZ k c ha,lu]
theorem aeZ {s:By}(h:s.length=64):hG s=(s.getD 0 0).toNat*16777216+(s.getD 1 0).toNat*65536+(s.getD 2 0).toNat*256+(s.getD 3 0).toNat:=by
 match s,h with
 | a::b::c::d::r,_=>
  simp only [hG,JZ,iy,iO,fF,List.foldl_nil,List.getD_cons_zero,List.getD_cons_succ]
  omega
theorem ae0 {s:By}(h:s.length=64):hF s=(s.getD 4 0).toNat*256+(s.getD 5 0).toNat:=by
 match s,h with
 | _::_::_::_::a::b::r,_=>
  simp only [hF,JZ,List.drop_succ_cons,gK,iy,iO,fF,List.foldl_nil,List.getD_cons_zero,List.getD_cons_succ]
  omega
theorem Wh {a b c d:Nat}(ha:a<256)(hb:b<256)(hc:c<256)(hd:d<256):mD .or .i64 (mD .or .i64 (mD .or .i64 ((a*16777216:Nat):Int) ((b*65536:Nat):Int)) ((c*256:Nat):Int)) (d:Int)=((a*16777216+b*65536+c*256+d:Nat):Int):=by
 have e1:a*16777216 ||| b*65536=a*16777216+b*65536:=or_hi a 24 (b*65536) (by omega)
 have e2:(a*16777216+b*65536) ||| c*256=a*16777216+b*65536+c*256:=by
  have:=or_hi (a*256+b) 16 (c*256) (by omega)
  rw [show (a*256+b)*2^16=a*16777216+b*65536 by omega]at this
  exact this
 have e3:(a*16777216+b*65536+c*256) ||| d=a*16777216+b*65536+c*256+d:=by
  have:=or_hi (a*65536+b*256+c) 8 d (by omega)
  rw [show (a*65536+b*256+c)*2^8=a*16777216+b*65536+c*256 by omega]at this
  exact this
 rw [JI _ _ (by omega) (by omega),e1,JI _ _ (by omega) (by omega),e2,JI _ _ (by omega) (by omega),e3]
theorem Wi {a b:Nat}(ha:a<256)(hb:b<256):mD .or .i64 ((a*256:Nat):Int) (b:Int)=((a*256+b:Nat):Int):=by
 rw [JI _ _ (by omega) (by omega),show a*256 ||| b=a*256+b from or_hi a 8 b (by omega)]
theorem AA {a:Nat}(ha:a<256)(k:Nat)(m e:Nat)(he:e=k)(hm:2^k=m)(h:m<=16777216):IntKind.i64.wrap ((a:Int)*2^e)=((a*m:Nat):Int):=by
 subst he
 have:(2:Int)^e=(m:Int):=by rw [<-hm];simp
 rw [this, <-iw]
 have:=jC (show a<=255 by omega) h
 exact IntWalk.i64_in _ (by omega)
theorem OO (G:Glob)(s:By):mX Tryz.prog G 32 [bs s] 0 [] (fun a n H=>n=0∧H = []∧∃g f i m:Nat,a = .mW [hdA g f i m,bv (yD s)]∧(yD s=true->g=hG s∧f=hF s∧i=hI s∧m=hN s)):=by
 refine lH func32 rfl mixed (by kernel_rfl) ?_
 apply lD<;>intro h
 ·have hl:s.length≠64:=by simp at h;omega
  have hr:yD s=false:=by simp [yD,hl]
  exact lW (.mW [hdA 0 0 0 0,bv false]) 0 [] [] [] ⟨rfl,rfl,0,0,0,0,by rw [hr];rfl,fun h=>by rw [hr]at h;cases h⟩ rfl trivial (by trivial)
 have hl:s.length=64:=by simp at h;omega
 have hk : ∀k,k<64->s[k]? = some (s.getD k 0):=fun k hk=>by rw [aW,aj (by omega),iD]
 have e1:=aeZ hl
 have e2:=ae0 hl
 have e3:hI s=(s.getD 6 0).toNat:=rfl
 have e4:hN s=(s.getD 7 0).toNat:=rfl
 have k0:=hk 0 (by decide)
 have k1:=hk 1 (by decide)
 have k2:=hk 2 (by decide)
 have k3:=hk 3 (by decide)
 have k4:=hk 4 (by decide)
 have k5:=hk 5 (by decide)
 have k6:=hk 6 (by decide)
 have k7:=hk 7 (by decide)
 have hr:yD s=(decide (0<hG s)&&(decide (hI s<hN s)&&decide (s=sec (hG s) (hF s) (hI s) (hN s) (s.drop 16)))):=by
  unfold yD;rw [decide_eq_true hl,iK]
 have hgl:=Qi s
 rw [e1,e2,e3,e4]at hr ⊢
 generalize s.getD 0 0=a0 at *
 generalize s.getD 1 0=a1 at *
 generalize s.getD 2 0=a2 at *
 generalize s.getD 3 0=a3 at *
 generalize s.getD 4 0=a4 at *
 generalize s.getD 5 0=a5 at *
 generalize s.getD 6 0=a6 at *
 generalize s.getD 7 0=a7 at *
 have l0:=a0.toNat_lt
 have l1:=a1.toNat_lt
 have l2:=a2.toNat_lt
 have l3:=a3.toNat_lt
 have l4:=a4.toNat_lt
 have l5:=a5.toNat_lt
 have l6:=a6.toNat_lt
 have l7:=a7.toNat_lt
 clear hk
 have q0:IntKind.i64.wrap ((a0.toNat:Int)*2^min (Int.toNat 24) IntKind.i64.bits)=_:=AA l0 24 16777216 _ rfl (by decide) (by decide)
 have q1:IntKind.i64.wrap ((a1.toNat:Int)*2^min (Int.toNat 16) IntKind.i64.bits)=_:=AA l1 16 65536 _ rfl (by decide) (by decide)
 have q2:IntKind.i64.wrap ((a2.toNat:Int)*2^min (Int.toNat 8) IntKind.i64.bits)=_:=AA l2 8 256 _ rfl (by decide) (by decide)
 have q4:IntKind.i64.wrap ((a4.toNat:Int)*2^min (Int.toNat 8) IntKind.i64.bits)=_:=AA l4 8 256 _ rfl (by decide) (by decide)
 refine Uu aaI [] [(4,4),(9,49)] 2 [(4, .ptr 1 0)] [(1, .var 59 [iv ((a0.toNat*16777216+a1.toNat*65536+a2.toNat*256+a3.toNat:Nat):Int),iv ((a4.toNat*256+a5.toNat:Nat):Int),iv (a6.toNat:Nat),iv (a7.toNat:Nat)]),(0, .var 59 [iv 0,iv 0,iv 0,iv 0])] (by kernel_rfl) (by kernel_rfl) ?_ ?_
 ·conv=>whnf
  repeat' (first
   | (refine ni.mk' 0 rfl (by rw [ah];omega) ?_;conv=>whnf)|(refine ni.mk' 1 rfl (by rw [ah];omega) ?_;conv=>whnf)|(refine ni.mk' 2 rfl (by rw [ah];omega) ?_;conv=>whnf)|(refine ni.mk' 3 rfl (by rw [ah];omega) ?_;conv=>whnf)|(refine ni.mk' 4 rfl (by rw [ah];omega) ?_;conv=>whnf)|(refine ni.mk' 5 rfl (by rw [ah];omega) ?_;conv=>whnf)|(refine ni.mk' 6 rfl (by rw [ah];omega) ?_;conv=>whnf)|(refine ni.mk' 7 rfl (by rw [ah];omega) ?_;conv=>whnf)
   | (refine mG.lS k0 ?_;conv=>whnf)|(refine mG.lS k1 ?_;conv=>whnf)|(refine mG.lS k2 ?_;conv=>whnf)|(refine mG.lS k3 ?_;conv=>whnf)
   | (refine mG.lS k4 ?_;conv=>whnf)|(refine mG.lS k5 ?_;conv=>whnf)|(refine mG.lS k6 ?_;conv=>whnf)|(refine mG.lS k7 ?_;conv=>whnf)
   | (refine lG.mk (by decide) ?_;conv=>whnf)
   | (refine lU.i64 (by omega) ?_;conv=>whnf)
   | (with_reducible refine lU.to q0 ?_;conv=>whnf)
   | (with_reducible refine lU.to q1 ?_;conv=>whnf)
   | (with_reducible refine lU.to q2 ?_;conv=>whnf)
   | (with_reducible refine lU.to q4 ?_;conv=>whnf))
  refine ad5 [(1, .lab 1)] [] ?_ ?_ ?_
  ·rfl
  ·rw [Wh l0 l1 l2 l3,Wi l4 l5]
   trivial
  ·trivial
 have hf5:a4.toNat*256+a5.toNat<65536:=by omega
 rw [e1]at hgl
 clear q0 q1 q2 q4 k0 k1 k2 k3 k4 k5 k6 k7 e1 e2 e3 e4
 generalize a0.toNat*16777216+a1.toNat*65536+a2.toNat*256+a3.toNat=g at *
 generalize a4.toNat*256+a5.toNat=f at *
 generalize a6.toNat=i at *
 generalize a7.toNat=m at *
 have ahz:(s.drop 16).length=48:=by rw [aX,hl]
 have hS:=fun h=>Qh G g f i m (s.drop 16) hgl hf5 l6 l7 h
 have hS:=hS (by omega)
 have hs2:s.length=64:=hl
 refine nZ aaI [0] (by kernel_rfl) ?_
 refine Vw [0,1,2,3,4] ?_
 refine⟨P5 54 rfl (fun h=> ?_) (fun h=> ?_)⟩
 ·have hg0:0<g:=by have:=of_decide_eq_true h;omega
  refine Vw [5,6,7,8,9,10,11] ?_
  refine⟨P5 61 rfl (fun h=> ?_) (fun h=> ?_)⟩
  ·have him:i<m:=by have:=of_decide_eq_true h;omega
   have hrr:yD s=decide (sec g f i m (s.drop 16)=s):=by
    rw [hr,decide_eq_true hg0,decide_eq_true him,iK,iK]
    exact decide_eq_decide.2 eq_comm
   refine tJ.mk' 16 s.length rfl (by rw [ah]) (by omega) (by rw [ah];exact ay _) ?_
   refine nI [] (by kernel_rfl) hS ⟨(by trivial),⟨rfl,bT.symm⟩,trivial⟩ ?_
   refine mQ [] (by kernel_rfl) (MN G s (sec g f i m (s.drop 16))) rfl (by trivial) ?_
   exact lW (.mW [hdA g f i m,bv (yD s)]) 0 [] [] [] ⟨rfl,rfl,g,f,i,m,rfl,fun _=>⟨rfl,rfl,rfl,rfl⟩⟩ rfl trivial ⟨(by trivial),congrArg Value.bool (by rw [hrr];exact decide_eq_decide.2 eq_comm),trivial⟩
  ·have him : ¬i<m:=by have:=of_decide_eq_false h;omega
   have hrr:yD s=false:=by rw [hr,decide_eq_false him,fE,Bool.and_false]
   exact lW (.mW [hdA g f i m,bv (yD s)]) 0 [] [] [] ⟨rfl,rfl,g,f,i,m,rfl,fun _=>⟨rfl,rfl,rfl,rfl⟩⟩ rfl trivial ⟨(by trivial),congrArg Value.bool hrr.symm,trivial⟩
 ·have hg0:g=0:=by have:=of_decide_eq_false h;omega
  have hrr:yD s=false:=by rw [hr,decide_eq_false (by omega),fE]
  exact lW (.mW [hdA g f i m,bv (yD s)]) 0 [] [] [] ⟨rfl,rfl,g,f,i,m,rfl,fun _=>⟨rfl,rfl,rfl,rfl⟩⟩ rfl trivial ⟨(by trivial),congrArg Value.bool hrr.symm,trivial⟩
end Go.Proofs.YtocckceefcmeaaaGreatDoor.Cl
