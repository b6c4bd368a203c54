/- Joined parts of the proof. A verification-condition reckoner for the model's code: the frame as a function of slots, one rule an operation; its sou -/
import Derived.Calls
import Derived.Orders
import Derived.OrdersHeld
import Derived.Below
import Derived.Laws.Sem
import Derived.Laws.World
import Derived.Laws.IdiomStrings
import Derived.Laws.Tables
import Derived.Laws.Small
set_option linter.unusedVariables false
set_option linter.unusedSimpArgs false
set_option maxRecDepth 100000
set_option maxHeartbeats 16000000
namespace Go.Proofs.YtnandbihiceihaaGreatDoor
theorem aag{p:Prop}(h:p:=by kernel_rfl):p:=h
theorem aai{p:Prop}(h:p:=by omega):p:=h
theorem aam{p:Prop}(h:p:=by trivial):p:=h
theorem aaw{p:Prop}(h:p:=by decide):p:=h
theorem aaE{p:Prop}(h:p:=by simpa using h):p:=h
theorem aaF{p:Prop}(h:p:=by show l.length -(i+1)<l.length-i;omega):p:=h
theorem aaG{p:Prop}(h:p:=by simp at h;omega):p:=h
theorem aaH{p:Prop}(h:p:=by assumption):p:=h
theorem aaI{p:Prop}(h:p:=by dsimp only;omega):p:=h
theorem aaJ{p:Prop}(h:p:=by simpa using h1):p:=h
theorem aaK{p:Prop}(h:p:=by show 60 -(out++ [_]).length<60-out.length;rw [ay];simp;omega):p:=h
theorem aaL{p:Prop}(h:p:=by simp only [ln];omega):p:=h
theorem aaM{p:Prop}(h:p:=by repeat' (first|rfl|trivial|apply And.intro)):p:=h
theorem aaN{p:Prop}(h:p:=by show x.length -(i+1)<x.length-i;omega):p:=h
theorem aaO{p:Prop}(h:p:=by show _<=(i:Int)+1∧(i:Int)+1<=_;omega):p:=h
theorem aaP{p:Prop}(h:p:=by with_reducible assumption):p:=h
theorem aaQ{p:Prop}(h:p:=by decide +kernel):p:=h
theorem aaR{p:Prop}(h:p:=by first|decide|omega):p:=h
theorem aaU{p:Prop}(h:p:=by unfold execOp;simp only [ho];exact tq hr):p:=h
theorem aa5{p:Prop}(h:p:=by unfold maxLen;omega):p:=h
theorem abb{p:Prop}(h:p:=by simp):p:=h
theorem abk{p:Prop}(h:p:=by simp only [Plan.depth]at hfu;omega):p:=h
theorem abl{p:Prop}(h:p:=by show s.length -(i+1)<s.length-i;omega):p:=h
theorem acp{p:Prop}(h:p:=by rw [IntWalk.i64_in _ (by omega)];omega):p:=h
theorem acr{p:Prop}(h:p:=by rfl):p:=h
theorem ac4{p:Prop}(h:p:=by show xs.length -(i+1)<xs.length-i;omega):p:=h
theorem adB{p:Prop}(h:p:=by have:=of_decide_eq_false hge;omega):p:=h
theorem adU{p:Prop}(h:p:=by have:=of_decide_eq_true hlt;omega):p:=h
theorem ad9{p:Prop}(h:p:=by rw [aj];have:qN.length=4:=rfl;omega):p:=h
theorem aec{p:Prop}(h:p:=by show q.length -(i+1)<q.length-i;omega):p:=h
theorem aee{p:Prop}(h:p:=by rw [hO];unfold Fa;exact if_neg (fun h'=>by have:=h'.2.2.2.2 z hm;omega)):p:=h
theorem aej{p:Prop}(h:p:=by show ls.length -(i+1)<ls.length-i;omega):p:=h
theorem aek{p:Prop}(h:p:=by rw [<-hz2]at hzl;simpa using hzl):p:=h
theorem aeu{p:Prop}(h:p:=by rw [hO];unfold Fa;exact if_neg (fun h'=>by have:=h'.2.2.2.1;omega)):p:=h
theorem aev{p:Prop}(h:p:=by simp;omega):p:=h
theorem aey{p:Prop}(h:p:=by show _<=(k:Int)+1∧(k:Int)+1<=_;omega):p:=h
theorem aeA{p:Prop}(h:p:=by have:qN.length=4:=rfl;omega):p:=h
theorem aeE{p:Prop}(h:p:=by rw [aj];omega):p:=h
theorem aeH{p:Prop}(h:p:=by show s.length -(k+1)<s.length-k;omega):p:=h
theorem aeY{p:Prop}(h:p:=by simp only [decide_eq_false_iff_not,gt_iff_lt]at h0;omega):p:=h
theorem aeZ{p:Prop}(h:p:=by rw [aj,hsl];exact hv2):p:=h
theorem ae0{p:Prop}(h:p:=by simp only [decide_eq_true_eq,gt_iff_lt]at h0;omega):p:=h
theorem ae2{p:Prop}(h:p:=by first|omega|(simp only [ln]at *;omega)):p:=h
theorem ae9{p:Prop}(h:p:=by simpa using h2):p:=h
theorem afa{p:Prop}(h:p:=by simp only [maxLen]at hlen;omega):p:=h
theorem agf{p:Prop}(h:p:=by rw [aT,hxn,cO]):p:=h
theorem agt{p:Prop}(h:p:=by unfold okS;omega):p:=h
theorem agA{p:Prop}(h:p:=by simp only [aj];omega):p:=h
theorem agB{p:Prop}(h:p:=by rw [IntWalk.i64_in _ (by simp only;omega)];simp only;omega):p:=h
theorem agC{p:Prop}(h:p:=by rw [hz]):p:=h
theorem agT{p:Prop}(h:p:=by show 4294967296 -(r+Y1)<4294967296-r;omega):p:=h
theorem agU{p:Prop}(h:p:=by simp at h2;omega):p:=h
theorem ag1{p:Prop}(h:p:=by simp at h4;omega):p:=h
theorem ag8{p:Prop}(h:p:=by unfold Ar;rw [Iw hlt h fun j hj=>hno j (by omega) hj]):p:=h
theorem ag9{p:Prop}(h:p:=by show 2 -(0+1)<2-0;decide):p:=h
theorem aha{p:Prop}(h:p:=by show 2 -(1+1)<2-1;decide):p:=h
theorem ahg{p:Prop}(h:p:=by rw [aN];omega):p:=h
theorem ahk{p:Prop}(h:p:=by dsimp only;decide):p:=h
theorem ahl{p:Prop}(h:p:=by rw [hC];unfold yN;rw [if_pos hok];rfl):p:=h
theorem aho{p:Prop}(h:p:=by unfold oM;rw [aj];have:=qR 3 l;omega):p:=h
theorem ahq{p:Prop}(h:p:=by simpa using h3):p:=h
theorem ahr{p:Prop}(h:p:=by simp only [aj,decide_eq_false_iff_not]at h;omega):p:=h
theorem ahs{p:Prop}(h:p:=by show _<256;omega):p:=h
theorem aht{p:Prop}(h:p:=by unfold qK;rw [if_pos harm,hf];exact if_neg h):p:=h
theorem ahD{p:Prop}(h:p:=by unfold qK;rw [if_pos harm,hf];exact if_pos h):p:=h
theorem ahJ{p:Prop}(h:p:=by simp [MapKept.IsKey]):p:=h
theorem ahK{p:Prop}(h:p:=by simp only [aj,decide_eq_true_eq]at h;omega):p:=h
theorem ahL{p:Prop}(h:p:=by rw [hz,ha1,if_neg (by decide)]):p:=h
theorem ahM{p:Prop}(h:p:=by rw [aj]):p:=h
theorem ahN{p:Prop}(h:p:=by unfold yM;rw [if_pos hok];rfl):p:=h
theorem ahO{p:Prop}(h:p:=by rw [Ir];simp;omega):p:=h
theorem ahP{p:Prop}(h:p:=by simpa [mW]using h5):p:=h
theorem ahQ{p:Prop}(h:p:=by show xs.length -(k+1)<xs.length-k;omega):p:=h
theorem ahR{p:Prop}(h:p:=by simp only [decide_eq_true_eq]at h;omega):p:=h
theorem ahS{p:Prop}(h:p:=by cases e<;>first|exact hq|exact hq.elim):p:=h
theorem ahT{p:Prop}(h:p:=by simp [hk]):p:=h
theorem ahU{p:Prop}(h:p:=by rw [Ir];simp [nD]):p:=h
theorem ahV{p:Prop}(h:p:=by simpa using hl):p:=h
theorem ahW{p:Prop}(h:p:=by rw [e];trivial):p:=h
theorem ahX{p:Prop}(h:p:=by unfold Ar;rw [Iy fun j h=>hno j h h]):p:=h
theorem ahY{p:Prop}(h:p:=by rw [hrd]at e;cases e):p:=h
theorem ahZ{p:Prop}(h:p:=by simp at h1;omega):p:=h
theorem ah7{p:Prop}(h:p:=by rw [aj];have:wu.length=2:=rfl;omega):p:=h
theorem ah8{p:Prop}(h:p:=by rw [hrd];simp):p:=h
theorem aia{p:Prop}(h:p:=by simp [hx]):p:=h
theorem aie{p:Prop}(h:p:=by rw [hmx];decide):p:=h
theorem aif{p:Prop}(h:p:=by unfold okW at hwc;omega):p:=h
theorem aii{p:Prop}(h:p:=by unfold okW at hwt;omega):p:=h
theorem ail{p:Prop}(h:p:=by show j -(m+1)<j-i;omega):p:=h
theorem air{p:Prop}(h:p:=by rw [hz,ha1,if_pos rfl]):p:=h
theorem aiM{p:Prop}(h:p:=by rw [xR];exact hi):p:=h
theorem aiN{p:Prop}(h:p:=by rw [xU];exact hi):p:=h
theorem aiY{p:Prop}(h:p:=by rw [h]at hr;cases hr):p:=h
theorem ai7{p:Prop}(h:p:=by show 2<=100000;omega):p:=h
theorem ai8{p:Prop}(h:p:=by show (1:Int)≠2;omega):p:=h
theorem ajf{p:Prop}(h:p:=by rw [hr];simp):p:=h
theorem ajh{p:Prop}(h:p:=by have:wu.length=2:=rfl;omega):p:=h
theorem aji{p:Prop}(h:p:=by rw [hr]at e;cases e):p:=h
theorem ajx{p:Prop}(h:p:=by unfold maxLen at hn;omega):p:=h
theorem ajE{p:Prop}(h:p:=by simp [ownB]):p:=h
theorem ajG{p:Prop}(h:p:=by simp [IntKind.bits];omega):p:=h
theorem ajO{p:Prop}(h:p:=by rw [(hs l hl).2];exact hb):p:=h
theorem ajP{p:Prop}(h:p:=by show name.length<=_;omega):p:=h
theorem ajQ{p:Prop}(h:p:=by show m-i<j-i;omega):p:=h
theorem ajT{p:Prop}(h:p:=by simp [wK,ByteArray.size]):p:=h
theorem ajU{p:Prop}(h:p:=by rw [bJ,aj,hsl];exact hv2):p:=h
theorem ajV{p:Prop}(h:p:=by rw [nP]):p:=h
theorem ajW{p:Prop}(h:p:=by cases h):p:=h
theorem ajY{p:Prop}(h:p:=by unfold yV;rw [hv]):p:=h
theorem akb{p:Prop}(h:p:=by simp at h3;omega):p:=h
theorem akc{p:Prop}(h:p:=by rw [Qx,aN];omega):p:=h
theorem akd{p:Prop}(h:p:=by rw [e.s l hl];exact hb):p:=h
theorem ake{p:Prop}(h:p:=by simpa using hrd):p:=h
theorem akf{p:Prop}(h:p:=by rw [hs l hl];exact hb):p:=h
theorem akg{p:Prop}(h:p:=by unfold UZ;omega):p:=h
theorem akh{p:Prop}(h:p:=by unfold K2I;simp):p:=h
theorem aki{p:Prop}(h:p:=by rw [ay];rfl):p:=h
theorem akj{p:Prop}(h:p:=by rw [aO];exact hbytes):p:=h
theorem akk{p:Prop}(h:p:=by rw [Af];omega):p:=h
theorem akl{p:Prop}(h:p:=by rw [aO];exact hlen):p:=h
theorem akm{p:Prop}(h:p:=by simpa [hi]using hz):p:=h
theorem akn{p:Prop}(h:p:=by rw [h]at e;cases e):p:=h
theorem ako{p:Prop}(h:p:=by rw [iJ]at h;omega):p:=h
theorem akp{p:Prop}(h:p:=by rw [aJ,ah hi];rfl):p:=h
theorem akq{p:Prop}(h:p:=by rw [hk];rfl):p:=h
theorem akr{p:Prop}(h:p:=by clear k;first|omega|(simp only [ln]at *;omega)):p:=h
end Go.Proofs.YtnandbihiceihaaGreatDoor
namespace Go.Proofs.YtnandbihiceihaaGreatDoor
abbrev ah:=@List.getElem?_eq_getElem
abbrev aj:=@List.length_map
abbrev ak:=@Bool.and_eq_true
abbrev au:=@Nat.le_refl
abbrev ay:=@List.length_append
abbrev aA:=@Nat.eq_of_beq_eq_true
abbrev aB:=@List.getElem?_eq_some_iff
abbrev aF:=@Nat.le_of_ble_eq_true
abbrev aG:=@List.take_succ_eq_append_getElem
abbrev aH:=@Nat.zero_le
abbrev aI:=@Option.some.injEq
abbrev aJ:=@List.getElem?_map
abbrev aK:=@List.eq_nil_of_length_eq_zero
abbrev aN:=@List.length_take
abbrev aO:=@Nat.zero_add
abbrev aP:=@Nat.lt_of_lt_of_le
abbrev aS:=@List.map_append
abbrev aT:=@List.getD_eq_getElem?_getD
abbrev aU:=@List.mem_of_getElem?
abbrev aV:=@List.getElem_mem
abbrev aW:=@List.mem_singleton
abbrev aX:=@Bool.false_eq_true
abbrev aZ:=@List.take_length
abbrev bg:=@Nat.mul_le_mul_right
abbrev bn:=@List.length_cons
abbrev bC:=@List.mem_append
abbrev bD:=@Option.map_some
abbrev bF:=@Array.getElem?_toList
abbrev bG:=@Nat.le_trans
abbrev bH:=@List.getElem?_take
abbrev bI:=@List.mem_cons
abbrev bJ:=@List.length_set
abbrev bK:=@Nat.add_mul
abbrev bM:=@Nat.eq_zero_or_pos
abbrev bP:=@List.all_eq_true
abbrev bQ:=@List.mem_of_mem_take
abbrev bT:=@Bool.not_false
abbrev bU:=@List.length_drop
abbrev bV:=@Bool.not_eq_eq_eq_not
abbrev bW:=@List.append_assoc
abbrev bY:=@Bool.not_true
abbrev bZ:=@List.getElem?_cons_zero
abbrev cu:=@List.mem_iff_getElem?
abbrev cO:=@Option.getD_some
abbrev cZ:=@List.take_append_drop
abbrev dh:=@List.getElem?_set_self
abbrev dw:=@List.mem_cons_self
abbrev dA:=@Bool.not_eq_false'
abbrev dB:=@Bool.true_eq_false
abbrev dD:=@Bool.not_eq_true'
abbrev dF:=@List.map_set
abbrev dG:=@Array.getElem?_eq_some_iff
abbrev dH:=@List.drop_eq_getElem_cons
abbrev dI:=@List.nil_append
abbrev dJ:=@List.length_filter_le
abbrev dK:=@Int.toNat_natCast
abbrev dL:=@Nat.mod_eq_of_lt
abbrev dM:=@List.mem_of_mem_drop
abbrev dN:=@List.getElem?_eq_none
abbrev dO:=@List.getElem?_drop
abbrev dP:=@List.length_nil
abbrev dQ:=@Nat.not_lt_zero
abbrev dR:=@List.take_of_length_le
abbrev dS:=@List.getElem?_append_right
abbrev dU:=@List.mem_cons_of_mem
abbrev dV:=@Nat.add_zero
abbrev dW:=@List.mem_map
abbrev dX:=@List.length_replicate
abbrev dY:=@Nat.one_mul
abbrev dZ:=@Nat.mul_one
abbrev eu:=@List.ext_getElem?
abbrev eG:=@Nat.lt_or_ge
abbrev eP:=@List.getElem?_append_left
abbrev eU:=@Option.bind_some
abbrev eX:=@Decidable.not_not
abbrev eY:=@List.pairwise_cons
abbrev fA:=@List.mem_filter
abbrev fC:=@Nat.min_eq_left
abbrev fD:=@List.getElem?_cons_succ
abbrev fE:=@Nat.zero_lt_succ
abbrev fF:=@Nat.add_assoc
abbrev fG:=@Prod.mk.injEq
abbrev fJ:=@List.foldl_append
abbrev fK:=@List.replicate_succ
abbrev fM:=@Int.not_lt
abbrev fO:=@Nat.mod_lt
abbrev fP:=@List.getElem?_set_ne
abbrev fQ:=@List.filter_append
abbrev fU:=@Nat.zero_mul
abbrev fV:=@Array.getElem?_eq_none
abbrev fZ:=@List.mem_or_eq_of_mem_set
abbrev gq:=@Bool.false_and
abbrev gu:=@List.cons_append
abbrev gy:=@List.getElem?_replicate
abbrev gB:=@Array.getD_eq_getD_getElem?
abbrev gG:=@Nat.mul_comm
abbrev gI:=@Array.toList_push
abbrev gJ:=@List.foldl_cons
abbrev gK:=@List.append_nil
abbrev gQ:=@Nat.div_le_self
abbrev gU:=@Array.getElem?_setIfInBounds_ne
abbrev gV:=@Classical.byContradiction
abbrev gW:=@List.map_cons
abbrev gX:=@Bool.true_and
abbrev gY:=@Int.mul_le_mul_of_nonneg_left
abbrev gZ:=@List.flatten_cons
abbrev ig:=@List.getElem?_range
abbrev iq:=@List.length_take_le
abbrev iw:=@List.map_take
abbrev iy:=@Int.fdiv_eq_ediv_of_nonneg
abbrev iC:=@Option.isSome_none
abbrev iD:=@List.map_replicate
abbrev iE:=@Array.getElem?_modify
abbrev iG:=@List.find?_cons
abbrev iH:=@Array.toArray_toList
abbrev iI:=@Nat.beq_refl
abbrev iJ:=@Nat.pow_succ
abbrev iK:=@List.mem_append_left
abbrev iL:=@List.not_mem_nil
abbrev iM:=@List.take_zero
abbrev iO:=@List.drop_length
abbrev iP:=@Option.getD_none
abbrev iQ:=@Nat.succ_lt_succ
abbrev iR:=@List.zip_cons_cons
abbrev iT:=@Nat.sub_self
abbrev iU:=@List.drop_of_length_le
abbrev iV:=@BitVec.toNat_ofNat
abbrev iW:=@Nat.lt_of_le_of_lt
abbrev iY:=@Option.isSome_some
abbrev iZ:=@List.dropLast_concat_getLast
abbrev jc:=@Array.getElem?_append
abbrev jd:=@List.set_append_right
abbrev je:=@List.countP_singleton
abbrev jf:=@List.flatMap_cons
abbrev jg:=@Array.ext'
abbrev jh:=@List.range_eq_range'
abbrev ji:=@List.drop_zero
abbrev jk:=@List.getElem?_of_mem
abbrev jl:=@Int.tdiv_eq_ediv_of_nonneg
abbrev jm:=@Nat.lt_succ_self
abbrev jo:=@Array.mapM_eq_mapM_toList
abbrev jq:=@List.pairwise_iff_getElem
abbrev jr:=@List.getElem_of_mem
abbrev jv:=@Nat.lt_irrefl
abbrev jw:=@List.map_drop
abbrev jy:=@Bool.or_eq_true
abbrev jA:=@Bool.eq_iff_iff
abbrev jB:=@List.range_succ
abbrev jC:=@List.drop_left'
abbrev jD:=@List.take_left'
abbrev jE:=@List.getElem_range
abbrev jF:=@Nat.add_sub_cancel
abbrev jG:=@List.countP_append
abbrev jH:=@List.findIdx?_eq_some_iff_getElem
abbrev jI:=@Nat.le_of_eq
abbrev jJ:=@List.getElem?_set
abbrev jK:=@Nat.sub_zero
abbrev jL:=@Nat.ble_eq_true_of_le
abbrev jM:=@List.range'_succ
abbrev jO:=@Bool.false_or
abbrev jP:=@Nat.mul_pos
abbrev jQ:=@Nat.pow_le_pow_right
abbrev jR:=@Int.natCast_mul
abbrev jS:=@Option.map_none
abbrev jT:=@Option.some.inj
abbrev jU:=@Nat.zero_lt_one
abbrev jV:=@List.map_congr_left
abbrev jW:=@Int.zero_add
abbrev jX:=@Array.getElem?_eq_getElem
abbrev jY:=@List.findIdx?_eq_none_iff
abbrev jZ:=@Int.natAbs_tdiv_le_natAbs
abbrev ku:=@List.length_range
abbrev kC:=@Nat.lt_trichotomy
abbrev kD:=@Nat.or_lt_two_pow
abbrev kE:=@Nat.pow_add
abbrev kF:=@List.getElem_take
abbrev kG:=@Int.le_refl
abbrev kH:=@List.take_add_one
abbrev kJ:=@Array.setIfInBounds_comm
abbrev kK:=@Array.getElem?_replicate
abbrev kL:=@List.getElem?_take_of_lt
abbrev kM:=@Bool.eq_false_or_eq_true
abbrev kN:=@Int.mul_assoc
abbrev kP:=@Nat.le_of_not_lt
abbrev kQ:=@List.foldlM_cons
abbrev kR:=@List.pairwise_singleton
abbrev kS:=@List.map_nil
abbrev kT:=@List.drop_eq_nil_of_le
abbrev kU:=@Int.ofNat_lt
abbrev kV:=@Nat.div_add_mod
abbrev kW:=@Nat.div_lt_iff_lt_mul
abbrev kX:=@List.getElem?_toArray
abbrev kY:=@List.countP_le_length
abbrev kZ:=@List.mem_range
abbrev lg:=@List.take_take
abbrev lq:=@List.drop_take
abbrev lu:=@Nat.mul_le_mul
abbrev lC:=@Int.mul_nonneg
abbrev lD:=@Ne.symm
abbrev lF:=@Nat.or_assoc
abbrev lG:=@Int.le_trans
end Go.Proofs.YtnandbihiceihaaGreatDoor
namespace Go.Proofs.YtnandbihiceihaaGreatDoor.Vc
open Go.RowKit
abbrev mG:=Nat->Value
def upd (ρ:mG)(d:Nat)(v:Value):mG:=fun n=>bif Nat.beq n d then v else ρ n
def oN (ρ:mG)(d:Option Nat)(v:Value):mG:=match d with|some d=>upd ρ d v|none=>ρ
def qC (ρ:mG)(x:Operand):Value:=
 match x with
 | .tmp t=>ρ t
 | .const v=>v
 | .global g=> .pointer (some ⟨g,0,none⟩)
 | .func f=> .func (.func f) #[] #[]
structure Fits (N:Nat)(ds:List Deferred)(ρ:mG)(a:Act):Prop where
 size:a.tmps.size=N
 get : ∀t,a.tmps.getD t undef=ρ t
 defers:a.defers=ds
theorem Fits.eval {N:Nat}{ds:List Deferred}{ρ:mG}{a:Act}(h:Fits N ds ρ a):a.eval=qC ρ:=by
 funext x
 cases x with
 | tmp t=>exact h.get t
 | _=>rfl
theorem Fits.put {N:Nat}{ds:List Deferred}{ρ:mG}{a:Act}(h:Fits N ds ρ a)(d:Option Nat)(v:Value)(hd : ∀t,d=some t->t<N) :
  Fits N ds (oN ρ d v) (a.put d v):=by
 cases d with
 | none=>exact h
 | some t=>
  refine⟨by simp [Act.put,h.size],fun s=> ?_,by simp [Act.put,h.defers]⟩
  have ht:t<a.tmps.size:=by rw [h.size];exact hd t rfl
  by_cases hs:s=t
  ·subst hs
   simp [Act.put,oN,upd,ht]
  ·have hb:Nat.beq s t=false:=by
    cases hb:Nat.beq s t with
    | false=>rfl
    | true=>exact absurd (aA hb) hs
   have h1:=h.get s
   have hst:t≠s:=fun e=>hs e.symm
   simp only [Act.put,oN,upd,hb,cond_false]
   rw [<-h1]
   simp [gU hst]
structure nM (P:Program)(s:Sem Value)(w:World)(K:Value->World->Prop):Prop where
 ex : ∃v w',s.run P w = .ok v w'∧K v w'
structure vG (P:Program)(s:Sem Unit)(w:World)(K:World->Prop):Prop where
 ex : ∃u w',s.run P w = .ok u w'∧K w'
def callable (P:Program)(f:FuncId):Bool:=
 match P.funcs[f]? with
 | some fn=> !(fn.name== "runtime.NumGoroutine")&&fn.body.isSome
 | none=>false
structure WM (P:Program)(f:FuncId)(args:Array Value)(w:World)(K:Value->World->Prop):Prop where
 un:(callable P f=true∧Calls P f args w fun e w'=> ∃v,e = .returned v∧K v w')∨∃v,(callFunc f args).run P w = .ok (.value v) w∧K v w
structure lW (p k:Prop):Prop where
 req:p
 go:k
structure nO (p k:Prop):Prop where
 req:p
 go:k
def wr (q:Bool)(w:World)(K:Value->World->Prop):Value->World->Prop:=
 match q with
 | true=>fun v w'=>nO (w'=w) (K v w')
 | false=>K
def Ku (b:Bool)(t e:Prop):Prop:=match b with|true=>t|false=>e
theorem lH {b:Bool}{t e:Prop}(ht:b=true->t)(he:b=false->e):Ku b t e:=by
 cases b
 ·exact he rfl
 ·exact ht rfl
theorem F8 {b:Bool}{t e:Prop}(hb:b=true)(ht:t):Ku b t e:=by subst hb;exact ht
theorem zL {b:Bool}{t e:Prop}(hb:b=false)(ht:e):Ku b t e:=by subst hb;exact ht
def force (v:Value)(k:Value->Prop):Prop:=
 match v with
 | .bool b=>k (.bool b)
 | .int q n=>k (.int q n)
 | .float q n=>k (.float q n)
 | .complex q a b=>k (.complex q a b)
 | .string s=>k (.string s)
 | .pointer a=>k (.pointer a)
 | .slice a n c=>k (.slice a n c)
 | .map r=>k (.map r)
 | .chan r=>k (.chan r)
 | .func f a b=>k (.func f a b)
 | .nilFunc=>k .nilFunc
 | .iface t v=>k (.iface t v)
 | .nilIface=>k .nilIface
 | .agg cs=>k (.agg cs)
 | .tuple vs=>k (.tuple vs)
theorem force_eq (v:Value)(k:Value->Prop):force v k=k v:=by cases v<;>rfl
def wR (l:List Value)(k:List Value->Prop):Prop:=
 match l with
 | []=>k []
 | x::r=>force x fun x'=>wR r fun r'=>k (x'::r')
theorem nU (l:List Value) : ∀k:List Value->Prop,wR l k=k l:=by
 induction l with
 | nil=>intro k;rfl
 | cons x r ih=>intro k;simp only [wR,force_eq,ih]
def Aw (v:Option Value)(k:Option Value->Prop):Prop:=
 match v with
 | some v=>force v fun v'=>k (some v')
 | none=>k none
theorem Dx (v:Option Value)(k:Option Value->Prop):Aw v k=k v:=by cases v<;>simp [Aw,force_eq]
def nV (op:BinOp)(k:IntKind)(a b:Int):Int:=
 match op with
 | .and=>k.wrap (BitVec.ofInt k.bits a &&& BitVec.ofInt k.bits b).toNat
 | .or=>k.wrap (BitVec.ofInt k.bits a ||| BitVec.ofInt k.bits b).toNat
 | .xor=>k.wrap (BitVec.ofInt k.bits a ^^^ BitVec.ofInt k.bits b).toNat
 | _=>k.wrap (BitVec.ofInt k.bits a &&& ~~~(BitVec.ofInt k.bits b)).toNat
def Qz (op:BinOp)(k:IntKind)(a b:Int)(w:World)(K:Value->World->Prop):Prop:=
 match op with
 | .add=>K (.int k (k.wrap (a+b))) w
 | .sub=>K (.int k (k.wrap (a-b))) w
 | .mul=>K (.int k (k.wrap (a*b))) w
 | .quo=>lW (b≠0) (K (.int k (k.wrap (a.tdiv b))) w)
 | .rem=>lW (b≠0) (K (.int k (a.tmod b)) w)
 | .and=>K (.int k (nV .and k a b)) w
 | .or=>K (.int k (nV .or k a b)) w
 | .xor=>K (.int k (nV .xor k a b)) w
 | .andNot=>K (.int k (nV .andNot k a b)) w
 | .shl=>lW (0<=b) (K (.int k (k.wrap (a*2^min b.toNat k.bits))) w)
 | .shr=>lW (0<=b) (K (.int k (a.fdiv (2^min b.toNat k.bits))) w)
 | .eql=>K (.bool (a==b)) w
 | .neq=>K (.bool (a != b)) w
 | .lss=>K (.bool (decide (a<b))) w
 | .leq=>K (.bool (decide (a<=b))) w
 | .gtr=>K (.bool (decide (a>b))) w
 | .geq=>K (.bool (decide (a≥b))) w
def uN (a b:ByteArray):Bool:=a.toList==b.toList
def BA (a b:ByteArray):Bool:=Op.bytesLess a.toList b.toList
def vH (a b:ByteArray):ByteArray:=bif BA a b||uN a b then a else b
def uH (a b:ByteArray):ByteArray:=bif !BA a b then a else b
def aaS (op:BinOp)(a b:ByteArray)(w:World)(K:Value->World->Prop):Prop:=
 match op with
 | .add=>lW (((a.size+b.size:Nat):Int)<=IntKind.i64.max) (K (.string (a++b)) w)
 | .eql=>K (.bool (uN a b)) w
 | .neq=>K (.bool (!uN a b)) w
 | .lss=>K (.bool (BA a b)) w
 | .leq=>K (.bool (BA a b||uN a b)) w
 | .gtr=>K (.bool (!(BA a b||uN a b))) w
 | .geq=>K (.bool (!BA a b)) w
 | _=>False
def Dy (P:Program)(q:Bool)(op:BinOp)(t:TypeId)(x y:Operand)(a b:Value)(w:World)(K:Value->World->Prop):Prop:=
 match a,b with
 | .int k m, .int k' n=>(match op with
  | .shl=>Qz .shl k m n w K
  | .shr=>Qz .shr k m n w K
  | op=>bif decide (k=k')then Qz op k m n w K else False)
 | .string m, .string n=>aaS op m n w K
 | .bool m, .bool n=>(match op with
  | .eql=>(match P.underlying t with|some .bool=>K (.bool (m==n)) w|_=>False)
  | .neq=>(match P.underlying t with|some .bool=>K (.bool (!(m==n))) w|_=>False)
  | _=>False)
 | a,b=>nM P (do eqGuard op t x y a b;binOp op t a b) w (wr q w K)
def vUn (P:Program)(q:Bool)(op:UnOp)(a:Value)(w:World)(K:Value->World->Prop):Prop:=
 match op,a with
 | .not, .bool b=>K (.bool (!b)) w
 | .neg, .int k n=>K (.int k (k.wrap (0-n))) w
 | op,a=>nM P (Op.unary op a) w (wr q w K)
def Ap (P:Program)(q:Bool)(src dst:TypeId)(a:Value)(w:World)(K:Value->World->Prop):Prop:=
 match P.underlying src,P.underlying dst,a with
 | some _,some (.int k), .int _ n=>K (.int k (k.wrap n)) w
 | some (.string),some .string, .string s=>K (.string s) w
 | _,_,a=>nM P (convert src dst a) w (wr q w K)
def yg (P:Program)(t:TypeId):Option Bool:=
 match P.underlying t with
 | some (.struct _)=>some true
 | some (.array _ _)=>some true
 | some _=>some false
 | none=>none
def Dz (P:Program)(t:TypeId)(cs:Array Value)(f:Nat)(w:World)(K:Value->World->Prop):Prop:=
 match P.underlying t with
 | some (.struct fs)=>(match fs.toList[f]? with
  | some fd=>(match yg P fd.type,P.info? fd.type with
   | some true,some i=>wR ((cs.toList.drop fd.offset).take i.size) fun l=>K (.agg l.toArray) w
   | some false,some _=>(match cs.toList[fd.offset]? with
    | some v=>K v w
    | none=>False)
   | _,_=>False)
  | none=>False)
 | _=>False
def vI (P:Program)(t:TypeId)(a:Addr)(f:Nat)(w:World)(K:Value->World->Prop):Prop:=
 match P.underlying t with
 | some (.struct fs)=>(match fs.toList[f]? with
  | some fd=>(match P.info? fd.type with
   | some i=>bif Nat.beq i.size 0 then False else K (.pointer (some (a.add fd.offset))) w
   | none=>False)
  | none=>False)
 | _=>False
def uh (cells:List Value)(off:Nat)(vs:List Value):List Value:=
 match vs with
 | []=>cells
 | c::r=>uh (cells.set off c) (off+1) r
def yO (place:Nat->Option (Nat×Nat))(cells:List Value)(parts:List (Nat×Value)):Option (List Value):=
 match parts with
 | []=>some cells
 | (i,v)::rest=>(match place i with
  | none=>none
  | some (off,size)=>bif Nat.beq v.cells.toList.length size&&Nat.ble (off+v.cells.toList.length) cells.length then yO place (uh cells off v.cells.toList) rest else none)
def zM (P:Program)(fs:List Field):Option (List (Nat×Nat)):=
 match fs with
 | []=>some []
 | f::r=>(match P.info? f.type,zM P r with
  | some i,some l=>some ((f.offset,i.size)::l)
  | _,_=>none)
def DC (P:Program)(t:TypeId)(parts:List (Nat×Value))(w:World)(K:Value->World->Prop):Prop:=
 match (P.info? t).bind (·.zero),P.underlying t with
 | some z,some (.struct fs)=>(match zM P fs.toList with
  | some pl=>(match yO (fun i=>pl[i]?) z.cells.toList parts with
   | some l=>wR l fun l=>K (.agg l.toArray) w
   | none=>False)
  | none=>False)
 | some z,some (.array _ e)=>(match P.info? e with
  | some i=>(match yO (fun j=>some (j*i.size,i.size)) z.cells.toList parts with
   | some l=>wR l fun l=>K (.agg l.toArray) w
   | none=>False)
  | none=>False)
 | _,_=>False
def uj (P:Program)(t:TypeId)(n:Nat)(parts:List (Nat×Value))(w:World)(K:Value->World->Prop):Prop:=
 match P.underlying t with
 | some (.slice e)=>(match P.info? e with
  | some i=>(match i.zero with
   | some z=>bif Nat.beq z.cells.toList.length i.size&&Nat.ble 1 i.size&&Nat.ble (n*i.size) 16777216 then
     (match yO (fun j=>some (j*i.size,i.size)) (List.replicate n z.cells.toList).flatten parts with
     | some l=>wR l fun l=>K (.slice (some ⟨w.heap.size,0,none⟩) n n) (w.alloc (.cells l.toArray e))
     | none=>False)else False
   | none=>False)
  | none=>False)
 | _=>False
def vJ (ρ:mG)(xs:List Operand)(k:List Value->Prop):Prop:=wR (xs.map (qC ρ)) k
def DF (P:Program)(q:Bool)(t ty:TypeId)(a:Value)(w:World)(K:Value->World->Prop):Prop:=
 match P.underlying t,a with
 | some .string, .string s=>K (.int .i64 s.size) w
 | some (.slice _), .slice _ n _=>K (.int .i64 n) w
 | some (.array n _),_=>K (.int .i64 n) w
 | _,a=>nM P (Builtin.len_ #[t] ty #[a]) w (wr q w K)
def Az (P:Program)(q:Bool)(b:Builtin)(ts:List TypeId)(ty:TypeId)(args:List Value)(w:World)(K:Value->World->Prop):Prop:=
 match b,ts,args with
 | .len,[t],[a]=>DF P q t ty a w K
 | .min,_,[.int k x, .int _ y]=>K (.int k (min x y)) w
 | .max,_,[.int k x, .int _ y]=>K (.int k (max x y)) w
 | .min,_,[.string x, .string y]=>K (.string (vH x y)) w
 | .max,_,[.string x, .string y]=>K (.string (uH x y)) w
 | .append,ts,args=>nM P (Builtin.append_ ts.toArray ty args.toArray) w (wr q w K)
 | .copy,ts,args=>nM P (Builtin.copy_ ts.toArray ty args.toArray) w (wr q w K)
 | .min,ts,args=>nM P (Builtin.min_ ts.toArray ty args.toArray) w (wr q w K)
 | .max,ts,args=>nM P (Builtin.max_ ts.toArray ty args.toArray) w (wr q w K)
 | .len,ts,args=>nM P (Builtin.len_ ts.toArray ty args.toArray) w (wr q w K)
 | .cap,ts,args=>nM P (Builtin.cap_ ts.toArray ty args.toArray) w (wr q w K)
 | .delete,ts,args=>nM P (Builtin.delete_ ts.toArray ty args.toArray) w (wr q w K)
 | .clear,ts,args=>nM P (Builtin.clear_ ts.toArray ty args.toArray) w (wr q w K)
 | _,_,_=>False
def Eo (P:Program)(q:Bool)(ρ:mG)(c:Call)(ty:TypeId)(w:World)(K:Value->World->Prop):Prop:=
 match c.callee with
 | .builtin b=>vJ ρ c.args.toList fun args=>Az P q b c.argTypes.toList ty args w K
 | .value f=>(match qC ρ f with
  | .func (.func g) first captured=>vJ ρ c.args.toList fun args=>WM P g ((first++args.toArray)++captured) w K
  | _=>False)
 | .invoke _ _=>False
def F9 (P:Program)(q:Bool)(o:Oper)(ρ:mG)(w:World)(K:Value->World->Prop):Prop:=
 match o.op with
 | .move x=>force (qC ρ x) fun v=>K v w
 | .assign x=>force (qC ρ x) fun v=>K v w
 | .pick c a b=>(match qC ρ c with
  | .bool t=>(match qC ρ a,qC ρ b with
   | .bool x, .bool y=>K (.bool (bif t then x else y)) w
   | _,_=>Ku t (K (qC ρ a) w) (K (qC ρ b) w))
  | _=>False)
 | .alloc elem=>(match (P.info? elem).bind (·.zero)with
  | some (.agg cs)=>K (.pointer (some ⟨w.heap.size,0,none⟩)) (w.alloc (.cells cs elem))
  | some z=>K (.pointer (some ⟨w.heap.size,0,none⟩)) (w.alloc (.cells z.cells elem))
  | none=>False)
 | .box elem x=>force (qC ρ x) fun v=>(match v with
  | .agg cs=>K (.pointer (some ⟨w.heap.size,0,none⟩)) (w.alloc (.cells cs elem))
  | v=>K (.pointer (some ⟨w.heap.size,0,none⟩)) (w.alloc (.cells v.cells elem)))
 | .build t parts=>wR (parts.toList.map fun p=>qC ρ p.2) fun vs=>DC P t ((parts.toList.map (·.1)).zip vs) w K
 | .buildSlice t n parts=>wR (parts.toList.map fun p=>qC ρ p.2) fun vs=>uj P t n ((parts.toList.map (·.1)).zip vs) w K
 | .load t a=>(match qC ρ a with
  | .pointer (some a)=>nM P (loadVar t a) w (wr q w K)
  | _=>False)
 | .store t a x=>(match qC ρ a with
  | .pointer (some a)=>force (qC ρ x) fun v=>vG P (storeVar t a v) w fun w'=>K undef w'
  | _=>False)
 | .nilCheck x=>(match qC ρ x with
  | .pointer (some a)=>K (.pointer (some a)) w
  | _=>False)
 | .binOp op t x y _=>Dy P q op t x y (qC ρ x) (qC ρ y) w K
 | .unOp op _ x=>vUn P q op (qC ρ x) w K
 | .convert src dst x=>Ap P q src dst (qC ρ x) w K
 | .makeFunc fn first captured=>vJ ρ first.toList fun a=>vJ ρ captured.toList fun b=>K (.func fn a.toArray b.toArray) w
 | .makeMap t r=>Aw (r.map (qC ρ)) fun r=>nM P (Instr.makeMap t r) w (wr q w K)
 | .makeSlice t l c=>force (qC ρ l) fun l=>force (qC ρ c) fun c=>nM P (Instr.makeSlice t l c) w (wr q w K)
 | .slice t x lo hi mx=>force (qC ρ x) fun x=>Aw (lo.map (qC ρ)) fun lo=>Aw (hi.map (qC ρ)) fun hi=>Aw (mx.map (qC ρ)) fun mx=>
   nM P (Instr.sliceAt t x lo hi mx) w (wr q w K)
 | .fieldAddr s x f=>(match qC ρ x with
  | .pointer (some a)=>vI P s a f w K
  | _=>False)
 | .field t x f=>(match qC ρ x with
  | .agg cs=>Dz P t cs f w K
  | _=>False)
 | .indexAddr t x i=>force (qC ρ x) fun x=>force (qC ρ i) fun i=>nM P (Instr.indexAt t x i) w (wr q w K)
 | .index t x i=>force (qC ρ x) fun x=>force (qC ρ i) fun i=>nM P (Instr.index t x i) w (wr q w K)
 | .lookup t x i ok=>force (qC ρ x) fun x=>force (qC ρ i) fun i=>nM P (Instr.lookup t x i ok) w (wr q w K)
 | .mapUpdate t m k x=>force (qC ρ m) fun m=>force (qC ρ k) fun k=>force (qC ρ x) fun x=>vG P (Instr.mapUpdate t m k x) w fun w'=>K undef w'
 | .insert t m k x=>force (qC ρ m) fun m=>force (qC ρ k) fun k=>force (qC ρ x) fun x=>vG P (Instr.mapUpdate t m k x) w fun w'=>K undef w'
 | .range t x=>force (qC ρ x) fun x=>nM P (Instr.range t x) w (wr q w K)
 | .next it s=>force (qC ρ it) fun it=>nM P (Instr.next it s o.type) w (wr q w K)
 | .entry it=>force (qC ρ it) fun it=>nM P (Instr.entry it) w (wr q w K)
 | .extract t i=>(match qC ρ t with
  | .tuple vs=>(match vs.toList[i]? with
   | some v=>K v w
   | none=>False)
  | _=>False)
 | .call c=>Eo P q ρ c o.type w K
 | _=>False
theorem Oper.ah0 {P:Program}{o:Oper}{a:Act}{w:World}{next:Act->World->Prop}{Q:Exit->Act->World->Prop}{v:Value}{w':World}
  (h:(execOp a.eval o).run P w = .ok (.value v) w') (k:next (a.put o.dst v) w'):o.wp P a w next Q:=by
 unfold Oper.wp;rw [h];exact k
theorem Oper.QA {P:Program}{o:Oper}{a:Act}{w:World}{next:Act->World->Prop}{Q:Exit->Act->World->Prop}{w':World}
  (h:(execOp a.eval o).run P w = .ok .skip w') (k:next (a.put o.dst undef) w'):o.wp P a w next Q:=by
 unfold Oper.wp;rw [h];exact k
def pG (o:Oper):Bool:=
 match o.op with
 | .move _ | .assign _ | .pick _ _ _ | .nilCheck _ | .binOp _ _ _ _ _ | .unOp _ _ _ | .convert _ _ _ | .fieldAddr _ _ _ | .field _ _ _
 | .indexAddr _ _ _ | .index _ _ _ | .slice _ _ _ _ _ | .lookup _ _ _ _ | .extract _ _ | .makeFunc _ _ _ | .load _ _ | .build _ _=>true
 | .call c=>(match c.callee with
  | .builtin .len=>true
  | .builtin .min=>true
  | .builtin .max=>true
  | .builtin .cap=>true
  | _=>false)
 | _=>false
def BG (o:Oper):Bool:=
 match o.op with
 | .move _ | .assign _ | .extract _ _ | .makeFunc _ _ _ | .nilCheck _=>true
 | _=>false
def Did (P:Program)(q:Bool)(o:Oper)(ρ:mG)(w:World)(K:Value->World->Prop):Prop:=
 (∃v w',(execOp (qC ρ) o).run P w = .ok (.value v) w'∧K v w'∧(q=true->pG o=true->w'=w))∨
 (∃w',(execOp (qC ρ) o).run P w = .ok .skip w'∧K undef w'∧pG o=false)∨
 (∃f args,(execOp (qC ρ) o).run P w = .ok (.enter f args) w∧pG o=false∧Calls P f args w fun e w'=> ∃v,e = .returned v∧K v w')
theorem Did.wp {P:Program}{q:Bool}{o:Oper}{ρ:mG}{a:Act}{w:World}{K:Value->World->Prop}{next:Act->World->Prop}{Q:Exit->Act->World->Prop}
  (he:a.eval=qC ρ) (h:Did P q o ρ w K) (hk : ∀v w',K v w'->next (a.put o.dst v) w'):o.wp P a w next Q:=by
 rcases h with ⟨v,w',hr,k,_⟩|⟨w',hr,k,_⟩|⟨f,args,hr,_,hc⟩
 ·exact Oper.ah0 (he▸hr) (hk _ _ k)
 ·exact Oper.QA (he▸hr) (hk _ _ k)
 ·unfold Oper.wp
  rw [he,hr]
  exact hc.mono fun e w' ⟨v,hv,k⟩=>by subst hv;exact hk _ _ k
theorem Did.quiet {P:Program}{o:Oper}{ρ:mG}{w:World}{K:Value->World->Prop}(hq:pG o=true)(h:Did P true o ρ w K) :
  ∃v,(execOp (qC ρ) o).run P w = .ok (.value v) w∧K v w:=by
 rcases h with ⟨v,w',hr,k,he⟩|⟨w',hr,k,he⟩|⟨f,args,hr,he,hc⟩
 ·have:=he rfl hq
  subst this
  exact⟨v,hr,k⟩
 ·rw [hq]at he;cases he
 ·rw [hq]at he;cases he
theorem l7 {P:Program}{t:TypeId}{d:TypeDesc}{w:World}(h:P.underlying t=some d):(underlying t).run P w = .ok d w:=by
 unfold underlying
 simp [h]
theorem rZ {P:Program}{t:TypeId}{i:TypeInfo}{w:World}(h:P.info? t=some i):(typeInfo t).run P w = .ok i w:=by
 unfold typeInfo
 simp [h]
theorem ny {P:Program}{o:Oper}{ρ:mG}{w:World}{K:Value->World->Prop}{q:Bool}{v:Value}{w':World}
  (h:(execOp (qC ρ) o).run P w = .ok (.value v) w') (k:K v w') (hq:q=true->pG o=true->w'=w):Did P q o ρ w K:= .inl ⟨v,w',h,k,hq⟩
theorem ah1 {q:Bool}{w w':World}{K:Value->World->Prop}{v:Value}(h:wr q w K v w'):K v w':=by
 cases q with
 | false=>exact h
 | true=>exact h.go
theorem nM.un {P:Program}{s:Sem Value}{q:Bool}{w:World}{K:Value->World->Prop}(h:nM P s w (wr q w K)) :
  ∃v w',s.run P w = .ok v w'∧K v w'∧(q=true->w'=w):=
 let ⟨v,w',hr,hk⟩:=h.ex
 ⟨v,w',hr,ah1 hk,fun e=>by subst e;exact hk.req⟩
theorem nM.same {P:Program}{s:Sem Value}{w:World}{K:Value->World->Prop}(h:nM P s w (wr true w K)) :
  ∃v,s.run P w = .ok v w∧K v w:=
 let ⟨v,w',hr,hk⟩:=h.ex
 ⟨v,by have:=hk.req;subst this;exact⟨hr,hk.go⟩⟩
theorem vG.un {P:Program}{s:Sem Unit}{w:World}{K:World->Prop}(h:vG P s w K) : ∃u w',s.run P w = .ok u w'∧K w':=h.ex
theorem tq {P:Program}{s:Sem Value}{w w':World}{v:Value}(h:s.run P w = .ok v w') :
  (do pure (Next.value (<-s)):Sem Next).run P w = .ok (.value v) w':=by
 simp [h]
theorem WO {P:Program}{s:Sem Unit}{w w':World}{u:Unit}(h:s.run P w = .ok u w') :
  (do s;pure Next.skip:Sem Next).run P w = .ok .skip w':=by
 simp [h]
theorem WQ {P:Program}{op:BinOp}{t:TypeId}{x y:Operand}{k:IntKind}{m n:Int}{w:World}{K:Value->World->Prop}
  (h:Qz op k m n w K) : ∃v,(do eqGuard op t x y (.int k m) (.int k n);binOp op t (.int k m) (.int k n):Sem Value).run P w = .ok v w∧K v w:=by
 have hg:(eqGuard op t x y (.int k m) (.int k n)).run P w = .ok () w:=by
  cases op<;>simp [eqGuard]
 cases op<;>simp only [Qz]at h
 case add=>exact⟨_,by rw [Sem.run_bind,hg];simp [binOp,Op.intArith],h⟩
 case sub=>exact⟨_,by rw [Sem.run_bind,hg];simp [binOp,Op.intArith],h⟩
 case mul=>exact⟨_,by rw [Sem.run_bind,hg];simp [binOp,Op.intArith],h⟩
 case quo=>exact⟨_,by rw [Sem.run_bind,hg];simp [binOp,Op.intDiv,h.req],h.go⟩
 case rem=>exact⟨_,by rw [Sem.run_bind,hg];simp [binOp,Op.intDiv,h.req],h.go⟩
 case and=>exact⟨_,by rw [Sem.run_bind,hg];simp [binOp,Op.intBits,nV],h⟩
 case or=>exact⟨_,by rw [Sem.run_bind,hg];simp [binOp,Op.intBits,nV],h⟩
 case xor=>exact⟨_,by rw [Sem.run_bind,hg];simp [binOp,Op.intBits,nV],h⟩
 case andNot=>exact⟨_,by rw [Sem.run_bind,hg];simp [binOp,Op.intBits,nV],h⟩
 case shl=>exact⟨_,by rw [Sem.run_bind,hg];simp [binOp,Op.shift,fM.2 h.req],h.go⟩
 case shr=>exact⟨_,by rw [Sem.run_bind,hg];simp [binOp,Op.shift,fM.2 h.req],h.go⟩
 case eql=>exact⟨_,by rw [Sem.run_bind,hg];simp [binOp,Op.intCmp],h⟩
 case neq=>exact⟨_,by rw [Sem.run_bind,hg];simp [binOp,Op.intCmp],h⟩
 case lss=>exact⟨_,by rw [Sem.run_bind,hg];simp [binOp,Op.intCmp],h⟩
 case leq=>exact⟨_,by rw [Sem.run_bind,hg];simp [binOp,Op.intCmp],h⟩
 case gtr=>exact⟨_,by rw [Sem.run_bind,hg];simp [binOp,Op.intCmp],h⟩
 case geq=>exact⟨_,by rw [Sem.run_bind,hg];simp [binOp,Op.intCmp],h⟩
theorem Gf {P:Program}{op:BinOp}{t:TypeId}{x y:Operand}{k k':IntKind}{m n:Int}{w:World}{K:Value->World->Prop}
  (ho:op = .shl∨op = .shr) (h:Qz op k m n w K) : ∃v,(do eqGuard op t x y (.int k m) (.int k' n);binOp op t (.int k m) (.int k' n):Sem Value).run P w = .ok v w∧K v w:=by
 rcases ho with rfl|rfl
 ·exact⟨_,by simp [eqGuard,binOp,Op.shift,fM.2 h.req],h.go⟩
 ·exact⟨_,by simp [eqGuard,binOp,Op.shift,fM.2 h.req],h.go⟩
theorem WR {P:Program}{op:BinOp}{t:TypeId}{x y:Operand}{m n:ByteArray}{w:World}{K:Value->World->Prop}
  (h:aaS op m n w K) : ∃v,(do eqGuard op t x y (.string m) (.string n);binOp op t (.string m) (.string n):Sem Value).run P w = .ok v w∧K v w:=by
 have hg:(eqGuard op t x y (.string m) (.string n)).run P w = .ok () w:=by
  cases op<;>simp [eqGuard]
 cases op<;>simp only [aaS]at h
 case add=>exact⟨_,by rw [Sem.run_bind,hg];simp only [Result.andThen_ok,binOp,Op.stringOp,if_neg (fM.2 h.req)];rfl,h.go⟩
 case eql=>exact⟨_,by rw [Sem.run_bind,hg];rfl,h⟩
 case neq=>exact⟨_,by rw [Sem.run_bind,hg];rfl,h⟩
 case lss=>exact⟨_,by rw [Sem.run_bind,hg];rfl,h⟩
 case leq=>exact⟨_,by rw [Sem.run_bind,hg];rfl,h⟩
 case gtr=>exact⟨_,by rw [Sem.run_bind,hg];rfl,h⟩
 case geq=>exact⟨_,by rw [Sem.run_bind,hg];rfl,h⟩
 all_goals exact h.elim
theorem Gg {P:Program}{t:TypeId}{m n:Bool}{w:World}(hu:P.underlying t=some .bool) :
  (Op.equal t (.bool m) (.bool n)).run P w = .ok (m==n) w:=by
 obtain⟨d,hd⟩ : ∃d,Op.maxDepth=d+1:=⟨Op.maxDepth-1,by decide⟩
 unfold Op.equal
 rw [hd]
 unfold Op.equalIn
 rw [Sem.run_bind,l7 hu]
 rfl
theorem WT {P:Program}{q:Bool}{op:BinOp}{t:TypeId}{x y:Operand}{a b:Value}{w:World}{K:Value->World->Prop}
  (h:Dy P q op t x y a b w K) : ∃v w',(do eqGuard op t x y a b;binOp op t a b:Sem Value).run P w = .ok v w'∧K v w'∧(q=true->w'=w):=by
 unfold Dy at h
 split at h
 ·rename_i k m k' n
  split at h
  ·obtain⟨v,hr,hk⟩:=Gf (P:=P) (t:=t) (x:=x) (y:=y) (k':=k') (.inl rfl) h;exact⟨v,w,hr,hk,fun _=>rfl⟩
  ·obtain⟨v,hr,hk⟩:=Gf (P:=P) (t:=t) (x:=x) (y:=y) (k':=k') (.inr rfl) h;exact⟨v,w,hr,hk,fun _=>rfl⟩
  ·by_cases hkk:k=k'
   ·subst hkk
    simp only [decide_true,cond_true]at h
    obtain⟨v,hr,hk⟩:=WQ (P:=P) (t:=t) (x:=x) (y:=y) h;exact⟨v,w,hr,hk,fun _=>rfl⟩
   ·simp [hkk]at h
 ·obtain⟨v,hr,hk⟩:=WR (P:=P) (t:=t) (x:=x) (y:=y) h;exact⟨v,w,hr,hk,fun _=>rfl⟩
 ·rename_i m n
  split at h
  ·split at h
   ·rename_i hu
    exact⟨_,w,by rw [Sem.run_bind];simp only [eqGuard,binOp,Gg hu,Sem.run_bind,Result.andThen_ok];rfl,h,fun _=>rfl⟩
   ·cases h
  ·split at h
   ·rename_i hu
    exact⟨_,w,by rw [Sem.run_bind];simp only [eqGuard,binOp,Gg hu,Sem.run_bind,Result.andThen_ok];rfl,h,fun _=>rfl⟩
   ·cases h
  ·cases h
 ·exact h.un
theorem aaT {P:Program}{q:Bool}{op:UnOp}{a:Value}{w:World}{K:Value->World->Prop}(h:vUn P q op a w K) :
  ∃v w',(Op.unary op a).run P w = .ok v w'∧K v w'∧(q=true->w'=w):=by
 unfold vUn at h
 split at h
 ·exact⟨_,w,by simp [Op.unary],h,fun _=>rfl⟩
 ·exact⟨_,w,by simp [Op.unary,Op.intArith],h,fun _=>rfl⟩
 ·exact h.un
theorem Vj {P:Program}{q:Bool}{src dst:TypeId}{a:Value}{w:World}{K:Value->World->Prop}(h:Ap P q src dst a w K) :
  ∃v w',(convert src dst a).run P w = .ok v w'∧K v w'∧(q=true->w'=w):=by
 unfold Ap at h
 split at h
 ·rename_i d k q n h1 h2
  refine⟨_,w, ?_,h,fun _=>rfl⟩
  unfold convert
  rw [Sem.run_bind,l7 h1,Result.andThen_ok,Sem.run_bind,l7 h2,Result.andThen_ok]
  cases d<;>rfl
 ·rename_i s h1 h2
  refine⟨_,w, ?_,h,fun _=>rfl⟩
  unfold convert
  rw [Sem.run_bind,l7 h1,Result.andThen_ok,Sem.run_bind,l7 h2,Result.andThen_ok]
  rfl
 ·exact h.un
theorem rO {P:Program}{t:TypeId}{b:Bool}{w:World}(h:yg P t=some b):(isAgg t).run P w = .ok b w:=by
 unfold yg at h
 unfold isAgg
 split at h
 ·rename_i hu;rw [Sem.run_bind,l7 hu];simp at h;subst h;rfl
 ·rename_i hu;rw [Sem.run_bind,l7 hu];simp at h;subst h;rfl
 ·rename_i d h1 h2 hu
  rw [Sem.run_bind,l7 hu]
  simp at h
  subst h
  cases d<;>first|rfl|exact(h1 _ rfl).elim|exact(h2 _ _ rfl).elim
 ·cases h
theorem QB {P:Program}{t:TypeId}{cs:Array Value}{f:Nat}{w:World}{K:Value->World->Prop}(h:Dz P t cs f w K) :
  ∃v,(Instr.field t (.agg cs) f).run P w = .ok v w∧K v w:=by
 unfold Dz at h
 split at h
 ·rename_i fs hu
  split at h
  ·rename_i fd hf
   have hf':fs[f]? = some fd:=by rw [<-hf];simp
   unfold Instr.field
   rw [Sem.run_bind,l7 hu,Result.andThen_ok]
   simp only [hf']
   split at h
   ·rename_i i ha hi
    rw [nU]at h
    refine⟨_, ?_,h⟩
    simp only [Sem.run_bind,asAgg,Sem.run_pure,Result.andThen_ok,part,rO ha,if_true,sizeOf,rZ hi]
    congr 2
    apply jg
    simp
   ·rename_i i ha hi
    split at h
    ·rename_i v hv
     refine⟨v, ?_,h⟩
     have hv':cs[fd.offset]? = some v:=by rw [<-hv];simp
     simp only [Sem.run_bind,asAgg,Sem.run_pure,Result.andThen_ok,part,rO ha]
     simp [hv']
    ·cases h
   ·cases h
  ·cases h
 ·cases h
theorem Gi {P:Program}{t:TypeId}{a:Addr}{f:Nat}{w:World}{K:Value->World->Prop}(h:vI P t a f w K) :
  ∃v,(Instr.fieldAt t (.pointer (some a)) f).run P w = .ok v w∧K v w:=by
 unfold vI at h
 split at h
 ·rename_i fs hu
  split at h
  ·rename_i fd hf
   have hf':fs[f]? = some fd:=by rw [<-hf];simp
   split at h
   ·rename_i i hi
    cases hz:Nat.beq i.size 0 with
    | true=>simp [hz]at h
    | false=>
     simp only [hz,cond_false]at h
     refine⟨_, ?_,h⟩
     have hne:i.size≠0:=fun e=>by simp [e]at hz
     unfold Instr.fieldAt
     rw [Sem.run_bind,l7 hu,Result.andThen_ok]
     simp only [hf']
     simp [Instr.sureAddr,fieldPlace,sizeOf,rZ hi,hne]
   ·cases h
  ·cases h
 ·cases h
theorem WU {P:Program}{q:Bool}{t ty:TypeId}{a:Value}{w:World}{K:Value->World->Prop}(h:DF P q t ty a w K) :
  ∃v w',(Builtin.len_ #[t] ty #[a]).run P w = .ok v w'∧K v w'∧(q=true->w'=w):=by
 unfold DF at h
 split at h
 ·rename_i hu;exact⟨_,w,by simp [Builtin.len_,l7 hu,goInt],h,fun _=>rfl⟩
 ·rename_i hu;exact⟨_,w,by simp [Builtin.len_,l7 hu,goInt],h,fun _=>rfl⟩
 ·rename_i hu;exact⟨_,w,by simp [Builtin.len_,l7 hu,goInt],h,fun _=>rfl⟩
 ·exact h.un
theorem Vk {P:Program}{w:World}(x y:ByteArray):(Builtin.min2 (.string x) (.string y)).run P w = .ok (.string (vH x y)) w:=by
 have e:Builtin.min2 (.string x) (.string y)=(do pure (.string (if <-asBool (<-Op.stringOp .leq x y)then x else y))):=rfl
 rw [e]
 have e2:(Op.stringOp .leq x y).run P w = .ok (.bool (BA x y||uN x y)) w:=rfl
 rw [Sem.run_bind,e2,Result.andThen_ok]
 unfold vH
 cases (BA x y||uN x y)<;>rfl
theorem Vl {P:Program}{w:World}(x y:ByteArray):(Builtin.max2 (.string x) (.string y)).run P w = .ok (.string (uH x y)) w:=by
 have e:Builtin.max2 (.string x) (.string y)=(do pure (.string (if <-asBool (<-Op.stringOp .geq x y)then x else y))):=rfl
 rw [e]
 have e2:(Op.stringOp .geq x y).run P w = .ok (.bool (!BA x y)) w:=rfl
 rw [Sem.run_bind,e2,Result.andThen_ok]
 unfold uH
 cases BA x y<;>rfl
theorem Kz (x y:Int):(if y<x then y else x)=min x y:=aai
theorem aeF (x y:Int):(if y>x then y else x)=max x y:=aai
def WV (b:Builtin):Bool:=match b with | .len=>true | .min=>true | .max=>true | .cap=>true|_=>false
theorem QC {P:Program}{q:Bool}{b:Builtin}{ts:List TypeId}{ty:TypeId}{args:List Value}{cb:Array Bool}{w:World}{K:Value->World->Prop}
  (h:Az P q b ts ty args w K) : ∃v w',(builtin b ts.toArray ty cb args.toArray).run P w = .ok (.value v) w'∧K v w'∧(q=true->(WV b=true)->w'=w):=by
 unfold Az at h
 split at h
 ·obtain⟨v,w',hr,hk,hq⟩:=WU h;exact⟨v,w',by simp [builtin,hr],hk,fun e _=>hq e⟩
 ·rename_i k x k' y
  exact⟨_,w,by simp only [builtin,Sem.run_bind,run_min_int2,Result.andThen_ok];rw [Kz];rfl,h,fun _ _=>rfl⟩
 ·rename_i k x k' y
  exact⟨_,w,by simp only [builtin,Sem.run_bind,run_max_int2,Result.andThen_ok];rw [aeF];rfl,h,fun _ _=>rfl⟩
 ·rename_i x y
  refine⟨_,w, ?_,h,fun _ _=>rfl⟩
  simp [builtin,Builtin.min_,Vk]
 ·rename_i x y
  refine⟨_,w, ?_,h,fun _ _=>rfl⟩
  simp [builtin,Builtin.max_,Vl]
 ·obtain⟨v,w',hr,hk,hq⟩:=h.un;exact⟨v,w',by simp [builtin,hr],hk,fun e _=>hq e⟩
 ·obtain⟨v,w',hr,hk,hq⟩:=h.un;exact⟨v,w',by simp [builtin,hr],hk,fun e _=>hq e⟩
 ·obtain⟨v,w',hr,hk,hq⟩:=h.un;exact⟨v,w',by simp [builtin,hr],hk,fun e _=>hq e⟩
 ·obtain⟨v,w',hr,hk,hq⟩:=h.un;exact⟨v,w',by simp [builtin,hr],hk,fun e _=>hq e⟩
 ·obtain⟨v,w',hr,hk,hq⟩:=h.un;exact⟨v,w',by simp [builtin,hr],hk,fun e _=>hq e⟩
 ·obtain⟨v,w',hr,hk,hq⟩:=h.un;exact⟨v,w',by simp [builtin,hr],hk,fun e _=>hq e⟩
 ·obtain⟨v,w',hr,hk,hq⟩:=h.un;exact⟨v,w',by simp [builtin,hr],hk,fun e _=>hq e⟩
 ·obtain⟨v,w',hr,hk,hq⟩:=h.un;exact⟨v,w',by simp [builtin,hr],hk,fun e _=>hq e⟩
 ·cases h
theorem BH {P:Program}{f:FuncId}{args:Array Value}{w:World}(h:callable P f=true) :
  (callFunc f args).run P w = .ok (.enter f args) w:=by
 unfold callable at h
 split at h
 ·rename_i fn hf
  simp only [ak,dD,beq_eq_false_iff_ne,ne_eq]at h
  have hb:fn.body≠none:=by intro e;simp [e]at h
  simp [callFunc,hf,h.1,hb]
 ·cases h
theorem BI (ρ:mG)(xs:Array Operand):xs.map (qC ρ)=(xs.toList.map (qC ρ)).toArray:=by
 apply jg
 simp
theorem Vm {P:Program}{q:Bool}{o:Oper}{ρ:mG}{c:Call}{w:World}{K:Value->World->Prop}(ho:o.op = .call c)
  (h:Eo P q ρ c o.type w K):Did P q o ρ w K:=by
 obtain⟨callee,args,ats⟩:=c
 unfold Eo at h
 cases callee with
 | builtin b=>
  simp only [vJ,nU]at h
  obtain⟨v,w',hr,hk,hq⟩:=QC (cb:=args.map fun | .const _=>true|_=>false) h
  refine ny ?_ hk (fun e e'=>hq e (by simp only [pG,ho]at e';cases b<;>first|rfl|exact e'))
  unfold execOp
  simp only [ho,resolve,invoke,Sem.run_bind,Sem.run_pure,Result.andThen_ok]
  rw [BI]
  have:ats.toList.toArray=ats:=abb
  rw [this]at hr
  exact hr
 | value f=>
  simp only at h
  split at h
  ·rename_i g first captured hf
   simp only [vJ,nU]at h
   rcases h.un with ⟨h1,h2⟩|⟨v,h1,h2⟩
   ·refine .inr (.inr ⟨g,_, ?_,by simp [pG,ho],h2⟩)
    unfold execOp
    simp only [ho,resolve,Deferred.ofValue,invoke,Sem.run_bind,Sem.run_pure,Result.andThen_ok,hf]
    rw [BI,BH h1]
   ·refine ny ?_ h2 (fun _ _=>rfl)
    unfold execOp
    simp only [ho,resolve,Deferred.ofValue,invoke,Sem.run_bind,Sem.run_pure,Result.andThen_ok,hf]
    rw [BI,h1]
  ·cases h
 | invoke r m=>exact h.elim
theorem QD (off:Nat) : ∀(vs:List Value) (j:Nat) (cs:Array Value),
  (vs.zipIdx j).foldl (fun cs (p:Value×Nat)=>cs.setIfInBounds (off+p.2) p.1) cs=(uh cs.toList (off+j) vs).toArray:=by
 intro vs
 induction vs with
 | nil=>intro j cs;simp [uh]
 | cons v r ih=>
  intro j cs
  simp only [List.zipIdx_cons,gJ,uh]
  rw [ih]
  congr 2
  simp
theorem fill_eq (place:Nat->Option (Nat×Nat)) : ∀(parts:List (Nat×Value)) (cs l:List Value),
  yO place cs parts=some l->Instr.fill place cs.toArray parts=some l.toArray:=by
 intro parts
 induction parts with
 | nil=>intro cs l h;simp only [yO,aI]at h;subst h;rfl
 | cons p r ih=>
  obtain⟨i,v⟩:=p
  intro cs l h
  simp only [yO]at h
  simp only [Instr.fill]
  cases hp:place i with
  | none=>simp [hp]at h
  | some os=>
   obtain⟨off,size⟩:=os
   simp only [hp]at h
   cases hc:(Nat.beq v.cells.toList.length size&&Nat.ble (off+v.cells.toList.length) cs.length)with
   | false=>rw [hc]at h;cases h
   | true=>
    rw [hc,cond_true]at h
    simp only [ak]at hc
    have h1:=aA hc.1
    have h2:=aF hc.2
    simp only [Array.length_toList]at h1 h2
    have hcond:(decide (v.cells.size≠size)||decide (off+v.cells.size>cs.toArray.size))=false:=by
     simp [h1]
     omega
    simp only [hcond,aX,if_false]
    have hf:=QD off v.cells.toList 0 cs.toArray
    simp only [dV]at hf
    rw [<-ih _ _ h]
    congr 1
    rw [<-Array.foldl_toList]
    simp only [Array.toList_zipIdx]
    exact hf
theorem Vo {P:Program} : ∀(fs:List Field) (pl:List (Nat×Nat)),zM P fs=some pl->
  fs.mapM (fun f=>(P.info? f.type).map fun i=>(f.offset,i.size))=some pl:=by
 intro fs
 induction fs with
 | nil=>intro pl h;simp only [zM,aI]at h;subst h;rfl
 | cons f r ih=>
  intro pl h
  simp only [zM]at h
  split at h
  ·rename_i i l hi hl
   simp only [aI]at h
   subst h
   simp [hi,ih _ hl]
  ·cases h
theorem yZ {P:Program}{t:TypeId}{z:Value}{w:World}(h:(P.info? t).bind (·.zero)=some z):(zeroValue t).run P w = .ok z w:=by
 cases hi:P.info? t with
 | none=>simp [hi]at h
 | some i=>
  simp only [hi,eU]at h
  simp [zeroValue,rZ hi,h]
theorem QE {P:Program}{t:TypeId}{parts:List (Nat×Value)}{w:World}{K:Value->World->Prop}(h:DC P t parts w K) :
  ∃v,(Instr.build t parts.toArray).run P w = .ok v w∧K v w:=by
 unfold DC at h
 split at h
 ·rename_i z fs hz hu
  split at h
  ·rename_i pl hpl
   split at h
   ·rename_i l hl
    rw [nU]at h
    refine⟨_, ?_,h⟩
    refine run_build w t _ _ ?_
    have hf:=fill_eq _ _ _ _ hl
    cases hi:P.info? t with
    | none=>simp [hi]at hz
    | some i=>
     simp only [hi,eU]at hz
     unfold Program.built
     simp only [hi,hu,hz,Vo _ _ hpl]
     simpa using hf
   ·cases h
  ·cases h
 ·rename_i z n e hz hu
  split at h
  ·rename_i i hi
   split at h
   ·rename_i l hl
    rw [nU]at h
    refine⟨_, ?_,h⟩
    have hf:=fill_eq _ _ _ _ hl
    unfold Instr.build
    rw [Sem.run_bind,yZ hz,Result.andThen_ok,Sem.run_bind,l7 hu,Result.andThen_ok]
    simp only [sizeOf,Sem.run_bind,rZ hi,Result.andThen_ok,Sem.run_pure]
    simp only [iH]at hf
    simp [hf]
   ·cases h
  ·cases h
 ·cases h
theorem Ny (l:List Value)(s:Nat)(hl:l.length=s)(hs:1<=s) : ∀n:Nat,
  (List.range (n*s)).map (fun k=>l[k%s]!)=(List.replicate n l).flatten
 | 0=>by simp
 | n+1=>by
  rw [bK,dY,List.range_add,aS,Ny l s hl hs n,List.replicate_succ',List.flatten_append]
  congr 1
  simp only [List.map_map,gZ,List.flatten_nil,gK]
  apply List.ext_getElem
  ·simp [hl]
  ·intro i h1 h2
   simp only [aj,ku]at h1
   simp only [List.getElem_map,jE,Function.comp]
   have:(n*s+i)%s=i:=by rw [gG,Nat.mul_add_mod,dL h1]
   rw [this]
   simp [h2]
theorem zN (z:Array Value)(n s:Nat)(hl:z.size=s)(hs:1<=s) :
  (Array.range (n*s)).map (fun k=>z[k%z.size]!)=(List.replicate n z.toList).flatten.toArray:=by
 rw [<-Ny z.toList s ahV hs n]
 apply jg
 subst hl
 simp only [Array.toList_map,Array.toList_range]
 refine jV fun k hk=> ?_
 have hlt:k%z.size<z.size:=fO _ aai
 simp [hlt]
theorem ET {P:Program}{t:TypeId}{n:Nat}{parts:List (Nat×Value)}{w:World}{K:Value->World->Prop}(h:uj P t n parts w K) :
  ∃v w',(Instr.buildSlice t n parts.toArray).run P w = .ok v w'∧K v w':=by
 unfold uj at h
 split at h
 ·rename_i e hu
  split at h
  ·rename_i i hi
   split at h
   ·rename_i z hz
    cases hc:(Nat.beq z.cells.toList.length i.size&&Nat.ble 1 i.size&&Nat.ble (n*i.size) 16777216)with
    | false=>rw [hc]at h;exact h.elim
    | true=>
     rw [hc,cond_true]at h
     simp only [ak]at hc
     have h1:=aA hc.1.1
     have h2:=aF hc.1.2
     have h3:=aF hc.2
     split at h
     ·rename_i l hl
      rw [nU]at h
      refine⟨_,_, ?_,h⟩
      have hf:=fill_eq _ _ _ _ hl
      rw [<-zN z.cells n i.size aaJ h2]at hf
      have hle : ¬(n*i.size>2^24):=ahq
      unfold Instr.buildSlice
      rw [Sem.run_bind,l7 hu,Result.andThen_ok]
      simp only [sizeOf,Sem.run_bind,rZ hi,Result.andThen_ok,Sem.run_pure,if_neg hle]
      by_cases h0:n*i.size=0
      ·have hn:n=0:=(Nat.mul_eq_zero.1 h0).resolve_right aai
       subst hn
       simp only [fU,if_true,Sem.run_bind,Sem.run_pure,Result.andThen_ok]
       simp only [fU]at hf
       have e:(Array.range 0).map (fun x=>(#[]:Array Value)[x%(#[]:Array Value).size]!)=(Array.range 0).map (fun x=>z.cells[x%z.cells.size]!):=abb
       rw [e,hf]
       simp [newRow]
      ·simp only [if_neg h0,zeroValue,rZ hi,Sem.run_bind,Result.andThen_ok,hz,Sem.run_pure,hf]
       simp [newRow]
     ·cases h
   ·cases h
  ·cases h
 ·cases h
theorem Jq (ρ:mG)(parts:Array (Nat×Operand)) :
  ((parts.toList.map (·.1)).zip (parts.toList.map fun p=>qC ρ p.2)).toArray=parts.map fun(i,x)=>(i,qC ρ x):=by
 apply jg
 simp only [Array.toList_map]
 induction parts.toList with
 | nil=>rfl
 | cons p r ih=>simp only [gW,iR,ih]
theorem sD {P:Program}{q:Bool}{o:Oper}{ρ:mG}{w:World}{K:Value->World->Prop}(h:F9 P q o ρ w K):Did P q o ρ w K:=by
 unfold F9 at h
 cases ho:o.op<;>simp only [ho]at h
 case move x=>rw [force_eq]at h;exact ny (by unfold execOp;simp [ho]) h (fun _ _=>rfl)
 case assign x=>rw [force_eq]at h;exact ny (by unfold execOp;simp [ho]) h (fun _ _=>rfl)
 case pick c a b=>
  split at h
  ·rename_i t hc
   split at h
   ·rename_i x y ha hb
    refine ny ?_ h (fun _ _=>rfl)
    unfold execOp
    cases t<;>simp [ho,hc,asBool,ha,hb]
   ·cases t with
    | true=>exact ny (by unfold execOp;simp [ho,hc,asBool]) (show K (qC ρ a) w from h) (fun _ _=>rfl)
    | false=>exact ny (by unfold execOp;simp [ho,hc,asBool]) (show K (qC ρ b) w from h) (fun _ _=>rfl)
  ·cases h
 case alloc elem=>
  have go : ∀z,(P.info? elem).bind (·.zero)=some z->K (.pointer (some ⟨w.heap.size,0,none⟩)) (w.alloc (.cells z.cells elem))->Did P q o ρ w K:=fun z hz h=>by
   cases hi:P.info? elem with
   | none=>simp [hi]at hz
   | some i=>
    simp only [hi,eU]at hz
    refine ny ?_ h (fun _ e=>by simp [pG,ho]at e)
    unfold execOp
    simp [ho,Instr.alloc,zeroValue,rZ hi,hz,newVar,newRow]
  split at h
  ·rename_i cs hz;exact go _ hz h
  ·rename_i z _ hz;exact go _ hz h
  ·cases h
 case box elem x=>
  rw [force_eq]at h
  have h':K (.pointer (some ⟨w.heap.size,0,none⟩)) (w.alloc (.cells (qC ρ x).cells elem)):=by
   split at h
   ·rename_i cs hx;rw [hx];exact h
   ·exact h
  refine ny ?_ h' (fun _ e=>by simp [pG,ho]at e)
  unfold execOp
  simp [ho,Instr.box,newVar,newRow]
 case build t parts=>
  rw [nU]at h
  obtain⟨v,hr,hk⟩:=QE h
  rw [Jq]at hr
  exact ny aaU hk (fun _ _=>rfl)
 case buildSlice t n parts=>
  rw [nU]at h
  obtain⟨v,w',hr,hk⟩:=ET h
  rw [Jq]at hr
  exact ny aaU hk (fun _ e=>by simp [pG,ho]at e)
 case load t a=>
  split at h
  ·rename_i p hp
   obtain⟨v,w',hr,hk,hq⟩:=h.un
   refine ny (w':=w') (v:=v) ?_ hk (fun e _=>hq e)
   unfold execOp
   simp only [ho]
   exact tq (by simp only [Instr.loadAt,hp,Instr.sureAddr,Sem.run_bind,Sem.run_pure,Result.andThen_ok];exact hr)
  ·cases h
 case store t a x=>
  split at h
  ·rename_i p hp
   rw [force_eq]at h
   obtain⟨u,w',hr,hk⟩:=h.un
   refine .inr (.inl ⟨w', ?_,hk,by simp [pG,ho]⟩)
   unfold execOp
   simp only [ho]
   exact WO (u:=u) (by simp only [Instr.storeAt,hp,Instr.sureAddr,Sem.run_bind,Sem.run_pure,Result.andThen_ok];exact hr)
  ·cases h
 case nilCheck x=>
  split at h
  ·rename_i p hp
   exact ny (by unfold execOp;simp only [ho,hp];rfl) h (fun _ _=>rfl)
  ·cases h
 case binOp op t x y yt=>
  obtain⟨v,w',hr,hk,hq⟩:=WT h
  exact ny aaU hk (fun e _=>hq e)
 case unOp op t x=>
  obtain⟨v,w',hr,hk,hq⟩:=aaT h
  exact ny aaU hk (fun e _=>hq e)
 case convert src dst x=>
  obtain⟨v,w',hr,hk,hq⟩:=Vj h
  exact ny aaU hk (fun e _=>hq e)
 case makeFunc fn first captured=>
  simp only [vJ,nU]at h
  refine ny ?_ h (fun _ _=>rfl)
  unfold execOp
  simp [ho,Instr.makeFunc,BI]
 case makeMap t r=>
  rw [Dx]at h
  obtain⟨v,w',hr,hk,hq⟩:=h.un
  exact ny aaU hk (fun e _=>hq e)
 case makeSlice t l c=>
  simp only [force_eq]at h
  obtain⟨v,w',hr,hk,hq⟩:=h.un
  exact ny aaU hk (fun e _=>hq e)
 case slice t x lo hi mx=>
  simp only [force_eq,Dx]at h
  obtain⟨v,w',hr,hk,hq⟩:=h.un
  exact ny aaU hk (fun e _=>hq e)
 case fieldAddr s x f=>
  split at h
  ·rename_i p hp
   obtain⟨v,hr,hk⟩:=Gi h
   exact ny (by unfold execOp;simp only [ho,hp];exact tq hr) hk (fun _ _=>rfl)
  ·cases h
 case field t x f=>
  split at h
  ·rename_i cs hc
   obtain⟨v,hr,hk⟩:=QB h
   exact ny (by unfold execOp;simp only [ho,hc];exact tq hr) hk (fun _ _=>rfl)
  ·cases h
 case indexAddr t x i=>
  simp only [force_eq]at h
  obtain⟨v,w',hr,hk,hq⟩:=h.un
  exact ny aaU hk (fun e _=>hq e)
 case index t x i=>
  simp only [force_eq]at h
  obtain⟨v,w',hr,hk,hq⟩:=h.un
  exact ny aaU hk (fun e _=>hq e)
 case lookup t x i ok=>
  simp only [force_eq]at h
  obtain⟨v,w',hr,hk,hq⟩:=h.un
  exact ny aaU hk (fun e _=>hq e)
 case mapUpdate t m k x=>
  simp only [force_eq]at h
  obtain⟨u,w',hr,hk⟩:=h.un
  exact .inr (.inl ⟨w',by unfold execOp;simp only [ho];exact WO (u:=u) hr,hk,by simp [pG,ho]⟩)
 case insert t m k x=>
  simp only [force_eq]at h
  obtain⟨u,w',hr,hk⟩:=h.un
  exact .inr (.inl ⟨w',by unfold execOp;simp only [ho];exact WO (u:=u) hr,hk,by simp [pG,ho]⟩)
 case range t x=>
  simp only [force_eq]at h
  obtain⟨v,w',hr,hk,hq⟩:=h.un
  exact ny aaU hk (fun e _=>hq e)
 case next it s=>
  simp only [force_eq]at h
  obtain⟨v,w',hr,hk,hq⟩:=h.un
  exact ny aaU hk (fun e _=>hq e)
 case entry it=>
  simp only [force_eq]at h
  obtain⟨v,w',hr,hk,hq⟩:=h.un
  exact ny aaU hk (fun e _=>hq e)
 case extract t i=>
  split at h
  ·rename_i vs hv
   split at h
   ·rename_i v hi
    have hi':vs[i]? = some v:=by rw [<-hi];simp
    exact ny (by unfold execOp;simp only [ho,hv];exact tq (by simp [Instr.extract,hi'])) h (fun _ _=>rfl)
   ·cases h
  ·cases h
 case call c=>exact Vm ho h
 all_goals exact h.elim
def AA (all:List Oper)(g:Nat):Option Nat:=match all[g]? with|some o=>o.dst|none=>none
def uI (P:Program)(q:Bool)(all:List Oper)(o:Oper)(ρ:mG)(w:World)(K:mG->Value->World->Prop)(rP:mG->Prop):Prop:=
 match o.guard with
 | none=>F9 P q o ρ w fun v w'=>K ρ v w'
 | some (g,want)=>(match AA all g with
  | some s=>(match ρ s with
   | .bool t=>Ku t
     (bif want then F9 P q o (upd ρ s (.bool true)) w fun v w'=>K (upd ρ s (.bool true)) v w' else rP (upd ρ s (.bool true)))
     (bif want then rP (upd ρ s (.bool false))else F9 P q o (upd ρ s (.bool false)) w fun v w'=>K (upd ρ s (.bool false)) v w')
   | _=>rP ρ)
  | none=>rP ρ)
def WW (P:Program)(all:List Oper)(l:List Oper)(ρ:mG)(w:World)(K:mG->World->Prop):Prop:=
 match l with
 | []=>K ρ w
 | o::rest=>uI P false all o ρ w (fun ρ' v w'=>WW P all rest (oN ρ' o.dst v) w' K) fun ρ'=>WW P all rest (oN ρ' o.dst undef) w K
theorem Nz {ρ:mG}{s:Nat}{v:Value}(h:ρ s=v):upd ρ s v=ρ:=by
 funext n
 unfold upd
 cases hb:Nat.beq n s with
 | false=>rfl
 | true=>rw [aA hb];exact h.symm
theorem AB {N:Nat}{ds:List Deferred}{ρ:mG}{a:Act}{ops:Array Oper}(hf:Fits N ds ρ a)(g:Nat) :
  yielded ops a.tmps g=(match AA ops.toList g with|some s=>(match ρ s with | .bool b=>some b|_=>none)|none=>none):=by
 unfold yielded AA
 rw [<-bF]
 cases ops.toList[g]? with
 | none=>rfl
 | some o=>
  simp only [eU]
  cases hd:o.dst with
  | none=>rfl
  | some s=>
   simp only [eU]
   have h1:=hf.get s
   by_cases hs:s<a.tmps.size
   ·simp only [Array.getD,hs,dif_pos]at h1
    rw [jX hs]
    have h2:a.tmps[s]=ρ s:=h1
    rw [h2]
    cases ρ s<;>rfl
   ·simp only [Array.getD,hs,dif_neg,not_false_eq_true]at h1
    rw [fV (kP hs), <-h1]
    rfl
theorem yh {P:Program}{q:Bool}{N:Nat}{ds:List Deferred}{ρ:mG}{a:Act}{ops:Array Oper}{o:Oper}{w:World}{K:mG->Value->World->Prop}{rP:mG->Prop}
  (hf:Fits N ds ρ a) (h:uI P q ops.toList o ρ w K rP) :
  (Region.wanted o (yielded ops a.tmps)=true∧F9 P q o ρ w fun v w'=>K ρ v w')∨
  (Region.wanted o (yielded ops a.tmps)=false∧rP ρ):=by
 unfold uI at h
 unfold Region.wanted
 split at h
 ·rename_i hg;rw [hg];exact .inl ⟨rfl,h⟩
 ·rename_i g want hg
  rw [hg]
  simp only [AB hf g]
  split at h
  ·rename_i s hs
   cases hv:ρ s with
   | bool t=>
    have hu:upd ρ s (.bool t)=ρ:=Nz hv
    rw [hv]at h
    cases t<;>cases want<;>simp only [Ku,cond_true,cond_false]at h<;>rw [hu]at h
    ·exact .inl ⟨rfl,h⟩
    ·exact .inr ⟨rfl,h⟩
    ·exact .inr ⟨rfl,h⟩
    ·exact .inl ⟨rfl,h⟩
   | _=>rw [hv]at h;exact .inr ⟨rfl,h⟩
  ·exact .inr ⟨rfl,h⟩
def qU (N:Nat)(W:Nat->Bool)(o:Oper):Bool:=match o.dst with|some d=>Nat.blt d N&&W d|none=>true
def Same (W:Nat->Bool)(ρ ρ':mG):Prop:= ∀n,W n=false->ρ' n=ρ n
theorem oC {N:Nat}{W:Nat->Bool}{o:Oper}(h:qU N W o=true) : ∀t,o.dst=some t->t<N:=by
 intro t ht
 simp only [qU,ht,ak]at h
 exact aF h.1
theorem Same.oN {W:Nat->Bool}{N:Nat}{o:Oper}{lS ρ:mG}{v:Value}(h:Same W lS ρ)(ho:qU N W o=true):Same W lS (oN ρ o.dst v):=by
 intro n hn
 cases hd:o.dst with
 | none=>exact h n hn
 | some d=>
  simp only [Vc.oN,upd]
  cases hb:Nat.beq n d with
  | false=>exact h n hn
  | true=>
   have:=aA hb
   subst this
   simp only [qU,hd,ak]at ho
   rw [hn]at ho
   exact absurd ho.2 abb
theorem QF {P:Program}{N:Nat}{ds:List Deferred}{W:Nat->Bool}{ops:Array Oper}{Q:Exit->Act->World->Prop}{K:mG->World->Prop}{lS:mG}
  (hK : ∀ρ' a' w',Fits N ds ρ' a'->Same W lS ρ'->K ρ' w'->Q .normal a' w') :
  ∀(l:List Oper) (k:Nat) (ρ:mG) (a:Act) (w:World),(∀j,l[j]? = ops.toList[k+j]?)->(∀o∈l,qU N W o=true)->Fits N ds ρ a->Same W lS ρ->
   WW P ops.toList l ρ w K->wpOps P ops Q (List.range' k l.length) a w:=by
 intro l
 induction l with
 | nil=>intro k ρ a w _ _ hf hs h;exact hK _ _ _ hf hs h
 | cons o rest ih=>
  intro k ρ a w hl hok hf hs h
  have ho:ops[k]? = some o:=by
   have:=hl 0
   simp only [bZ,dV]at this
   rw [<-bF];exact this.symm
  have ho1:qU N W o=true:=hok o abb
  have step : ∀(v:Value) (w':World),WW P ops.toList rest (oN ρ o.dst v) w' K->wpOps P ops Q (List.range' (k+1) rest.length) (a.put o.dst v) w':=fun v w' hv=>
   ih (k+1) _ _ _ (fun j=>by have:=hl (j+1);simp only [fD]at this;rw [this];congr 1;omega) (fun o' ho'=>hok o' (by simp [ho']))
    (hf.put o.dst v (oC ho1)) (hs.oN ho1) hv
  simp only [bn,jM]
  simp only [wpOps,ho]
  rcases yh hf h with ⟨hw,hv⟩|⟨hw,hv⟩
  ·simp only [hw,if_true]
   exact .inl ((sD hv).wp hf.eval fun v w' hk=>step v w' hk)
  ·simp only [hw,aX,if_false]
   exact step undef w hv
inductive Plan where
 | done
 | take (i:Nat) (p:Plan)
 | one (i:Nat) (p:Plan)
 | two (i:Nat) (p:Plan) (j:Nat) (r:Plan)
 | three (i:Nat) (p:Plan) (j:Nat) (r:Plan) (k:Nat) (q:Plan)
 | sink (i:Nat)
 | post (i:Nat) (p:Plan)
def ah2 (pure:Bool)(S:World->Prop)(P:Program)(o:Oper)(ρ:mG)(v:Value)(k:Prop):Prop:=
 match pure with
 | true=>k
 | false=>nO (∀w',S w'->F9 P true o ρ w' fun v' _=>v'=v) k
structure ng (S:World->Prop)(w:World)(k:(World->Prop)->Prop):Prop where
 ex : ∃S':World->Prop,(∀u,S' u->S u)∧S' w∧k S'
theorem ng.keep {S:World->Prop}{w:World}{k:(World->Prop)->Prop}(h:S w)(hk:k S):ng S w k:=⟨S,fun _ h=>h,h,hk⟩
theorem ng.below {lT w:World}{k:(World->Prop)->Prop}(h:Below lT.heap.size lT w)(hk:k fun u=>Below w.heap.size w u):ng (fun u=>Below lT.heap.size lT u) w k:=
 ⟨fun u=>Below w.heap.size w u,fun _ hu=>h.trans (hu.mono h.size),Below.refl _ _,hk⟩
def vD (P:Program)(all:List Oper)(Ep:Bool)(p:Plan)(S:World->Prop)(ρ:mG)(w:World)(K:mG->World->Prop):Prop:=
 match p with
 | .done=>K ρ w
 | .take i p=>(match all[i]? with
  | some o=>uI P true all o ρ w (fun ρ' v w'=>ah2 (Ep||BG o) S P o ρ' v (vD P all Ep p S (oN ρ' o.dst v) w' K)) fun ρ'=>vD P all Ep p S (oN ρ' o.dst undef) w K
  | none=>False)
 | .one i p=>(match all[i]? with
  | some o=>uI P false all o ρ w (fun ρ' v w'=>ng S w' fun S'=>vD P all Ep p S' (oN ρ' o.dst v) w' K) fun ρ'=>vD P all Ep p S (oN ρ' o.dst undef) w K
  | none=>False)
 | .two i p j r=>(match all[i]?,all[j]? with
  | some o,some o'=>
   (uI P false all o ρ w (fun ρ' v w'=>ng S w' fun S'=>vD P all Ep p S' (oN ρ' o.dst v) w' K) fun ρ'=>vD P all Ep p S (oN ρ' o.dst undef) w K)∧
   (uI P false all o' ρ w (fun ρ' v w'=>ng S w' fun S'=>vD P all Ep r S' (oN ρ' o'.dst v) w' K) fun ρ'=>vD P all Ep r S (oN ρ' o'.dst undef) w K)
  | _,_=>False)
 | .three i p j r k q=>(match all[i]?,all[j]?,all[k]? with
  | some o,some o',some o''=>
   (uI P false all o ρ w (fun ρ' v w'=>ng S w' fun S'=>vD P all Ep p S' (oN ρ' o.dst v) w' K) fun ρ'=>vD P all Ep p S (oN ρ' o.dst undef) w K)∧
   (uI P false all o' ρ w (fun ρ' v w'=>ng S w' fun S'=>vD P all Ep r S' (oN ρ' o'.dst v) w' K) fun ρ'=>vD P all Ep r S (oN ρ' o'.dst undef) w K)∧
   (uI P false all o'' ρ w (fun ρ' v w'=>ng S w' fun S'=>vD P all Ep q S' (oN ρ' o''.dst v) w' K) fun ρ'=>vD P all Ep q S (oN ρ' o''.dst undef) w K)
  | _,_,_=>False)
 | .sink i=>(match all[i]? with
  | some o=>uI P false all o ρ w (fun ρ' v w'=>K (oN ρ' o.dst v) w') fun ρ'=>K (oN ρ' o.dst undef) w
  | none=>False)
 | .post _ _=>False
inductive Tq (ops:Array Oper)(i:Nat):Nat->Prop
 | one {o:Oper} {e:Edge} (h:ops[i]? = some o) (he:e∈o.after) (hb:Region.binds .any e=true):Tq ops i e.on
 | more {j:Nat} {o:Oper} {e:Edge} (ha:Tq ops i j) (h:ops[j]? = some o) (he:e∈o.after) (hb:Region.binds .any e=true):Tq ops i e.on
def Gj (ops:Array Oper)(i:Nat):List Nat:=
 match ops[i]? with
 | some o=>(o.after.toList.filter fun e=>Region.binds .any e).map (·.on)
 | none=> []
def QG (l m:List Nat):List Nat:=m.foldl (fun acc x=>if acc.contains x then acc else x::acc) l
def aeG (ops:Array Oper):Nat->List Nat->List Nat
 | 0,l=>l
 | n+1,l=>aeG ops n (l.foldl (fun acc j=>QG acc (Gj ops j)) l)
theorem Jr {ops:Array Oper}{i k:Nat}(h:k∈Gj ops i) : ∃o e,ops[i]? = some o∧e∈o.after∧Region.binds .any e=true∧e.on=k:=by
 unfold Gj at h
 split at h
 ·rename_i o ho
  simp only [dW,fA]at h
  obtain⟨e,⟨he,hb⟩,hk⟩:=h
  exact⟨o,e,ho,by simpa using he,hb,hk⟩
 ·cases h
theorem QH {k:Nat} : ∀(m l:List Nat),k∈QG l m->k∈l∨k∈m:=by
 intro m
 induction m with
 | nil=>intro l h;exact .inl h
 | cons x r ih=>
  intro l h
  rcases ih _ h with h|h
  ·simp only at h
   split at h
   ·exact .inl h
   ·rcases bI.1 h with rfl|h
    ·exact .inr abb
    ·exact .inl h
  ·exact .inr (by simp [h])
theorem mem_grow {ops:Array Oper}{k:Nat} : ∀(m l:List Nat),k∈m.foldl (fun acc j=>QG acc (Gj ops j)) l->k∈l∨∃j∈m,k∈Gj ops j:=by
 intro m
 induction m with
 | nil=>intro l h;exact .inl h
 | cons x r ih=>
  intro l h
  rcases ih _ h with h|⟨j,hj,hk⟩
  ·rcases QH _ _ h with h|h
   ·exact .inl h
   ·exact .inr ⟨x,by simp,h⟩
  ·exact .inr ⟨j,by simp [hj],hk⟩
theorem WX {ops:Array Oper}{i k:Nat} : ∀(n:Nat) (l:List Nat),(∀x∈l,Tq ops i x)->k∈aeG ops n l->Tq ops i k:=by
 intro n
 induction n with
 | zero=>intro l h hk;exact h k hk
 | succ n ih=>
  intro l h hk
  refine ih _ (fun x hx=> ?_) hk
  rcases mem_grow _ _ hx with hx|⟨j,hj,hx⟩
  ·exact h x hx
  ·obtain⟨o,e,ho,he,hb,rfl⟩:=Jr hx
   exact .more (h j hj) ho he hb
def sinkAt (ops:Array Oper)(i:Nat):Bool:=
 (List.range ops.size).all fun j=>j==i||(aeG ops ops.size (Gj ops i)).contains j
theorem QI {ops:Array Oper}{i j:Nat}(h:sinkAt ops i=true)(hj:j<ops.size)(hne:j≠i):Tq ops i j:=by
 simp only [sinkAt,bP,kZ,jy,beq_iff_eq]at h
 rcases h j hj with e|e
 ·exact absurd e hne
 ·refine WX ops.size (Gj ops i) (fun x hx=> ?_) (by simpa using e)
  obtain⟨o,e,ho,he,hb,rfl⟩:=Jr hx
  exact .one ho he hb
def Down (ops:Array Oper)(listed:Array Bool):Prop:=
 ∀j o,ops[j]? = some o->listed.getD j false=true->∀e∈o.after,Region.binds .any e=true->listed.getD e.on false=true
theorem Down.set {ops:Array Oper}{listed:Array Bool}{i:Nat}(h:Down ops listed)(hi:i∈Region.ready .any ops listed):Down ops (listed.setIfInBounds i true):=by
 intro j o ho hl e he hb
 by_cases hji:i=j
 ·subst hji
  obtain⟨_,o',ho',hall⟩:=mem_ready.1 hi
  rw [ho]at ho'
  injection ho' with ho'
  subst ho'
  exact getD_set_true (hall e he hb)
 ·rw [getD_set_ne false hji]at hl
  exact getD_set_true (h j o ho hl e he hb)
theorem Down.anc {ops:Array Oper}{listed:Array Bool}{i k:Nat}(h:Down ops listed)(hi:i∈Region.ready .any ops listed)(ha:Tq ops i k):listed.getD k false=true:=by
 induction ha with
 | one ho he hb=>
  obtain⟨_,o',ho',hall⟩:=mem_ready.1 hi
  rw [ho]at ho'
  injection ho' with ho'
  subst ho'
  exact hall _ he hb
 | more ha ho he hb ih=>exact h _ _ ho ih _ he hb
def pz (ops:Array Oper):Plan->Array Bool->Bool
 | .done,listed=>(Region.ready .any ops listed).isEmpty
 | .take i p,listed=>(match ops[i]? with|some o=>pG o|none=>false)&&(Region.ready .any ops listed).contains i&&Region.free .any ops listed i&&pz ops p (listed.setIfInBounds i true)
 | .one i p,listed=>(Region.ready .any ops listed== [i])&&pz ops p (listed.setIfInBounds i true)
 | .two i p j r,listed=>(Region.ready .any ops listed== [i,j])&&pz ops p (listed.setIfInBounds i true)&&pz ops r (listed.setIfInBounds j true)
 | .three i p j r k q,listed=>(Region.ready .any ops listed== [i,j,k])&&pz ops p (listed.setIfInBounds i true)&&pz ops r (listed.setIfInBounds j true)&&pz ops q (listed.setIfInBounds k true)
 | .sink i,listed=>(Region.ready .any ops listed== [i])&&sinkAt ops i&&(Region.ready .any ops (listed.setIfInBounds i true)).isEmpty
 | .post i p,listed=>(Region.ready .any ops listed== [i])&&pz ops p (listed.setIfInBounds i true)
def Plan.depth:Plan->Nat
 | .done=>0
 | .take _ p=>p.depth+1
 | .one _ p=>p.depth+1
 | .two _ p _ r=>max p.depth r.depth+1
 | .three _ p _ r _ q=>max (max p.depth r.depth) q.depth+1
 | .sink _=>1
 | .post _ p=>p.depth+1
def vK (ops:Array Oper)(p:Plan):Bool:=Region.noSelect ops&&Nat.ble p.depth ops.size&&pz ops p (Array.replicate ops.size false)
section
variable {P:Program}{ops:Array Oper}{Q:Exit->Act->World->Prop}{S:World->Prop}
def yj (P:Program)(ops:Array Oper)(Q:Exit->Act->World->Prop)(S:World->Prop):Nat->Array Bool->Act->World->Prop
 | 0,listed,a,w=>Region.ready .any ops listed = []∧Q .normal a w
 | fuel+1,listed,a,w=>
  (Region.ready .any ops listed = []->Q .normal a w)∧
  ∀i∈Region.ready .any ops listed,wpOp P ops Q i (fun a' w'=>(sinkAt ops i=true∨S w')∧yj P ops Q S fuel (listed.setIfInBounds i true) a' w') a w
theorem AL : ∀(fuel:Nat) (listed:Array Bool) (a:Act) (w:World),yj P ops Q S fuel listed a w->wpAny P .any ops Q fuel listed a w
 | 0,_,_,_,h=>h
 | fuel+1,_,_,_,h=>⟨h.1,fun i hi=>wpOp_mono (fun a' w' h'=>AL fuel _ a' w' h'.2) (h.2 i hi)⟩
theorem rF {S':World->Prop}(h : ∀u,S' u->S u) : ∀(fuel:Nat) (listed:Array Bool) (a:Act) (w:World),yj P ops Q S' fuel listed a w->yj P ops Q S fuel listed a w
 | 0,_,_,_,hh=>hh
 | fuel+1,_,_,_,hh=>⟨hh.1,fun i hi=>wpOp_mono (fun a' w' h'=>⟨h'.1.imp id (h w'),rF h fuel _ a' w' h'.2⟩) (hh.2 i hi)⟩
theorem KE {i:Nat}{oi:Oper}{v:Value}(hi:ops[i]? = some oi)(hsel : ∀(j:Nat) (o:Oper) cs b,ops[j]? = some o->o.op≠ .select cs b)
  (hQ : ∀c a w,Q (.panic c) (a.put oi.dst v) w->Q (.panic c) a w) :
  ∀(fuel:Nat) (listed:Array Bool) (a:Act) (w:World),
   (∀j oj,ops[j]? = some oj->j≠i->listed.getD j true=false->(∀e∈oj.after,Region.binds .any e=true->e.on≠i)->oi.apart ops oj=true)->
   Down ops listed->i∈Region.ready .any ops listed->YieldsIf P ops S oi v a->S w->
   yj P ops Q S fuel (listed.setIfInBounds i true) (a.put oi.dst v) w->yj P ops Q S (fuel+1) listed a w:=by
 intro fuel
 induction fuel with
 | zero=>
  intro listed a w _ _ hr hy hS H
  refine⟨fun h=>aiY,fun j hj=> ?_⟩
  by_cases hji:j=i
  ·subst hji;exact hy.wpOp hi hS ⟨.inr hS,H⟩
  ·have:=ready_mono hj hji
   rw [H.1]at this
   cases this
 | succ fuel ih=>
  intro listed a w hfree hdown hr hy hS H
  refine⟨fun h=>aiY,fun j hj=> ?_⟩
  by_cases hji:j=i
  ·subst hji;exact hy.wpOp hi hS ⟨.inr hS,H⟩
  ·have h1:=H.2 j (ready_mono hj hji)
   obtain⟨hjun,oj,hoj,hall⟩:=mem_ready.1 hj
   have hnot : ∀e∈oj.after,Region.binds .any e=true->e.on≠i:=fun e he hb heq=>by
    have h1:=hall e he hb
    have h0:=(mem_ready.1 hr).1
    rw [heq]at h1
    rcases eG i listed.size with h'|h'
    ·simp [h']at h0 h1;rw [h0]at h1;cases h1
    ·simp [fV h']at h1
   have h2:=wpOp_putIf hoj (hfree j oj hoj hji hjun hnot) (fun cs b=>hsel i oi cs b hi) (fun cs b=>hsel j oj cs b hoj) hQ hy h1
   have hfree' : ∀k ok,ops[k]? = some ok->k≠i->(listed.setIfInBounds j true).getD k true=false->
     (∀e∈ok.after,Region.binds .any e=true->e.on≠i)->oi.apart ops ok=true:=fun k ok hk hki hun hno=>by
    refine hfree k ok hk hki ?_ hno
    by_cases hjk:j=k
    ·subst hjk;exact hjun
    ·rw [getD_set_ne true hjk]at hun;exact hun
   have hri:i∈Region.ready .any ops (listed.setIfInBounds j true):=ready_mono hr (lD hji)
   have hilt:i<ops.size:=(dG.1 hi).1
   have hns:sinkAt ops j=true->False:=fun hsk=>by
    have h1:=hdown.anc hj (QI hsk hilt (lD hji))
    have h0:=(mem_ready.1 hr).1
    rcases eG i listed.size with h'|h'
    ·simp [h']at h0 h1;rw [h0]at h1;cases h1
    ·simp [fV h']at h1
   refine wpOp_mono (fun a' w' h3=> ?_) h2
   have hSw:S w':=h3.2.1.resolve_left hns
   refine⟨.inr hSw,ih (listed.setIfInBounds j true) a' w' hfree' (hdown.set hj) hri h3.1 hSw ?_⟩
   rw [kJ _ _ hji]
   exact h3.2.2
end
end Go.Proofs.YtnandbihiceihaaGreatDoor.Vc
