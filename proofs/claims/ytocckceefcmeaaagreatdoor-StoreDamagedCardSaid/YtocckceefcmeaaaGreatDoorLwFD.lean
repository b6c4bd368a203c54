/- The law StoreDamaged holds, with its card: what Bytes returns for a frame of which one bit was inverted, and for sectors in another order, of two frames, or with one left out. No condition beyond the card's. -/
import Derived.Test.YtocckceefcmeaaaGreatDoorCards
import Derived.Test.YtocckceefcmeaaaGreatDoorTie
import Derived.Test.YtocckceefcmeaaaGreatDoorPk7
import Derived.Test.YtocckceefcmeaaaGreatDoorPk10
import Derived.ProofKit
import Derived.SevenTiedAt
set_option linter.unusedVariables false
set_option linter.unusedSimpArgs false
set_option maxRecDepth 100000
set_option maxHeartbeats 16000000
namespace Go.Proofs.YtocckceefcmeaaaGreatDoor
open RowKit Go.ChangeShapes Go.WideShapes Go.ChangeAt Vc Go.Proofs.Tryz
theorem CG:ownKnob Tryz.prog.godebug=none:=by kernel_rfl
theorem AP:laidOutB Tryz.prog=true:=by kernel_rfl
theorem Dy:(Tryz.f5.params.toList.all fun t=>Tryz.prog.readableRec t&&Nat.blt t Tryz.prog.types.size)=true:=by kernel_rfl
theorem CJ (os:Os)(args:Array Value):laidMetH Tryz.prog Rows.storeDamagedRow.laid ((World.doorLaid Tryz.prog 400 os).forCall (fun _ _=>0) ⟨#[],args,[]⟩).memory:=
 laidMetH_of_parts3 (fuel:=8) (laidMet_of_run' 8 (by kernel_rfl) (by kernel_rfl)) (by kernel_rfl) (by kernel_rfl)
theorem yP (os:Os)(started:os.Started)(H:Type)(enc:TypeId×Value->H) :
  ReturnsInHanded {} Tryz.checked os 5 .any (fun w args=>(Rows.storeDamagedSpec.pre enc Tryz.prog Tryz.f5 [] false w args∧laidMetH Tryz.prog Rows.storeDamagedRow.laid w)∧sizedMet enc Tryz.prog Tryz.f5 (OpenSpec.ofChange Rows.storeDamagedSpec) false w args)
   (Rows.storeDamagedSpec.post enc Tryz.prog Tryz.f5 false true false false):=by
 refine returnsInHanded_of_change_and (C:=Tryz.checked) (X:=fun w _=>laidMetH Tryz.prog Rows.storeDamagedRow.laid w) (fun _ _ _ hh h=>h.of_heap hh) CG started (by kernel_rfl) func5
  (ChangeSpec.witness_shaped (enc:=enc) (C:=Tryz.checked) (os:=os) (X:=fun w _=>laidMetH Tryz.prog Rows.storeDamagedRow.laid w) false (World.doorLaid Tryz.prog 400 os) #[.slice none 0 0, .slice none 0 0, .int .u16 0, .int .u16 0, .int .u16 0] 8 rfl (World.shaped_of_RefB (by kernel_rfl) (by kernel_rfl)) (by kernel_rfl) (by kernel_rfl) (by kernel_rfl) (CJ os _)) ?_
 intro W base args ds gs before hval0 hW _ hwt hL _
 have hval : ∀(j:Nat) t v,Tryz.f5.params[j]? = some t->args[j]? = some v->Value.okWide Tryz.prog W .any base t v:=hval0
 obtain⟨p,q,hA0,hV,hpq,hfz,hnd⟩:=id hW
 have hA:DataW.TrodAll enc Tryz.prog W 0 (fun _=>true) true Tryz.f5.params.toList args.toList ds p:=hA0
 rw [Tryz.params5]at hA hval
 obtain⟨v0,v1,v2,v3,v4,d0,d1,d2,d3,d4,p0,p1,p2,p3,p4,rfl,rfl,rfl,h0,h1,h2,h3,h4⟩:=Js hA
 obtain⟨oa0,l0,c0,hc0,b0,r0⟩:=Cl.UW (t:=22) (e:=5) rfl rfl (UO h0)
 obtain rfl:=H8 (t:=22) (e:=5) rfl (hval 0 22 v0 rfl rfl) hc0
 obtain⟨oa1,l1,c1,hc1,b1,r1⟩:=Cl.UW (t:=22) (e:=5) rfl rfl (UO h1)
 obtain rfl:=H8 (t:=22) (e:=5) rfl (hval 1 22 v1 rfl rfl) hc1
 obtain⟨k2,rfl,_,_,w2⟩:=open_int (k:= .u16) rfl (hval 2 33 v2 rfl rfl) h2
 obtain⟨n2,rfl,b2⟩:=Cl.Oy w2
 obtain⟨k3,rfl,_,_,w3⟩:=open_int (k:= .u16) rfl (hval 3 33 v3 rfl rfl) h3
 obtain⟨n3,rfl,b3⟩:=Cl.Oy w3
 obtain⟨k4,rfl,_,_,w4⟩:=open_int (k:= .u16) rfl (hval 4 33 v4 rfl rfl) h4
 obtain⟨n4,rfl,b4⟩:=Cl.Oy w4
 refine Calls.mono (Ax.Ox (Cl.Nh l0 l1 n2 n3 n4 b2 b3 b4) W (Cl.aer hL) _ ⟨r0,r1, .v _, .v _, .v _,trivial⟩) ?_
 rintro e W' ⟨v,rfl,rfl,hB⟩
 exact⟨_,rfl,UQ AP Dy rfl rfl rfl (fun ds h=>by
  match ds,h with
  | [_,_,_,_,_],_=>rfl) hW hB⟩
theorem yQ:Rows.StoreDamagedSaid:=
 OpenClaim.holds_of_wide 5 Tryz.f5 rfl rfl rfl rfl rfl rfl rfl ⟨rfl,rfl,rfl,rfl,rfl⟩ rfl rfl rfl rfl rfl (by kernel_rfl) func5 (by kernel_rfl)
  (of_decide_eq_true (by kernel_rfl)) (by unfold Func.isWrapper;first|(rw [if_pos (by decide +kernel)];kernel_rfl)|(rw [if_neg (by decide +kernel)];exact⟨rfl,rfl⟩))
  (fun os started H enc _=>yP os started H enc)
theorem storeDamaged_holds:Rows.StoreDamagedCardSaid:=
 Claim7.holds_tied_plain_at .later [] Rows.storeDamagedCard.laidKinds true Rows.storeDamagedCard.stood.harness false
  yQ (fun _ h=>by cases h) (by kernel_rfl) (fun _ h=>by cases h) storeDamaged_row_tie rfl ⟨rfl,rfl⟩ (by kernel_rfl) rfl
  (fun f fn hf hfn=>by
   obtain rfl:f=5:=jO ((show Tryz.prog.funcNamed "flagstone/flagstonelaw33.StoreDamaged" = some 5 by kernel_rfl).symm.trans hf) |>.symm
   obtain rfl:fn=Tryz.f5:=(jO (func5.symm.trans hfn)).symm
   exact⟨by kernel_rfl,fun j t ht=>by
    have hm:t∈Tryz.f5.params.toList:=by simpa using Array.mem_of_getElem? ht
    have hall:(Tryz.f5.params.toList.all fun u=> !Tryz.prog.wantsStandIn u)=true:=by kernel_rfl
    exact(show Tryz.prog.wantsStandIn t=false by simpa using bQ.1 hall t hm)⟩)
  (by kernel_rfl)
end Go.Proofs.YtocckceefcmeaaaGreatDoor
