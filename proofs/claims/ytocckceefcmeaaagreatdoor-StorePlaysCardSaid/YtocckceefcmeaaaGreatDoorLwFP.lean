/- The law StorePlays holds, with its card: Open, Append and Compact return what is specified, also on disks that fail and crash. No condition beyond the card's. -/
import Derived.Test.YtocckceefcmeaaaGreatDoorCards
import Derived.Test.YtocckceefcmeaaaGreatDoorTie
import Derived.Test.YtocckceefcmeaaaGreatDoorPk7
import Derived.Test.YtocckceefcmeaaaGreatDoorPk12
import Derived.ProofKit
import Derived.SevenTiedAt
set_option linter.unusedVariables false
set_option linter.unusedSimpArgs false
set_option maxRecDepth 100000
set_option maxHeartbeats 16000000
namespace Go.Proofs.YtocckceefcmeaaaGreatDoor
open RowKit Go.ChangeShapes Go.WideShapes Go.ChangeAt Vc Go.Proofs.Tryz
theorem JQ:ownKnob Tryz.prog.godebug=none:=by kernel_rfl
theorem FZ:laidOutB Tryz.prog=true:=by kernel_rfl
theorem Kz:(Tryz.f6.params.toList.all fun t=>Tryz.prog.readableRec t&&Nat.blt t Tryz.prog.types.size)=true:=by kernel_rfl
theorem JR (os:Os)(args:Array Value):laidMetH Tryz.prog Rows.storePlaysRow.laid ((World.doorLaid Tryz.prog 400 os).forCall (fun _ _=>0) ⟨#[],args,[]⟩).memory:=
 laidMetH_of_parts3 (fuel:=8) (laidMet_of_run' 8 (by kernel_rfl) (by kernel_rfl)) (by kernel_rfl) (by kernel_rfl)
theorem DT (os:Os)(started:os.Started)(H:Type)(enc:TypeId×Value->H) :
  ReturnsInHanded {} Tryz.checked os 6 .any (fun w args=>(Rows.storePlaysSpec.pre enc Tryz.prog Tryz.f6 [] false w args∧laidMetH Tryz.prog Rows.storePlaysRow.laid w)∧sizedMet enc Tryz.prog Tryz.f6 (OpenSpec.ofChange Rows.storePlaysSpec) false w args)
   (Rows.storePlaysSpec.post enc Tryz.prog Tryz.f6 false true false false):=by
 refine returnsInHanded_of_change_and (C:=Tryz.checked) (X:=fun w _=>laidMetH Tryz.prog Rows.storePlaysRow.laid w) (fun _ _ _ hh h=>h.of_heap hh) JQ started (by kernel_rfl) func6
  (ChangeSpec.witness_shaped (enc:=enc) (C:=Tryz.checked) (os:=os) (X:=fun w _=>laidMetH Tryz.prog Rows.storePlaysRow.laid w) false (World.doorLaid Tryz.prog 400 os) #[.int .u8 0, .slice none 0 0] 8 rfl (World.shaped_of_RefB (by kernel_rfl) (by kernel_rfl)) (by kernel_rfl) (by kernel_rfl) (by kernel_rfl) (JR os _)) ?_
 intro W base args ds gs before hval0 hW _ hwt hL _
 have hval : ∀(j:Nat) t v,Tryz.f6.params[j]? = some t->args[j]? = some v->Value.okWide Tryz.prog W .any base t v:=hval0
 obtain⟨p,q,hA0,hV,hpq,hfz,hnd⟩:=id hW
 have hA:DataW.TrodAll enc Tryz.prog W 0 (fun _=>true) true Tryz.f6.params.toList args.toList ds p:=hA0
 rw [Tryz.params6]at hA hval
 have hwe:=fun x hx=>of_decide_eq_true (bP.1 hwt x hx)
 obtain⟨v0,v1,d0,d1,p0,p1,rfl,rfl,rfl,h0,h1⟩:=trodAll_two hA
 obtain⟨k0,rfl,_,_,w0⟩:=open_int (k:= .u8) rfl (hval 0 5 v0 rfl rfl) h0
 obtain⟨n0,rfl,b0⟩:=Cl.ae3 w0
 obtain⟨rows,hr1,hr2,r1⟩:=Xc (t:=37) (e:=49) (es:=Cl.akf) (qY:=56) 8 rfl (by kernel_rfl) (hval 1 37 v1 rfl rfl) h1 (Vz hwe 1 _ _ rfl rfl)
 obtain⟨l,rfl,hl⟩:=Cl.LU Cl.aia rows hr2
 rw [ah]at hr1
 refine Calls.mono (Ax.SV (Cl.W9 n0 b0 l hl (by omega)) W (Cl.ai3 hL) _ ⟨.v _,r1,trivial⟩) ?_
 rintro e W' ⟨v,rfl,rfl,hB⟩
 exact⟨_,rfl,YC FZ Kz rfl rfl rfl (fun ds h=>by
  match ds,h with
  | [_,_],_=>rfl) hW hB⟩
theorem DU:Rows.StorePlaysSaid:=
 OpenClaim.holds_of_wide 6 Tryz.f6 rfl rfl rfl rfl rfl rfl rfl ⟨rfl,rfl,rfl,rfl,rfl⟩ rfl rfl rfl rfl rfl (by kernel_rfl) func6 (by kernel_rfl)
  (of_decide_eq_true (by kernel_rfl)) (by unfold Func.isWrapper;first|(rw [if_pos (by decide +kernel)];kernel_rfl)|(rw [if_neg (by decide +kernel)];exact⟨rfl,rfl⟩))
  (fun os started H enc _=>DT os started H enc)
theorem storePlays_holds:Rows.StorePlaysCardSaid:=
 Claim7.holds_tied_plain_at .later [] Rows.storePlaysCard.laidKinds true Rows.storePlaysCard.stood.harness false
  DU (fun _ h=>by cases h) (by kernel_rfl) (fun _ h=>by cases h) storePlays_row_tie rfl ⟨rfl,rfl⟩ (by kernel_rfl) rfl
  (fun f fn hf hfn=>by
   obtain rfl:f=6:=jZ ((show Tryz.prog.funcNamed "flagstone/flagstonelaw33.StorePlays" = some 6 by kernel_rfl).symm.trans hf) |>.symm
   obtain rfl:fn=Tryz.f6:=(jZ (func6.symm.trans hfn)).symm
   exact⟨by kernel_rfl,fun j t ht=>by
    have hm:t∈Tryz.f6.params.toList:=by simpa using Array.mem_of_getElem? ht
    have hall:(Tryz.f6.params.toList.all fun u=> !Tryz.prog.wantsStandIn u)=true:=by kernel_rfl
    exact(show Tryz.prog.wantsStandIn t=false by simpa using bP.1 hall t hm)⟩)
  (by kernel_rfl)
end Go.Proofs.YtocckceefcmeaaaGreatDoor
