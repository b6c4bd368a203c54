/- The law StoreCrashes holds, with its card: a crash within a call leaves the events that there were before, or those after it, and those after it if the call returned OK. No condition beyond the card's. -/
import Derived.Test.YtocckceefcmeaaaGreatDoorCards
import Derived.Test.YtocckceefcmeaaaGreatDoorTie
import Derived.Test.YtocckceefcmeaaaGreatDoorPk11
import Derived.Test.YtocckceefcmeaaaGreatDoorPk23
import Derived.ProofKit
import Derived.SevenTiedAt
set_option linter.unusedVariables false
set_option linter.unusedSimpArgs false
set_option maxRecDepth 100000
set_option maxHeartbeats 16000000
namespace Go.Proofs.YtocckceefcmeaaaGreatDoor
open Go Go.RowKit Go.ChangeShapes Go.WideShapes Go.ChangeAt Go.Proofs.YtocckceefcmeaaaGreatDoor.Vc
theorem wM:ownKnob Tryz.prog.godebug=none:=by kernel_rfl
theorem uH:laidOutB Tryz.prog=true:=by kernel_rfl
theorem xP:(Tryz.f8.params.toList.all fun t=>Tryz.prog.readableRec t&&Nat.blt t Tryz.prog.types.size)=true:=by kernel_rfl
theorem wO (os:Os)(args:Array Value):laidMetH Tryz.prog Rows.storeCrashesRow.laid ((World.doorLaid Tryz.prog 400 os).forCall (fun _ _=>0) ⟨#[],args,[]⟩).memory:=
 laidMetH_of_parts3 (fuel:=8) (laidMet_of_run' 8 (by kernel_rfl) (by kernel_rfl)) (by kernel_rfl) (by kernel_rfl)
theorem qI (os:Os)(started:os.Started)(H:Type)(enc:TypeId×Value→H) :
  ReturnsInHanded {} Tryz.checked os 8 .any (fun w args=>(Rows.storeCrashesSpec.pre enc Tryz.prog Tryz.f8 [] false w args∧laidMetH Tryz.prog Rows.storeCrashesRow.laid w)∧sizedMet enc Tryz.prog Tryz.f8 (OpenSpec.ofChange Rows.storeCrashesSpec) false w args)
   (Rows.storeCrashesSpec.post enc Tryz.prog Tryz.f8 false true false false):=by
 refine returnsInHanded_of_change_and (C:=Tryz.checked) (X:=fun w _=>laidMetH Tryz.prog Rows.storeCrashesRow.laid w) (fun _ _ _ hh h=>h.of_heap hh) wM started (by kernel_rfl) Tryz.func8
  (ChangeSpec.witness_shaped (enc:=enc) (C:=Tryz.checked) (os:=os) (X:=fun w _=>laidMetH Tryz.prog Rows.storeCrashesRow.laid w) false (World.doorLaid Tryz.prog 400 os) #[.int .u8 0, .slice none 0 0] 8 rfl (World.shaped_of_RefB (by kernel_rfl) (by kernel_rfl)) (by kernel_rfl) (by kernel_rfl) (by kernel_rfl) (wO os _)) ?_
 intro W base args ds gs before hval0 hW _ hwt hL _
 have hval : ∀(j:Nat) t v,Tryz.f8.params[j]? = some t→args[j]? = some v→Value.okWide Tryz.prog W .any base t v:=hval0
 obtain⟨p,q,hA0,hV,hpq,hfz,hnd⟩:=id hW
 have hA:DataW.TrodAll enc Tryz.prog W 0 (fun _=>true) true Tryz.f8.params.toList args.toList ds p:=hA0
 rw [Tryz.params8]at hA hval
 have hwe:=fun x hx=>of_decide_eq_true (List.all_eq_true.1 hwt x hx)
 obtain⟨v0,v1,d0,d1,p0,p1,rfl,rfl,rfl,h0,h1⟩:=trodAll_two hA
 obtain⟨k0,rfl,_,_,w0⟩:=open_int (k:= .u8) rfl (hval 0 5 v0 rfl rfl) h0
 obtain⟨n0,rfl,b0⟩:=Cl.YF w0
 obtain⟨rows,hr1,hr2,r1⟩:=OU (t:=37) (e:=49) (es:=Cl.adE) (iQ:=56) 8 rfl (by kernel_rfl) (hval 1 37 v1 rfl rfl) h1 (Nb hwe 1 _ _ rfl rfl)
 obtain⟨l,rfl,hl⟩:=Cl.Dl Cl.abH rows hr2
 rw [List.length_map]at hr1
 refine Calls.mono (Ax.JC (Cl.Ik (Cl.abA (Cl.YG hL)) n0 b0 l hl (by omega)) W (Cl.YG hL) _ ⟨.v _,r1,trivial⟩) ?_
 rintro e W' ⟨v,rfl,rfl,hB⟩
 exact⟨_,rfl,QG uH xP rfl rfl rfl (fun ds h=>by
  match ds,h with
  | [_,_],_=>rfl) hW hB⟩
theorem qJ:Rows.StoreCrashesSaid:=
 OpenClaim.holds_of_wide 8 Tryz.f8 rfl rfl rfl rfl rfl rfl rfl ⟨rfl,rfl,rfl,rfl,rfl⟩ rfl rfl rfl rfl rfl (by kernel_rfl) Tryz.func8 (by kernel_rfl)
  (of_decide_eq_true (by kernel_rfl)) (by unfold Func.isWrapper;first | (rw [if_pos (by decide +kernel)];kernel_rfl) | (rw [if_neg (by decide +kernel)];exact⟨rfl,rfl⟩))
  (fun os started H enc _=>qI os started H enc)
theorem storeCrashes_holds:Rows.StoreCrashesCardSaid:=
 Claim7.holds_tied_plain_at .later [] Rows.storeCrashesCard.laidKinds true Rows.storeCrashesCard.stood.harness false
  qJ (fun _ h=>by cases h) (by kernel_rfl) (fun _ h=>by cases h) storeCrashes_row_tie rfl ⟨rfl,rfl⟩ (by kernel_rfl) rfl
  (fun f fn hf hfn=>by
   obtain rfl:f=8:=Option.some.inj ((show Tryz.prog.funcNamed "flagstone/flagstonelaw33.StoreCrashes" = some 8 by kernel_rfl).symm.trans hf) |>.symm
   obtain rfl:fn=Tryz.f8:=(Option.some.inj (Tryz.func8.symm.trans hfn)).symm
   exact⟨by kernel_rfl,fun j t ht=>by
    have hm:t∈Tryz.f8.params.toList:=by simpa using Array.mem_of_getElem? ht
    have hall:(Tryz.f8.params.toList.all fun u=> !Tryz.prog.wantsStandIn u)=true:=by kernel_rfl
    exact(show Tryz.prog.wantsStandIn t=false by simpa using List.all_eq_true.1 hall t hm)⟩)
  (by kernel_rfl)
end Go.Proofs.YtocckceefcmeaaaGreatDoor
