/- Joined parts of the proof. The law WorldNew holds, with its card: both New return the same world or error -/
import Derived.Test.YtnandbihiceihaaGreatDoorCards
import Derived.Test.YtnandbihiceihaaGreatDoorTie
import Derived.Test.YtnandbihiceihaaGreatDoorNk12
import Derived.Test.YtnandbihiceihaaGreatDoorNk16
import Derived.ProofKit
import Derived.SevenTiedAt
import Derived.Test.YtnandbihiceihaaGreatDoorLwWNa
set_option linter.unusedVariables false
set_option linter.unusedSimpArgs false
set_option maxRecDepth 100000
set_option maxHeartbeats 16000000
namespace Go.Proofs.YtnandbihiceihaaGreatDoor
open RowKit Go.ChangeShapes Go.WideShapes Go.ChangeAt Vc Go.Proofs.Tryz
theorem zi (os:Os)(started:os.Started)(H:Type)(enc:TypeId×Value->H) :
  ReturnsInHanded {} Tryz.checked os 3 .any (fun w args=>(Rows.worldNewSpec.pre enc Tryz.prog Tryz.f3 [] false w args∧laidMetH Tryz.prog Rows.worldNewRow.laid w)∧sizedMet enc Tryz.prog Tryz.f3 (OpenSpec.ofChange Rows.worldNewSpec) false w args)
   (Rows.worldNewSpec.post enc Tryz.prog Tryz.f3 false true false false):=by
 refine returnsInHanded_of_change_and (C:=Tryz.checked) (X:=fun w _=>laidMetH Tryz.prog Rows.worldNewRow.laid w) (fun _ _ _ hh h=>h.of_heap hh) EN started aac func3
  (ChangeSpec.witness_shaped (enc:=enc) (C:=Tryz.checked) (os:=os) (X:=fun w _=>laidMetH Tryz.prog Rows.worldNewRow.laid w) false (World.doorLaid Tryz.prog 400 os) #[.int .u64 0, .int .i64 0, .int .i64 0, .int .i64 0, .int .i64 0, .int .i16 0, .int .i16 0, .int .i16 0, .int .i16 0] 8 rfl (World.shaped_of_RefB aac aac) aac aac aac (EO os _)) ?_
 intro W base args ds gs before hval0 hW _ hwt hL _
 have hval : ∀(j:Nat) t v,Tryz.f3.params[j]? = some t->args[j]? = some v->Value.okWide Tryz.prog W .any base t v:=hval0
 obtain⟨p,q,hA0,hV,hpq,hfz,hnd⟩:=id hW
 have hA:DataW.TrodAll enc Tryz.prog W 0 (fun _=>true) true Tryz.f3.params.toList args.toList ds p:=hA0
 rw [Tryz.params3]at hA hval
 obtain⟨v0,v1,v2,v3,v4,v5,v6,v7,v8,d0,d1,d2,d3,d4,d5,d6,d7,d8,p0,p1,p2,p3,p4,p5,p6,p7,p8,rfl,rfl,rfl,h0,h1,h2,h3,h4,h5,h6,h7,h8⟩:=EM hA
 obtain⟨k0,rfl,_,_,w0⟩:=open_int (k:= .u64) rfl (hval 0 22 v0 rfl rfl) h0
 obtain⟨k1,rfl,_,_,w1⟩:=open_int (k:= .i64) rfl (hval 1 3 v1 rfl rfl) h1
 have b1:=Cl.zY w1
 obtain⟨k2,rfl,_,_,w2⟩:=open_int (k:= .i64) rfl (hval 2 3 v2 rfl rfl) h2
 have b2:=Cl.zY w2
 obtain⟨k3,rfl,_,_,w3⟩:=open_int (k:= .i64) rfl (hval 3 3 v3 rfl rfl) h3
 have b3:=Cl.zY w3
 obtain⟨k4,rfl,_,_,w4⟩:=open_int (k:= .i64) rfl (hval 4 3 v4 rfl rfl) h4
 have b4:=Cl.zY w4
 obtain⟨k5,rfl,_,_,w5⟩:=open_int (k:= .i16) rfl (hval 5 23 v5 rfl rfl) h5
 have b5:=Cl.EI w5
 obtain⟨k6,rfl,_,_,w6⟩:=open_int (k:= .i16) rfl (hval 6 23 v6 rfl rfl) h6
 have b6:=Cl.EI w6
 obtain⟨k7,rfl,_,_,w7⟩:=open_int (k:= .i16) rfl (hval 7 23 v7 rfl rfl) h7
 have b7:=Cl.EI w7
 obtain⟨k8,rfl,_,_,w8⟩:=open_int (k:= .i16) rfl (hval 8 23 v8 rfl rfl) h8
 have b8:=Cl.EI w8
 refine Calls.mono (Ax.Jd (Cl.UQ k0 k1 k2 k3 k4 k5 k6 k7 k8 b5 b6 b7 b8) W (Cl.YN hL) _ ⟨.v _, .v _, .v _, .v _, .v _, .v _, .v _, .v _, .v _,trivial⟩) ?_
 rintro e W' ⟨v,rfl,rfl,hB⟩
 exact⟨_,rfl,OJ CG Hz rfl rfl rfl (fun ds h=>by
  match ds,h with
  | [_,_,_,_,_,_,_,_,_],_=>rfl) hW hB⟩
end Go.Proofs.YtnandbihiceihaaGreatDoor
