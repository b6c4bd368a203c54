/- Joined parts of the proof. The law WorldTables holds, with its card: both Tables return the same result or error -/
import Derived.Test.YtnandbihiceihaaGreatDoorCards
import Derived.Test.YtnandbihiceihaaGreatDoorTie
import Derived.Test.YtnandbihiceihaaGreatDoorPk12
import Derived.Test.YtnandbihiceihaaGreatDoorPk24
import Derived.ProofKit
import Derived.SevenTiedAt
import Derived.Test.YtnandbihiceihaaGreatDoorLwWTa
set_option linter.unusedVariables false
set_option linter.unusedSimpArgs false
set_option maxRecDepth 100000
set_option maxHeartbeats 16000000
namespace Go.Proofs.YtnandbihiceihaaGreatDoor
open RowKit Go.ChangeShapes Go.WideShapes Go.ChangeAt Vc Go.Proofs.Tryz
theorem Bo (os:Os)(started:os.Started)(H:Type)(enc:TypeId×Value->H) :
  ReturnsInHanded {} Tryz.checked os 4 .any (fun w args=>(Rows.worldTablesSpec.pre enc Tryz.prog Tryz.f4 [] false w args∧laidMetH Tryz.prog Rows.worldTablesRow.laid w)∧sizedMet enc Tryz.prog Tryz.f4 (OpenSpec.ofChange Rows.worldTablesSpec) false w args)
   (Rows.worldTablesSpec.post enc Tryz.prog Tryz.f4 false true false false):=by
 refine returnsInHanded_of_change_and (C:=Tryz.checked) (X:=fun w _=>laidMetH Tryz.prog Rows.worldTablesRow.laid w) (fun _ _ _ hh h=>h.of_heap hh) Fj started aag func4
  (ChangeSpec.witness_shaped (enc:=enc) (C:=Tryz.checked) (os:=os) (X:=fun w _=>laidMetH Tryz.prog Rows.worldTablesRow.laid w) false (World.doorLaid Tryz.prog 400 os) #[.slice none 0 0, .slice none 0 0, .int .u8 0, .int .u8 0, .int .u8 0, .int .u8 0, .int .i64 0, .int .u8 0, .int .i64 0, .int .u8 0, .int .u8 0] 8 rfl (World.shaped_of_RefB aag aag) aag aag aag (Fp os _)) ?_
 intro W base args ds gs before hval0 hW _ hwt hL _
 have hval : ∀(j:Nat) t v,Tryz.f4.params[j]? = some t->args[j]? = some v->Value.okWide Tryz.prog W .any base t v:=hval0
 obtain⟨p,q,hA0,hV,hpq,hfz,hnd⟩:=id hW
 have hA:DataW.TrodAll enc Tryz.prog W 0 (fun _=>true) true Tryz.f4.params.toList args.toList ds p:=hA0
 rw [Tryz.params4]at hA hval
 obtain⟨v0,v1,v2,v3,v4,v5,v6,v7,v8,v9,v10,d0,d1,d2,d3,d4,d5,d6,d7,d8,d9,d10,p0,p1,p2,p3,p4,p5,p6,p7,p8,p9,p10,rfl,rfl,rfl,h0,h1,h2,h3,h4,h5,h6,h7,h8,h9,h10⟩:=IY hA
 obtain⟨oa0,l0,c0,hc0,b0,r0⟩:=Cl.Yq (t:=38) (e:=5) rfl rfl (Ym h0)
 obtain rfl:=JK (t:=38) (e:=5) rfl (hval 0 38 v0 rfl rfl) hc0
 obtain⟨oa1,l1,c1,hc1,b1,r1⟩:=Cl.Yq (t:=38) (e:=5) rfl rfl (Ym h1)
 obtain rfl:=JK (t:=38) (e:=5) rfl (hval 1 38 v1 rfl rfl) hc1
 obtain⟨k2,rfl,_,_,w2⟩:=open_int (k:= .u8) rfl (hval 2 5 v2 rfl rfl) h2
 obtain⟨n2,rfl,b2⟩:=Cl.EK w2
 obtain⟨k3,rfl,_,_,w3⟩:=open_int (k:= .u8) rfl (hval 3 5 v3 rfl rfl) h3
 obtain⟨n3,rfl,b3⟩:=Cl.EK w3
 obtain⟨k4,rfl,_,_,w4⟩:=open_int (k:= .u8) rfl (hval 4 5 v4 rfl rfl) h4
 obtain⟨n4,rfl,b4⟩:=Cl.EK w4
 obtain⟨k5,rfl,_,_,w5⟩:=open_int (k:= .u8) rfl (hval 5 5 v5 rfl rfl) h5
 obtain⟨n5,rfl,b5⟩:=Cl.EK w5
 obtain⟨k6,rfl,_,_,w6⟩:=open_int (k:= .i64) rfl (hval 6 3 v6 rfl rfl) h6
 have b6:=Cl.QM w6
 obtain⟨k7,rfl,_,_,w7⟩:=open_int (k:= .u8) rfl (hval 7 5 v7 rfl rfl) h7
 obtain⟨n7,rfl,b7⟩:=Cl.EK w7
 obtain⟨k8,rfl,_,_,w8⟩:=open_int (k:= .i64) rfl (hval 8 3 v8 rfl rfl) h8
 have b8:=Cl.QM w8
 obtain⟨k9,rfl,_,_,w9⟩:=open_int (k:= .u8) rfl (hval 9 5 v9 rfl rfl) h9
 obtain⟨n9,rfl,b9⟩:=Cl.EK w9
 obtain⟨k10,rfl,_,_,w10⟩:=open_int (k:= .u8) rfl (hval 10 5 v10 rfl rfl) h10
 obtain⟨n10,rfl,b10⟩:=Cl.EK w10
 refine Calls.mono (Ax.RS (Cl.Ti l0 l1 n2 n3 n4 n5 k6 n7 k8 n9 n10 b2 b3 b4 b5 b6 b7 b8 b9 b10) W (Cl.aiU hL) _ ⟨r0,r1, .v _, .v _, .v _, .v _, .v _, .v _, .v _, .v _, .v _,trivial⟩) ?_
 rintro e W' ⟨v,rfl,rfl,hB⟩
 exact⟨_,rfl,Yn En IZ rfl rfl rfl (fun ds h=>by
  match ds,h with
  | [_,_,_,_,_,_,_,_,_,_,_],_=>rfl) hW hB⟩
end Go.Proofs.YtnandbihiceihaaGreatDoor
