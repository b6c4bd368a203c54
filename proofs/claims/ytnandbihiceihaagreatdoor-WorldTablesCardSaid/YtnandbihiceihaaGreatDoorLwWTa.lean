/- Joined parts of the proof. The law WorldTables holds, with its card: both Tables return the same result or error -/
import Derived.Test.YtnandbihiceihaaGreatDoorCards
import Derived.Test.YtnandbihiceihaaGreatDoorTie
import Derived.Test.YtnandbihiceihaaGreatDoorPk12
import Derived.Test.YtnandbihiceihaaGreatDoorPk24
import Derived.ProofKit
import Derived.SevenTiedAt
set_option linter.unusedVariables false
set_option linter.unusedSimpArgs false
set_option maxRecDepth 100000
set_option maxHeartbeats 16000000
namespace Go.Proofs.YtnandbihiceihaaGreatDoor
open RowKit Go.ChangeShapes Go.WideShapes Go.ChangeAt Vc
theorem Fj:ownKnob Tryz.prog.godebug=none:=aag
theorem En:laidOutB Tryz.prog=true:=aag
theorem IZ:(Tryz.f4.params.toList.all fun t=>Tryz.prog.readableRec t&&Nat.blt t Tryz.prog.types.size)=true:=aag
theorem Fp (os:Os)(args:Array Value):laidMetH Tryz.prog Rows.worldTablesRow.laid ((World.doorLaid Tryz.prog 400 os).forCall (fun _ _=>0) ⟨#[],args,[]⟩).memory:=
 laidMetH_of_parts3 (fuel:=8) (laidMet_of_run' 8 aag aag) aag aag
end Go.Proofs.YtnandbihiceihaaGreatDoor
