/- Joined parts of the proof. The law WorldNew holds, with its card: both New return the same world or error -/
import Derived.Test.YtnandbihiceihaaGreatDoorCards
import Derived.Test.YtnandbihiceihaaGreatDoorTie
import Derived.Test.YtnandbihiceihaaGreatDoorNk12
import Derived.Test.YtnandbihiceihaaGreatDoorNk16
import Derived.ProofKit
import Derived.SevenTiedAt
set_option linter.unusedVariables false
set_option linter.unusedSimpArgs false
set_option maxRecDepth 100000
set_option maxHeartbeats 16000000
namespace Go.Proofs.YtnandbihiceihaaGreatDoor
open RowKit Go.ChangeShapes Go.WideShapes Go.ChangeAt Vc
theorem EN:ownKnob Tryz.prog.godebug=none:=aac
theorem CG:laidOutB Tryz.prog=true:=aac
theorem Hz:(Tryz.f3.params.toList.all fun t=>Tryz.prog.readableRec t&&Nat.blt t Tryz.prog.types.size)=true:=aac
theorem EO (os:Os)(args:Array Value):laidMetH Tryz.prog Rows.worldNewRow.laid ((World.doorLaid Tryz.prog 400 os).forCall (fun _ _=>0) ⟨#[],args,[]⟩).memory:=
 laidMetH_of_parts3 (fuel:=8) (laidMet_of_run' 8 aac aac) aac aac
end Go.Proofs.YtnandbihiceihaaGreatDoor
