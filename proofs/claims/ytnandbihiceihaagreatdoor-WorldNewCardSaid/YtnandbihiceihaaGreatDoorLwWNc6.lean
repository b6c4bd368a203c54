/- Joined parts of the proof. The law WorldNew holds, with its card: both New return the same world or error -/
import Derived.Test.YtnandbihiceihaaGreatDoorCards
import Derived.Test.YtnandbihiceihaaGreatDoorTie
import Derived.ProofKit
import Derived.SevenTiedAt
set_option linter.unusedVariables false
set_option linter.unusedSimpArgs false
set_option maxRecDepth 100000
set_option maxHeartbeats 16000000
namespace Go.Proofs.YtnandbihiceihaaGreatDoor
open RowKit Go.ChangeShapes Go.WideShapes Go.ChangeAt
theorem abK:(Rows.worldNewRow.plainKeys==Tryz.prog.plainKeys)=true:=by kernel_rfl
theorem abL:Tryz.prog.stopsHeard=true:=by kernel_rfl
theorem abM:Tryz.prog.funcNamed Rows.worldNewRow.func=some 3:=by kernel_rfl
end Go.Proofs.YtnandbihiceihaaGreatDoor
