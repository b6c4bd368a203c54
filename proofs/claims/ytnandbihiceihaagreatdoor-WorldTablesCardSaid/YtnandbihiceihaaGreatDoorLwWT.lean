/- The law WorldTables holds, with its card: both Tables return the same result or error. No condition beyond the card's. -/
import Derived.Test.YtnandbihiceihaaGreatDoorCards
import Derived.Test.YtnandbihiceihaaGreatDoorTie
import Derived.ProofKit
import Derived.SevenTiedAt
import Derived.Test.YtnandbihiceihaaGreatDoorLwWTc
import Derived.Test.YtnandbihiceihaaGreatDoorLwWTd1
import Derived.Test.YtnandbihiceihaaGreatDoorLwWTd2
import Derived.Test.YtnandbihiceihaaGreatDoorLwWTd3
import Derived.Test.YtnandbihiceihaaGreatDoorLwWTd4
set_option linter.unusedVariables false
set_option linter.unusedSimpArgs false
set_option maxRecDepth 100000
set_option maxHeartbeats 16000000
namespace Go.Proofs.YtnandbihiceihaaGreatDoor
open RowKit Go.ChangeShapes Go.WideShapes Go.ChangeAt Vc Go.Proofs.Tryz
theorem worldTables_holds:Rows.WorldTablesCardSaid:=
 Claim7.holds_tied_plain_at .later [] Rows.worldTablesCard.laidKinds true Rows.worldTablesCard.stood.harness false
  Bq (fun _ h=>by cases h) aag (fun _ h=>by cases h) worldTables_row_tie rfl ⟨rfl,rfl⟩ akI rfl
  (fun f fn hf hfn=>by
   obtain rfl:f=4:=jT (akE.symm.trans hf) |>.symm
   obtain rfl:fn=Tryz.f4:=(jT (func4.symm.trans hfn)).symm
   exact⟨akJ,fun j t ht=>by
    have hm:t∈Tryz.f4.params.toList:=by simpa using Array.mem_of_getElem? ht
    have hall:(Tryz.f4.params.toList.all fun u=> !Tryz.prog.wantsStandIn u)=true:=akM
    exact(show Tryz.prog.wantsStandIn t=false by simpa using bP.1 hall t hm)⟩)
  akP
end Go.Proofs.YtnandbihiceihaaGreatDoor
