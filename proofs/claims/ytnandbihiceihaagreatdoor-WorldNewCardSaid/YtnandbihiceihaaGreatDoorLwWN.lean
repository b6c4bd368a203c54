/- The law WorldNew holds, with its card: both New return the same world or error. No condition beyond the card's. -/
import Derived.Test.YtnandbihiceihaaGreatDoorCards
import Derived.Test.YtnandbihiceihaaGreatDoorTie
import Derived.ProofKit
import Derived.SevenTiedAt
import Derived.Test.YtnandbihiceihaaGreatDoorLwWNc
import Derived.Test.YtnandbihiceihaaGreatDoorLwWNd1
import Derived.Test.YtnandbihiceihaaGreatDoorLwWNd2
import Derived.Test.YtnandbihiceihaaGreatDoorLwWNd3
import Derived.Test.YtnandbihiceihaaGreatDoorLwWNd4
set_option linter.unusedVariables false
set_option linter.unusedSimpArgs false
set_option maxRecDepth 100000
set_option maxHeartbeats 16000000
namespace Go.Proofs.YtnandbihiceihaaGreatDoor
open RowKit Go.ChangeShapes Go.WideShapes Go.ChangeAt Vc Go.Proofs.Tryz
theorem worldNew_holds:Rows.WorldNewCardSaid:=
 Claim7.holds_tied_plain_at .later [] Rows.worldNewCard.laidKinds true Rows.worldNewCard.stood.harness false
  zk (fun _ h=>by cases h) aac (fun _ h=>by cases h) worldNew_row_tie rfl ⟨rfl,rfl⟩ abO rfl
  (fun f fn hf hfn=>by
   obtain rfl:f=3:=iR (abM.symm.trans hf) |>.symm
   obtain rfl:fn=Tryz.f3:=(iR (func3.symm.trans hfn)).symm
   exact⟨abP,fun j t ht=>by
    have hm:t∈Tryz.f3.params.toList:=by simpa using Array.mem_of_getElem? ht
    have hall:(Tryz.f3.params.toList.all fun u=> !Tryz.prog.wantsStandIn u)=true:=abQ
    exact(show Tryz.prog.wantsStandIn t=false by simpa using bf.1 hall t hm)⟩)
  abR
end Go.Proofs.YtnandbihiceihaaGreatDoor
