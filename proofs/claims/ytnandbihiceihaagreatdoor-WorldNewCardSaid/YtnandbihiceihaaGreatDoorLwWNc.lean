/- Joined parts of the proof. The law WorldNew holds, with its card: both New return the same world or error -/
import Derived.Test.YtnandbihiceihaaGreatDoorCards
import Derived.Test.YtnandbihiceihaaGreatDoorTie
import Derived.ProofKit
import Derived.SevenTiedAt
import Derived.Test.YtnandbihiceihaaGreatDoorLwWNb
import Derived.Test.YtnandbihiceihaaGreatDoorLwWNc1
import Derived.Test.YtnandbihiceihaaGreatDoorLwWNc2
import Derived.Test.YtnandbihiceihaaGreatDoorLwWNc3
import Derived.Test.YtnandbihiceihaaGreatDoorLwWNc4
import Derived.Test.YtnandbihiceihaaGreatDoorLwWNc5
import Derived.Test.YtnandbihiceihaaGreatDoorLwWNc6
set_option linter.unusedVariables false
set_option linter.unusedSimpArgs false
set_option maxRecDepth 100000
set_option maxHeartbeats 16000000
namespace Go.Proofs.YtnandbihiceihaaGreatDoor
open RowKit Go.ChangeShapes Go.WideShapes Go.ChangeAt Vc Go.Proofs.Tryz
theorem abB {a b:Bool}(h:a=true)(k:b=true):(a&&b)=true:=by rw [h,k];rfl
theorem abC:joinedFacts Tryz.prog 3 Tryz.f3 Rows.worldNewSpec Rows.worldNewRow=true:=
 (abB (abB (abB (abB (abB (abB (abB (abB (abB (abB (abB (abB (abB (abB (abB (abB (abB (abB (abB (abB (abB (abB (abB (abB (abB (abB (abB (abB (abB (abB (abB aac CG) abN) aac) aac) aac) aac) aac) aac) abE) abG) abH) abI) aac) aac) aac) aac) aac) aac) aac) aac) aac) abK) aac) abL) abJ) aac) aac) aac) aac) aac) aac)
theorem zk:Rows.WorldNewSaid:=
 OpenClaim.holds_of_wide 3 Tryz.f3 rfl rfl rfl rfl rfl rfl rfl ⟨rfl,rfl,rfl,rfl,rfl⟩ rfl rfl rfl rfl rfl abM func3 abC
  (of_decide_eq_true aac) (by unfold Func.isWrapper;first|(rw [if_pos aaq];kernel_rfl)|(rw [if_neg aaq];exact⟨rfl,rfl⟩))
  (fun os started H enc _=>zi os started H enc)
end Go.Proofs.YtnandbihiceihaaGreatDoor
