/- Joined parts of the proof. The law WorldTables holds, with its card: both Tables return the same result or error -/
import Derived.Test.YtnandbihiceihaaGreatDoorCards
import Derived.Test.YtnandbihiceihaaGreatDoorTie
import Derived.ProofKit
import Derived.SevenTiedAt
import Derived.Test.YtnandbihiceihaaGreatDoorLwWTb
import Derived.Test.YtnandbihiceihaaGreatDoorLwWTc1
import Derived.Test.YtnandbihiceihaaGreatDoorLwWTc2
import Derived.Test.YtnandbihiceihaaGreatDoorLwWTc3
import Derived.Test.YtnandbihiceihaaGreatDoorLwWTc4
import Derived.Test.YtnandbihiceihaaGreatDoorLwWTc5
import Derived.Test.YtnandbihiceihaaGreatDoorLwWTc6
set_option linter.unusedVariables false
set_option linter.unusedSimpArgs false
set_option maxRecDepth 100000
set_option maxHeartbeats 16000000
namespace Go.Proofs.YtnandbihiceihaaGreatDoor
open RowKit Go.ChangeShapes Go.WideShapes Go.ChangeAt Vc Go.Proofs.Tryz
theorem aks {a b:Bool}(h:a=true)(k:b=true):(a&&b)=true:=by rw [h,k];rfl
theorem akt:joinedFacts Tryz.prog 4 Tryz.f4 Rows.worldTablesSpec Rows.worldTablesRow=true:=
 (aks (aks (aks (aks (aks (aks (aks (aks (aks (aks (aks (aks (aks (aks (aks (aks (aks (aks (aks (aks (aks (aks (aks (aks (aks (aks (aks (aks (aks (aks (aks aag En) akH) aag) aag) aag) aag) aag) aag) aku) akv) akw) akx) aag) aag) aag) aag) aag) aag) aag) aag) aag) akA) aag) akB) aky) aag) aag) aag) aag) aag) aag)
theorem Bq:Rows.WorldTablesSaid:=
 OpenClaim.holds_of_wide 4 Tryz.f4 rfl rfl rfl rfl rfl rfl rfl ⟨rfl,rfl,rfl,rfl,rfl⟩ rfl rfl rfl rfl rfl akE func4 akt
  (of_decide_eq_true aag) (by unfold Func.isWrapper;first|(rw [if_pos aaQ];kernel_rfl)|(rw [if_neg aaQ];exact⟨rfl,rfl⟩))
  (fun os started H enc _=>Bo os started H enc)
end Go.Proofs.YtnandbihiceihaaGreatDoor
