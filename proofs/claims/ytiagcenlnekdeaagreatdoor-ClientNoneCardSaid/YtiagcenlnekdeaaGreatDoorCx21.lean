/- Texts merged by pack.py: Fac. -/
import Derived.Test.YtiagcenlnekdeaaGreatDoorCards
import Derived.Test.YtiagcenlnekdeaaGreatDoorTie
import Derived.ProofKit
import Derived.JoinedCond
set_option maxRecDepth 1000000
set_option maxHeartbeats 16000000
set_option linter.unusedSimpArgs false
set_option linter.unusedVariables false
namespace Go.Proofs.YtiagcenlnekdeaaGreatDoor
theorem b6e:joinedFacts Tryz.pinned.checked.prog 3 Tryz.f3 (OpenSpec.ofChange Rows.clientNoneSpec).bare Rows.clientNoneRow=true:=by kernel_rfl
end Go.Proofs.YtiagcenlnekdeaaGreatDoor
