/-
  Which of the anchor's classes is below which, by the document: the run's other pieces. No condition.
-/
import Derived.Test.YtijkkgloennglaaGreatDoorAa
set_option linter.all false
set_option maxRecDepth 100000
namespace Go.Proofs.YtijkkgloennglaaGreatDoor.Ab
open Go Go.RowKit
theorem run43_8 : iterN (runC tys cal43 1000 q43) [0, 3, 9] 4 e43_4 s43_4 = some (e43_8, s43_8) := by kernel_rfl
end Go.Proofs.YtijkkgloennglaaGreatDoor.Ab
