/- A closed fact of the card of RunNils. Own work; no condition. -/
import Derived.Test.YtegbhcoooifleaaGreatDoorCards
import Derived.SevenTiedAt
namespace Go.Proofs.YtegbhcoooifleaaGreatDoor
open Go
set_option maxRecDepth 100000
theorem cardW : Rows.runNilsRow.wfByText (OpenSpec.ofChange Rows.runNilsSpec) = true := by kernel_rfl
end Go.Proofs.YtegbhcoooifleaaGreatDoor
