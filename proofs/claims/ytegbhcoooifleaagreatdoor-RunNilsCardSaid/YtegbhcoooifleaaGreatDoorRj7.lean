/- A closed fact of the card of RunNils. Own work; no condition. -/
import Derived.Test.YtegbhcoooifleaaGreatDoorCards
import Derived.SevenTiedAt
namespace Go.Proofs.YtegbhcoooifleaaGreatDoor
open Go
set_option maxRecDepth 100000
theorem cardG : false = Rows.runNilsRow.goesBy Tryz.pinned.checked.prog := by kernel_rfl
end Go.Proofs.YtegbhcoooifleaaGreatDoor
