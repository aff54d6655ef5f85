/- A closed fact of the row of RunNils: 'named' is what the program forces. Own work; no condition. -/
import Derived.Test.YtegbhcoooifleaaGreatDoorRows
import Derived.JoinedOf
import Derived.JoinedCond
namespace Go.Proofs.YtegbhcoooifleaaGreatDoor
open Go
set_option maxRecDepth 100000
theorem jf4 : (Rows.runNilsRow.named == Tryz.pinned.checked.prog.varsNamed 3) = true := by kernel_rfl
end Go.Proofs.YtegbhcoooifleaaGreatDoor
