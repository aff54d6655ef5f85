/- A closed fact of the row of RunNils: 'recurses' is what the program forces. Own work; no condition. -/
import Derived.Test.YtegbhcoooifleaaGreatDoorRows
import Derived.JoinedOf
import Derived.JoinedCond
namespace Go.Proofs.YtegbhcoooifleaaGreatDoor
open Go
set_option maxRecDepth 100000
theorem jf3 : (Rows.runNilsRow.recurses == Tryz.pinned.checked.prog.recurses 3) = true := by kernel_rfl
end Go.Proofs.YtegbhcoooifleaaGreatDoor
