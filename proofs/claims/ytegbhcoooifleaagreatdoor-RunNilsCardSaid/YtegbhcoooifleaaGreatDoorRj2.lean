/- A closed fact of the row of RunNils: 'unfollowed' is what the program forces. Own work; no condition. -/
import Derived.Test.YtegbhcoooifleaaGreatDoorRows
import Derived.JoinedOf
import Derived.JoinedCond
namespace Go.Proofs.YtegbhcoooifleaaGreatDoor
open Go
set_option maxRecDepth 100000
theorem jf2 : (Rows.runNilsRow.unfollowed == Tryz.pinned.checked.prog.unfollowed 3) = true := by kernel_rfl
end Go.Proofs.YtegbhcoooifleaaGreatDoor
