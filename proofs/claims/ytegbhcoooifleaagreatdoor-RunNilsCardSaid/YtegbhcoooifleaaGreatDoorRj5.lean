/- The closed facts of the row and the card of RunNils. Own work; no condition. -/
import Derived.Test.YtegbhcoooifleaaGreatDoorRj1
import Derived.Test.YtegbhcoooifleaaGreatDoorRj2
import Derived.Test.YtegbhcoooifleaaGreatDoorRj3
import Derived.Test.YtegbhcoooifleaaGreatDoorRj4
import Derived.Test.YtegbhcoooifleaaGreatDoorCards
import Derived.SevenTiedAt
namespace Go.Proofs.YtegbhcoooifleaaGreatDoor
open Go
set_option maxRecDepth 100000
set_option maxHeartbeats 8000000 in
theorem jfacts : joinedFacts Tryz.pinned.checked.prog 3 Tryz.f3 (OpenSpec.ofChange Rows.runNilsSpec).bare Rows.runNilsRow = true := by
  simp only [joinedFacts, Bool.and_eq_true]
  repeat' apply And.intro
  all_goals first
    | with_reducible exact jf1
    | with_reducible exact jf2
    | with_reducible exact jf3
    | with_reducible exact jf4
    | (as_aux_lemma => kernel_rfl)
theorem rowN : Tryz.pinned.checked.prog.funcNamed Rows.runNilsRow.func = some 3 := by kernel_rfl
end Go.Proofs.YtegbhcoooifleaaGreatDoor
