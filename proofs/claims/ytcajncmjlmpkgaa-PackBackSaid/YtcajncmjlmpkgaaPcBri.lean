/- Rows of one's own that a contract of the kit's shelf tells to be written anew in place: what that is to the abstract heap. Own work; no condition. -/
import Derived.Test.YtcajncmjlmpkgaaPcAbsY
import Derived.Test.YtcajncmjlmpkgaaPcAbsR
import Derived.Test.YtcajncmjlmpkgaaPc42
import Derived.Sort.Row
import Derived.Sort.Grow
namespace Go.Proofs.Ytcajncmjlmpkgaa
open Go Go.RowKit Go.Sort
set_option linter.unusedVariables false
theorem below_end (w : World) (n : Nat) (os : Array Obj) : Go.RowKit.Below w.heap.size w (grow (Sort.ahead w n) os) :=
 ⟨rfl, rfl, rfl, by rw [size_grow]; exact Nat.le_add_right _ _, fun k hk => by
   show (w.heap ++ os)[k]? = _
   rw [Array.getElem?_append_left hk]⟩
end Go.Proofs.Ytcajncmjlmpkgaa
