/- sort. Own work; no condition. -/
import Derived.Test.YtcajncmjlmpkgaaPc24
import Derived.Test.YtcajncmjlmpkgaaPcPw2
import Derived.Shelf.GgSortMore.Stable
import Derived.Shelf.GgSortFunc.SmallK
namespace Go.Proofs.Ytcajncmjlmpkgaa
open Go Go.RowKit Go.Sort Go.Shelf
set_option linter.unusedVariables false
set_option linter.unusedSimpArgs false
set_option maxRecDepth 100000
section
variable {α : Type} [Inhabited α] {enc : α → List Value} {w : World} {blk : Nat} {d : Array α} {lt : α → α → Bool}
end
end Go.Proofs.Ytcajncmjlmpkgaa
