/- sort. Own work; no condition. -/
import Derived.Test.YtcajncmjlmpkgaaProg
import Derived.Shelf.GgSortMore.Lays
namespace Go.Proofs.Ytcajncmjlmpkgaa
open Go Go.Shelf
set_option maxRecDepth 100000
end Go.Proofs.Ytcajncmjlmpkgaa
