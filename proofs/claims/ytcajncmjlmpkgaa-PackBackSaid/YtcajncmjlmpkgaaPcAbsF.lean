/- A cell that is told as what any holder may see of it. Own work; no condition. -/
import Derived.Test.YtcajncmjlmpkgaaPcAbs26
namespace Go.Proofs.Ytcajncmjlmpkgaa
open Go Go.RowKit
end Go.Proofs.Ytcajncmjlmpkgaa
