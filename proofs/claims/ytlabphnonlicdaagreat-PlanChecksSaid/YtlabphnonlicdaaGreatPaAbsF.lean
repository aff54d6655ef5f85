/- A cell that is told as what any holder may see of it. Own work; no condition. -/
import Derived.Test.YtlabphnonlicdaaGreatPaAbs26
namespace Go.Proofs.YtlabphnonlicdaaGreat
open Go Go.RowKit
end Go.Proofs.YtlabphnonlicdaaGreat
