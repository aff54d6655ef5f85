/- VecSays: the law, of whatever comes in. Own work; no condition. -/
import Derived.Test.YtnhmnfokbinplaaVec18
namespace Go.Proofs.Ytnhmnfokbinplaa
open Go Go.RowKit

set_option maxRecDepth 100000
theorem vecSays_lawU {k0 k1 k2 k3 : Nat} {x0 x1 x2 x3 : PV} (f0 : FitsA Try.prog k0 34 x0) (f1 : FitsA Try.prog k1 34 x1) (f2 : FitsA Try.prog k2 22 x2) (f3 : FitsA Try.prog k3 3 x3)
    (b0 : bk x0 ≤ 1048577) (b1 : bk x1 ≤ 1048577) (b2 : bk x2 ≤ 1048577) (_ : bk x3 ≤ 1048577) : PCall Try.prog 9 [x0, x1, x2, x3] fun r => r = [.bool true] := by
  obtain ⟨a, B, N, S, rfl⟩ := fits34 f0
  obtain ⟨a', B', N', S', rfl⟩ := fits34 f1
  obtain ⟨P, rfl⟩ := fits22 f2
  obtain ⟨i, rfl, _⟩ := fits3 f3
  obtain ⟨l1, l2, l3⟩ := vec_bk b0
  obtain ⟨l1', l2', l3'⟩ := vec_bk b1
  exact vecSays_c a B N S _ _ _ rfl rfl rfl a' B' N' S' _ _ _ rfl rfl rfl P _ rfl i l1 l2 l3 l1' l2' l3' (nums_bk b2)

end Go.Proofs.Ytnhmnfokbinplaa
