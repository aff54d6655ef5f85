/- VecSays: what comes in; the law. Own work; no condition. -/
import Derived.Test.YtnhmnfokbinplaaMu46
import Derived.Test.YtnhmnfokbinplaaRdU
namespace Go.Proofs.Ytnhmnfokbinplaa
open Go Go.RowKit
set_option maxRecDepth 100000
set_option linter.unusedSimpArgs false
set_option linter.unusedVariables false

theorem fits22 {n : Nat} {x : PV} (h : FitsA Try.prog n 22 x) : ∃ l : List Int, x = .sl (l.map i64c) := by
  obtain ⟨m, es, rfl, h1, _, h4⟩ := (h.one Try.underlying22 rfl).slice Try.underlying22
  simp only [List.cons.injEq, and_true] at h1
  subst h1
  obtain ⟨l, rfl, hl⟩ := elems_of (enc := i64c) (ok := fun _ => True) (fun x hx => by
    obtain ⟨v, e, w⟩ := (h4 x hx).2.int Try.underlying3
    exact ⟨v, e.symm, trivial⟩)
  exact ⟨l, rfl⟩
theorem bk_len {α : Type} {enc : α → List PV} (he : ∀ x, enc x ≠ []) (l : List α) : l.length ≤ bkLL (l.map enc) := by
  have := bkLL_len (l.map enc) (fun e h => by obtain ⟨x, _, rfl⟩ := List.mem_map.1 h; exact he x)
  simpa using this
end Go.Proofs.Ytnhmnfokbinplaa
