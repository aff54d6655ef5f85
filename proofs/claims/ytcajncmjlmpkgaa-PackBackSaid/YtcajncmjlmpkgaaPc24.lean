/- sort; sort. Own work; no condition. -/
import Derived.Test.YtcajncmjlmpkgaaPc18
import Derived.Sort.LotA
namespace Go.Proofs.Ytcajncmjlmpkgaa
open Go Go.RowKit Go.Sort Go.Shelf
set_option linter.unusedVariables false
set_option linter.unusedSimpArgs false
set_option maxRecDepth 100000
section
variable {α : Type} [Inhabited α] {enc : α → List Value} {k : Nat} {w W W' : World} {blk size : Nat} {d dk d' : Array α} {lt : α → α → Bool}
end
end Go.Proofs.Ytcajncmjlmpkgaa

namespace Go.Proofs.Ytcajncmjlmpkgaa
open Go Go.RowKit Go.Sort Go.Shelf
set_option linter.unusedVariables false
set_option linter.unusedSimpArgs false
set_option maxRecDepth 100000
section
variable {α : Type} [Inhabited α] {enc : α → List Value} {k : Nat} {w W W' : World} {blk size : Nat} {d dk d' : Array α} {lt : α → α → Bool}
inductive RunsFrom (lt : α → α → Bool) (bs n : Nat) (d : Array α) : Nat → Prop
 | stop {a : Nat} (h : n ≤ a) : RunsFrom lt bs n d a
 | cons {a : Nat} (h : SortedIn lt a (min (a + bs) n) d) (r : RunsFrom lt bs n d (a + bs)) : RunsFrom lt bs n d a
inductive RunsTo (lt : α → α → Bool) (bs : Nat) (d : Array α) : Nat → Prop
 | zero : RunsTo lt bs d 0
 | snoc {a : Nat} (r : RunsTo lt bs d a) (h : SortedIn lt a (a + bs) d) : RunsTo lt bs d (a + bs)
theorem RunsTo.keep {bs a : Nat} {d d1 : Array α} (h : RunsTo lt bs d a) (k : ∀ i, i < a → d1[i]! = d[i]!) : RunsTo lt bs d1 a := by
 induction h with
 | zero => exact .zero
 | snoc h1 h2 ih => exact .snoc (ih fun i hi => k i (by omega)) (sorted_keep h2 fun i _ hi => k i hi)
theorem RunsFrom.keep {bs n a : Nat} {d d1 : Array α} (h : RunsFrom lt bs n d a) (k : ∀ i, a ≤ i → d1[i]! = d[i]!) : RunsFrom lt bs n d1 a := by
 induction h with
 | stop h => exact .stop h
 | cons h r ih => exact .cons (sorted_keep h fun i hi _ => k i hi) (ih fun i hi => k i (by omega))
theorem RunsFrom.head {bs n a : Nat} (h : RunsFrom lt bs n d a) : SortedIn lt a (min (a + bs) n) d := by
 cases h with
 | stop h => intro i j hi hij hj; omega
 | cons h r => exact h
theorem RunsFrom.tail {bs n a : Nat} (h : RunsFrom lt bs n d a) : RunsFrom lt bs n d (a + bs) := by
 cases h with
 | stop h => exact .stop (by omega)
 | cons h r => exact r
end
end Go.Proofs.Ytcajncmjlmpkgaa
