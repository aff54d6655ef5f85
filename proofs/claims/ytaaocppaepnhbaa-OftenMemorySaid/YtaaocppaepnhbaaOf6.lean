/- sketch.Often: Compare of numbers, walked in the world. Own work; no condition. -/
import Derived.Test.YtaaocppaepnhbaaOf5
namespace Go.Proofs.Ytaaocppaepnhbaa
open Go Go.RowKit Go.Deep
set_option linter.unusedVariables false
set_option linter.unusedSimpArgs false

def cmpI (a b : Int) : Int := if a < b then -1 else if b < a then 1 else 0
set_option maxRecDepth 100000 in
theorem compare3_w (a b : Int) (w : World) : Calls Try.prog 25 #[.int .i64 a, .int .i64 b] w fun e w' => e = .returned (.int .i64 (cmpI a b)) ∧ w' = w := by
  have hn : ∀ (c : Int) (W : World), Calls Try.prog 39 #[.int .i64 c] W fun e w' => e = .returned (.bool false) ∧ w' = W := fun c W => by
    go_enter Try.func39, Try.ntmps39
    go_wp2
    go_ret
    simp
  unfold cmpI
  by_cases h1 : a < b
  · go_enter Try.func25, Try.ntmps25
    go_wp2_with (first | (go_at_call 39; with_reducible refine (hn _ _).mono ?_; rintro e w1 ⟨rfl, rfl⟩))
    go_ret
    simp [h1]
  · by_cases h2 : b < a
    · go_enter Try.func25, Try.ntmps25
      go_wp2_with (first | (go_at_call 39; with_reducible refine (hn _ _).mono ?_; rintro e w1 ⟨rfl, rfl⟩))
      go_ret
      simp [h1, h2]
    · go_enter Try.func25, Try.ntmps25
      go_wp2_with (first | (go_at_call 39; with_reducible refine (hn _ _).mono ?_; rintro e w1 ⟨rfl, rfl⟩))
      go_ret
      simp [h1, h2]
set_option maxRecDepth 100000 in
theorem compare2_w (a b : Int) (w : World) : Calls Try.prog 26 #[.int .i64 a, .int .i64 b] w fun e w' => e = .returned (.int .i64 (cmpI a b)) ∧ w' = w := by
  have hn : ∀ (c : Int) (W : World), Calls Try.prog 40 #[.int .i64 c] W fun e w' => e = .returned (.bool false) ∧ w' = W := fun c W => by
    go_enter Try.func40, Try.ntmps40
    go_wp2
    go_ret
    simp
  unfold cmpI
  by_cases h1 : a < b
  · go_enter Try.func26, Try.ntmps26
    go_wp2_with (first | (go_at_call 40; with_reducible refine (hn _ _).mono ?_; rintro e w1 ⟨rfl, rfl⟩))
    go_ret
    simp [h1]
  · by_cases h2 : b < a
    · go_enter Try.func26, Try.ntmps26
      go_wp2_with (first | (go_at_call 40; with_reducible refine (hn _ _).mono ?_; rintro e w1 ⟨rfl, rfl⟩))
      go_ret
      simp [h1, h2]
    · go_enter Try.func26, Try.ntmps26
      go_wp2_with (first | (go_at_call 40; with_reducible refine (hn _ _).mono ?_; rintro e w1 ⟨rfl, rfl⟩))
      go_ret
      simp [h1, h2]
