/- sketch.Often: Compare of texts, walked in the world. Own work; no condition. -/
import Derived.Test.YtaaocppaepnhbaaOf6
import Derived.Lib.Bytealg
namespace Go.Proofs.Ytaaocppaepnhbaa
open Go Go.RowKit Go.Deep
set_option linter.unusedVariables false
set_option linter.unusedSimpArgs false

def cmpS (a b : ByteArray) : Int := Lib.compareBytes a.data.toList b.data.toList
set_option maxRecDepth 100000 in
theorem compareString_w (a b : ByteArray) (w : World) : Calls Try.prog 41 #[.string a, .string b] w fun e w' => e = .returned (.int .i64 (cmpS a b)) ∧ w' = w := by
  go_enter Try.func41, Try.ntmps41
  go_wp2
  rw [run_callFunc_extern Try.func48 (by kernel_rfl) (by kernel_rfl) (by kernel_rfl) (e := Extern.BytealgCompare.compare) (by kernel_rfl), Lib.run_compareString]
  simp only [Result.andThen]
  rw [Oper.upon_value]
  go_wp2
  go_ret
  exact ⟨rfl, rfl⟩
set_option maxRecDepth 100000 in
theorem strCompare_w (a b : ByteArray) (w : World) : Calls Try.prog 27 #[.string a, .string b] w fun e w' => e = .returned (.int .i64 (cmpS a b)) ∧ w' = w := by
  go_enter Try.func27, Try.ntmps27
  go_wp2_with (first | (go_at_call 41; refine (compareString_w _ _ _).mono ?_; rintro e w1 ⟨rfl, rfl⟩))
  go_ret
  exact ⟨rfl, rfl⟩
