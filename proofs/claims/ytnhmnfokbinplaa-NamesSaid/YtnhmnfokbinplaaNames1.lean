/- Names: the walk. Own work; no condition. -/
import Derived.Test.YtnhmnfokbinplaaTy
import Derived.Test.YtnhmnfokbinplaaAbs21
namespace Go.Proofs.Ytnhmnfokbinplaa
open Go Go.RowKit
set_option maxRecDepth 100000
set_option linter.unusedSimpArgs false
set_option linter.unusedVariables false

def must : List Int := [0, 1, 2, 3, 4, 5, 6, 7, 8, 9, 10, 1000, 32, 4096, 40, 400, 40, 5, 1024, 4, 65536, 64, 1024, 20000, 0, 1, 2, 1, 2, 3, 4, 5, 6, 7, 8, 9, 10, 11, 12, 13, 14, 15, 16, 17, 18, 19, 20, 21, 1, 2, 3, 4, 5, 6, 1, 2, 3, 4, 5, 6, 1, 2, 3, 4, 5, 6, 7, 8, 9, 10, 11, 12]
def i64c (x : Int) : List PV := [.int .i64 x]

theorem names_c : PCall Try.prog 3 [] fun r => r = [.bool true] := by
  obtain ⟨m, hm⟩ : ∃ m, must = m := ⟨_, rfl⟩
  obtain ⟨L, hL⟩ : ∃ L, m.map i64c = L := ⟨_, rfl⟩
  have hm72 : m.length = 72 := by subst hm; rfl
  refine PCall.x (nt := 26) (res := [.tmp 0]) mixed tt_ok Try.func3 rfl rfl rfl c3 (Nat.le_of_ble_eq_true rfl) ?_
  intro cp cc lp Q' hcp hcc hlp hQ
  repeat' (first
    | (with_reducible refine Nm.mk ?_; intro z hz)
    | (with_reducible refine IfB.mk ?_ ?_ <;> (intro h; cases h))
    | (with_reducible refine Asm.mk ?_ ?_; kernel_rfl)
    | (with_reducible refine Asm.mk2 ?_ ?_)
    | ((fail_if_success (with_reducible refine hQ _ ?_)); (fail_if_success (with_reducible refine Side.mk ?_)); (fail_if_success (with_reducible refine isCP hcp ?_)); (fail_if_success (with_reducible refine isCC hcc ?_)); (fail_if_success (with_reducible refine isLP hlp ?_)); (fail_if_success (with_reducible refine Ix.mk ?_)); (fail_if_success (with_reducible refine SIx.mk ?_)); (fail_if_success (with_reducible show False)); (fail_if_success (with_reducible refine hR ?_ _ ?_ ?_ ?_ ?_ ?_)); (fail_if_success (with_reducible refine hR2 ?_ _ ?_ ?_ ?_ ?_ ?_)); cbv))
  have hz : z = 72 := by rw [← hz]; rfl
  subst hz
  refine loopX (ι := Int) mixed tt_ok hcp hcc hlp [] (fun i => [(1, .full L), (2, .full L), (7, .p (.int .i64 72)), (8, .p (.int .i64 i))]) (fun _ => []) (fun i => 0 ≤ i ∧ i ≤ 72) (fun i => (72 - i).toNat) 0 (by omega) ⟨by subst hL hm; rfl, by subst hL hm; rfl, rfl, rfl, trivial⟩ rfl ?_
  clear hz
  intro R i hi hR
  repeat' (first
    | (with_reducible refine Nm.mk ?_; intro z hz)
    | (with_reducible refine IfB.mk ?_ ?_ <;> (intro h; cases h))
    | (with_reducible refine Asm.mk ?_ ?_; kernel_rfl)
    | (with_reducible refine Ix.map hL (fun _ => rfl) (by decide) ?_ ?_ ?_; (simp only [decide_eq_true_eq] at *; omega); (simp only [decide_eq_true_eq] at *; omega); intro x hx)
    | (with_reducible refine Asm.mk2 ?_ ?_)
    | ((fail_if_success (with_reducible refine hQ _ ?_)); (fail_if_success (with_reducible refine Side.mk ?_)); (fail_if_success (with_reducible refine isCP hcp ?_)); (fail_if_success (with_reducible refine isCC hcc ?_)); (fail_if_success (with_reducible refine isLP hlp ?_)); (fail_if_success (with_reducible refine Ix.mk ?_)); (fail_if_success (with_reducible refine SIx.mk ?_)); (fail_if_success (with_reducible show False)); (fail_if_success (with_reducible refine hR ?_ _ ?_ ?_ ?_ ?_ ?_)); (fail_if_success (with_reducible refine hR2 ?_ _ ?_ ?_ ?_ ?_ ?_)); cbv))
  · rename_i hz0 x1 hx1
    rw [hx1] at hx
    cases hx
    simp at hz
  · rename_i z hz
    rw [wrap_in (by simp only [decide_eq_true_eq] at *; omega)] at hz
    subst hz
    refine hR (i + 1) _ ?_ ?_ ?_ ?_ ?_
    · simp only [decide_eq_true_eq] at *; omega
    · simp only [decide_eq_true_eq] at *; omega
    · exact ⟨rfl, rfl, rfl, rfl, trivial⟩
    · trivial
    · rfl
  · refine hQ _ ?_
    clear hQ hcp hcc hlp hR
    subst_vars
    simp

end Go.Proofs.Ytnhmnfokbinplaa
