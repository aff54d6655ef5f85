/- VecMakes: the law. Own work; no condition. -/
import Derived.Test.YtnhmnfokbinplaaVec2
namespace Go.Proofs.Ytnhmnfokbinplaa
open Go Go.RowKit
set_option maxRecDepth 100000
set_option linter.unusedSimpArgs false
set_option linter.unusedVariables false

theorem vecMakes_c (kind : Int) (l : List Val) (hsz : l.length * 32 ≤ 140737488351232) : PCall Try.prog 5 [.int .i64 kind, .sl (l.map Val.cells)] fun r => r = [.bool true] := by
  obtain ⟨L, hL⟩ : ∃ L, l.map Val.cells = L := ⟨_, rfl⟩
  rw [hL]
  refine PCall.x (nt := 30) (res := [.tmp 4]) mixed tt_ok Try.func5 rfl rfl rfl c5 (Nat.le_of_ble_eq_true rfl) ?_
  intro cp cc lp Q' hcp hcc hlp hQ
  repeat' (first
    | (with_reducible refine Nm.mk ?_; intro z hz)
    | (with_reducible refine IfB.mk ?_ ?_ <;> (intro h; cases h))
    | (with_reducible refine Asm.mk ?_ ?_; kernel_rfl)
    | (with_reducible refine isCP hcp ?_; first | (refine veP hcp (vfrom_c kind l L hL hsz) ?_; intro a n1 n2 n3 e ha h1 h2 h3 he) | (refine veP hcp (rfrom_c kind l L hL hsz) ?_; intro a2 m1 m2 m3 e2 ha2 g1 g2 g3 ge; rw [ha] at ha2; rw [h1] at g1; rw [h2] at g2; rw [h3] at g3; rw [he] at ge; subst ha2 g1 g2 g3 ge) | (refine iP hcp (num_c _) ?_; intro z hz) | (refine bP hcp (sameVec_c a _ _ _ n1 n2 n3 h1 h2 h3) ?_; intro z hz))
    | (with_reducible refine isCC hcc ?_; first | (refine veA hcc (vfrom_c kind l L hL hsz) rfl ?_; intro a n1 n2 n3 e ha h1 h2 h3 he) | (refine veA hcc (rfrom_c kind l L hL hsz) rfl ?_; intro a2 m1 m2 m3 e2 ha2 g1 g2 g3 ge; rw [ha] at ha2; rw [h1] at g1; rw [h2] at g2; rw [h3] at g3; rw [he] at ge; subst ha2 g1 g2 g3 ge) | (refine iA hcc (num_c _) rfl ?_; intro z hz) | (refine bA hcc (sameVec_c a _ _ _ n1 n2 n3 h1 h2 h3) rfl ?_; intro z hz))
    | (with_reducible refine Asm.mk2 ?_ ?_)
    | ((fail_if_success (with_reducible refine hQ _ ?_)); (fail_if_success (with_reducible refine Side.mk ?_)); (fail_if_success (with_reducible refine isCP hcp ?_)); (fail_if_success (with_reducible refine isCC hcc ?_)); (fail_if_success (with_reducible refine isLP hlp ?_)); (fail_if_success (with_reducible refine Ix.mk ?_)); (fail_if_success (with_reducible refine SIx.mk ?_)); (fail_if_success (with_reducible show False)); (fail_if_success (with_reducible refine hR ?_ _ ?_ ?_ ?_ ?_ ?_)); (fail_if_success (with_reducible refine hR2 ?_ _ ?_ ?_ ?_ ?_ ?_)); cbv))
  all_goals (refine hQ _ ?_; clear hQ hcp hcc hlp; subst_vars; simp_all [])

theorem vecMakes_law {n0 n1 : Nat} {x0 x1 : PV} (f0 : FitsA Try.prog n0 3 x0) (f1 : FitsA Try.prog n1 29 x1) : PCall Try.prog 5 [x0, x1] fun r => r = [.bool true] := by
  obtain ⟨k, rfl, _⟩ := fits3 f0
  obtain ⟨l, rfl, h, _⟩ := fits29 f1
  exact vecMakes_c k l h

end Go.Proofs.Ytnhmnfokbinplaa
