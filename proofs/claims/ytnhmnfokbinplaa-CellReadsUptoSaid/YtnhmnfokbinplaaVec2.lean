/- VecMakes: SameVec of a column and itself; the law. Own work; no condition. -/
import Derived.Test.YtnhmnfokbinplaaVec1
namespace Go.Proofs.Ytnhmnfokbinplaa
open Go Go.RowKit
set_option maxRecDepth 100000
set_option linter.unusedSimpArgs false
set_option linter.unusedVariables false

theorem num_c (n : Int) : PCall Try.prog 23 [.int .i64 n] fun r => r = [.int .i64 n] := by
  refine PCall.x (nt := 4) (res := [.tmp 2]) mixed tt_ok [] Try.func23 rfl rfl rfl c23 (Nat.le_of_ble_eq_true rfl) ?_
  intro cp cc lp Q' hcp hcc hlp hQ
  repeat' (first
    | (with_reducible refine Nm.mk ?_; intro z hz)
    | (with_reducible refine IfB.mk ?_ ?_ <;> (intro h; cases h))
    | (with_reducible refine Asm.mk ?_ ?_; focus (first | kernel_rfl | decide))
    | (with_reducible refine Asm.mk2 ?_ ?_)
    | ((fail_if_success (with_reducible refine hQ _ ?_)); (fail_if_success (with_reducible refine Side.mk ?_)); (fail_if_success (with_reducible refine isCP hcp ?_)); (fail_if_success (with_reducible refine isCC hcc ?_)); (fail_if_success (with_reducible refine isLP hlp ?_)); (fail_if_success (with_reducible refine Ix.mk ?_)); (fail_if_success (with_reducible refine SIx.mk ?_)); (fail_if_success (with_reducible refine SEx.mk ?_)); (fail_if_success (with_reducible refine EIx.mk ?_)); (fail_if_success (with_reducible refine RIx.mk ?_)); (fail_if_success (with_reducible show False)); (fail_if_success (with_reducible refine hR ?_ _ ?_ ?_ ?_ ?_ ?_)); (fail_if_success (with_reducible refine hR2 ?_ _ ?_ ?_ ?_ ?_ ?_)); cbv))
  all_goals (refine hQ _ ?_; clear hQ hcp hcc hlp; subst_vars; simp_all [])

theorem maxLen_eq : maxLen = 9223372036854775807 := rfl

theorem sameVec_c (a : Int) (B : List Bool) (N : List Int) (S : List ByteArray) (n1 n2 n3 : List (List PV)) (h1 : B.map boolc = n1) (h2 : N.map i64c = n2) (h3 : S.map strc = n3) :
    PCall Try.prog 24 [.agg [.int .i64 a, .sl n1, .sl n2, .sl n3], .agg [.int .i64 a, .sl n1, .sl n2, .sl n3]] fun r => r = [.bool true] := by
  refine PCall.know c24 fun hkn => ?_
  have k1 : n1.length ≤ maxLen := hkn (.agg [.int .i64 a, .sl n1, .sl n2, .sl n3]) (by simp) (.sl n1) (by simp)
  have k2 : n2.length ≤ maxLen := hkn (.agg [.int .i64 a, .sl n1, .sl n2, .sl n3]) (by simp) (.sl n2) (by simp)
  have k3 : n3.length ≤ maxLen := hkn (.agg [.int .i64 a, .sl n1, .sl n2, .sl n3]) (by simp) (.sl n3) (by simp)
  clear hkn
  rw [maxLen_eq] at k1 k2 k3
  have b1 : n1.length = B.length := by rw [← h1]; simp
  have b2 : n2.length = N.length := by rw [← h2]; simp
  have b3 : n3.length = S.length := by rw [← h3]; simp
  refine PCall.x (nt := 94) (res := [.tmp 4]) mixed tt_ok [] Try.func24 rfl rfl rfl c24 (Nat.le_of_ble_eq_true rfl) ?_
  intro cp cc lp Q' hcp hcc hlp hQ
  repeat' (first
    | (with_reducible refine Nm.mk ?_; intro z hz)
    | (with_reducible refine IfB.mk ?_ ?_ <;> (intro h; cases h))
    | (with_reducible refine Asm.mk ?_ ?_; focus (first | kernel_rfl | decide))
    | (with_reducible refine Asm.mk2 ?_ ?_)
    | ((fail_if_success (with_reducible refine hQ _ ?_)); (fail_if_success (with_reducible refine Side.mk ?_)); (fail_if_success (with_reducible refine isCP hcp ?_)); (fail_if_success (with_reducible refine isCC hcc ?_)); (fail_if_success (with_reducible refine isLP hlp ?_)); (fail_if_success (with_reducible refine Ix.mk ?_)); (fail_if_success (with_reducible refine SIx.mk ?_)); (fail_if_success (with_reducible refine SEx.mk ?_)); (fail_if_success (with_reducible refine EIx.mk ?_)); (fail_if_success (with_reducible refine RIx.mk ?_)); (fail_if_success (with_reducible show False)); (fail_if_success (with_reducible refine hR ?_ _ ?_ ?_ ?_ ?_ ?_)); (fail_if_success (with_reducible refine hR2 ?_ _ ?_ ?_ ?_ ?_ ?_)); cbv))
  all_goals first
    | (exfalso; clear hcp hcc hlp hQ; subst_vars; simp_all; done)
    | skip
  simp only [nc] at hz
  simp only [nc'] at hz
  refine loopK (ι := Int) mixed tt_ok hcp hcc hlp [2, 3, 42] (fun i => [(43, .p (.int .i64 i))]) (fun i => 0 ≤ i ∧ i ≤ z) (fun i => (z - i).toNat) 0 (fun _ => rfl) (by omega) ⟨rfl, trivial⟩ ?_
  intro R i hi hR
  have hi0 : 0 ≤ i := hi.1
  have hkl : decide (i < z) = true → i < B.length := by simp only [decide_eq_true_eq]; omega
  have hst : decide (i < z) = true → IntKind.i64.wrap (i + 1) = i + 1 ∧ (0 ≤ i + 1 ∧ i + 1 ≤ z) ∧ (z - (i + 1)).toNat < (z - i).toNat := by
    intro h
    simp only [decide_eq_true_eq] at h
    exact ⟨wrap_in (by omega), by omega, by omega⟩
  repeat' (first
    | (with_reducible refine Nm.mk ?_; intro z hz)
    | (with_reducible refine IfB.mk ?_ ?_ <;> (intro h; cases h))
    | (with_reducible refine Asm.mk ?_ ?_; focus kernel_rfl)
    | (with_reducible refine Ix.at_ h1 boolc_len (by decide) hi0 (by assumption) ?_)
    | (with_reducible refine Ix.map h1 boolc_len (by decide) hi0 (hkl (by assumption)) ?_; intro x hx)
    | (with_reducible refine Asm.mk2 ?_ ?_)
    | ((fail_if_success (with_reducible refine hQ _ ?_)); (fail_if_success (with_reducible refine Side.mk ?_)); (fail_if_success (with_reducible refine isCP hcp ?_)); (fail_if_success (with_reducible refine isCC hcc ?_)); (fail_if_success (with_reducible refine isLP hlp ?_)); (fail_if_success (with_reducible refine Ix.mk ?_)); (fail_if_success (with_reducible refine SIx.mk ?_)); (fail_if_success (with_reducible refine SEx.mk ?_)); (fail_if_success (with_reducible refine EIx.mk ?_)); (fail_if_success (with_reducible refine RIx.mk ?_)); (fail_if_success (with_reducible show False)); (fail_if_success (with_reducible refine hR ?_ _ ?_ ?_ ?_ ?_ ?_)); (fail_if_success (with_reducible refine hR2 ?_ _ ?_ ?_ ?_ ?_ ?_)); cbv))
  all_goals first
    | (exfalso; simp_all [sbeq_eq]; done)
    | (obtain ⟨e1, e2, e3⟩ := hst (by assumption)
       rw [e1] at hz
       exact hR (i + 1) _ e2 e3 ⟨hz ▸ rfl, trivial⟩ ⟨rfl, rfl, rfl, trivial⟩ rfl)
    | skip
  simp only [nc] at hz
  simp only [nc'] at hz
  refine loopK (ι := Int) mixed tt_ok hcp hcc hlp [2, 3, 60] (fun i => [(61, .p (.int .i64 i))]) (fun i => 0 ≤ i ∧ i ≤ z) (fun i => (z - i).toNat) 0 (fun _ => rfl) (by omega) ⟨rfl, trivial⟩ ?_
  intro R i hi hR
  have hi0 : 0 ≤ i := hi.1
  have hkl : decide (i < z) = true → i < N.length := by simp only [decide_eq_true_eq]; omega
  have hst : decide (i < z) = true → IntKind.i64.wrap (i + 1) = i + 1 ∧ (0 ≤ i + 1 ∧ i + 1 ≤ z) ∧ (z - (i + 1)).toNat < (z - i).toNat := by
    intro h
    simp only [decide_eq_true_eq] at h
    exact ⟨wrap_in (by omega), by omega, by omega⟩
  repeat' (first
    | (with_reducible refine Nm.mk ?_; intro z hz)
    | (with_reducible refine IfB.mk ?_ ?_ <;> (intro h; cases h))
    | (with_reducible refine Asm.mk ?_ ?_; focus kernel_rfl)
    | (with_reducible refine Ix.at_ h2 i64c_len (by decide) hi0 (by assumption) ?_)
    | (with_reducible refine Ix.map h2 i64c_len (by decide) hi0 (hkl (by assumption)) ?_; intro x hx)
    | (with_reducible refine Asm.mk2 ?_ ?_)
    | ((fail_if_success (with_reducible refine hQ _ ?_)); (fail_if_success (with_reducible refine Side.mk ?_)); (fail_if_success (with_reducible refine isCP hcp ?_)); (fail_if_success (with_reducible refine isCC hcc ?_)); (fail_if_success (with_reducible refine isLP hlp ?_)); (fail_if_success (with_reducible refine Ix.mk ?_)); (fail_if_success (with_reducible refine SIx.mk ?_)); (fail_if_success (with_reducible refine SEx.mk ?_)); (fail_if_success (with_reducible refine EIx.mk ?_)); (fail_if_success (with_reducible refine RIx.mk ?_)); (fail_if_success (with_reducible show False)); (fail_if_success (with_reducible refine hR ?_ _ ?_ ?_ ?_ ?_ ?_)); (fail_if_success (with_reducible refine hR2 ?_ _ ?_ ?_ ?_ ?_ ?_)); cbv))
  all_goals first
    | (exfalso; simp_all [sbeq_eq]; done)
    | (obtain ⟨e1, e2, e3⟩ := hst (by assumption)
       rw [e1] at hz
       exact hR (i + 1) _ e2 e3 ⟨hz ▸ rfl, trivial⟩ ⟨rfl, rfl, rfl, trivial⟩ rfl)
    | skip
  simp only [nc] at hz
  simp only [nc'] at hz
  refine loopK (ι := Int) mixed tt_ok hcp hcc hlp [2, 3, 78] (fun i => [(79, .p (.int .i64 i))]) (fun i => 0 ≤ i ∧ i ≤ z) (fun i => (z - i).toNat) 0 (fun _ => rfl) (by omega) ⟨rfl, trivial⟩ ?_
  intro R i hi hR
  have hi0 : 0 ≤ i := hi.1
  have hkl : decide (i < z) = true → i < S.length := by simp only [decide_eq_true_eq]; omega
  have hst : decide (i < z) = true → IntKind.i64.wrap (i + 1) = i + 1 ∧ (0 ≤ i + 1 ∧ i + 1 ≤ z) ∧ (z - (i + 1)).toNat < (z - i).toNat := by
    intro h
    simp only [decide_eq_true_eq] at h
    exact ⟨wrap_in (by omega), by omega, by omega⟩
  repeat' (first
    | (with_reducible refine Nm.mk ?_; intro z hz)
    | (with_reducible refine IfB.mk ?_ ?_ <;> (intro h; cases h))
    | (with_reducible refine Asm.mk ?_ ?_; focus kernel_rfl)
    | (with_reducible refine Ix.at_ h3 strc_len (by decide) hi0 (by assumption) ?_)
    | (with_reducible refine Ix.map h3 strc_len (by decide) hi0 (hkl (by assumption)) ?_; intro x hx)
    | (with_reducible refine Asm.mk2 ?_ ?_)
    | ((fail_if_success (with_reducible refine hQ _ ?_)); (fail_if_success (with_reducible refine Side.mk ?_)); (fail_if_success (with_reducible refine isCP hcp ?_)); (fail_if_success (with_reducible refine isCC hcc ?_)); (fail_if_success (with_reducible refine isLP hlp ?_)); (fail_if_success (with_reducible refine Ix.mk ?_)); (fail_if_success (with_reducible refine SIx.mk ?_)); (fail_if_success (with_reducible refine SEx.mk ?_)); (fail_if_success (with_reducible refine EIx.mk ?_)); (fail_if_success (with_reducible refine RIx.mk ?_)); (fail_if_success (with_reducible show False)); (fail_if_success (with_reducible refine hR ?_ _ ?_ ?_ ?_ ?_ ?_)); (fail_if_success (with_reducible refine hR2 ?_ _ ?_ ?_ ?_ ?_ ?_)); cbv))
  all_goals first
    | (exfalso; simp_all [sbeq_eq]; done)
    | (obtain ⟨e1, e2, e3⟩ := hst (by assumption)
       rw [e1] at hz
       exact hR (i + 1) _ e2 e3 ⟨hz ▸ rfl, trivial⟩ ⟨rfl, rfl, rfl, trivial⟩ rfl)
    | skip
  exact hQ _ rfl

end Go.Proofs.Ytnhmnfokbinplaa
