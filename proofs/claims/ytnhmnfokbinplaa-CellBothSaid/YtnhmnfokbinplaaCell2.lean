/- CellBoth: the walk. Own work; no condition. -/
import Derived.Test.YtnhmnfokbinplaaCell1
import Derived.Test.YtnhmnfokbinplaaRd
namespace Go.Proofs.Ytnhmnfokbinplaa
open Go Go.RowKit
set_option maxRecDepth 100000
set_option linter.unusedSimpArgs false
set_option linter.unusedVariables false

theorem dm19 (a b : Val) : vnot (both 19 a b) = both 20 (vnot a) (vnot b) := by
  obtain ⟨k, n, s⟩ := a; obtain ⟨k', n', s'⟩ := b
  by_cases h1 : k = 1 <;> by_cases h2 : k' = 1 <;> by_cases h3 : n = 0 <;> by_cases h4 : n' = 0 <;> simp [both, vnot, isT, flag, num, Val.zero, h1, h2, h3, h4]
theorem dm20 (a b : Val) : vnot (both 20 a b) = both 19 (vnot a) (vnot b) := by
  obtain ⟨k, n, s⟩ := a; obtain ⟨k', n', s'⟩ := b
  by_cases h1 : k = 1 <;> by_cases h2 : k' = 1 <;> by_cases h3 : n = 0 <;> by_cases h4 : n' = 0 <;> simp [both, vnot, isT, flag, num, Val.zero, h1, h2, h3, h4]
theorem both_comm (op : Int) (a b : Val) : both op a b = both op b a := by
  obtain ⟨k, n, s⟩ := a; obtain ⟨k', n', s'⟩ := b
  by_cases h1 : k = 1 <;> by_cases h2 : k' = 1 <;> by_cases h3 : n = 0 <;> by_cases h4 : n' = 0 <;> simp [both, isT, h1, h2, h3, h4]

theorem cellBoth_c (k n : Int) (s : ByteArray) (k' n' : Int) (s' : ByteArray) : PCall Try.prog 4 [.agg [.int .i64 k, .int .i64 n, .str s], .agg [.int .i64 k', .int .i64 n', .str s']] fun r => r = [.bool true] := by
  refine PCall.x (nt := 59) (res := [.tmp 4]) mixed tt_ok Try.func4 rfl rfl rfl c4 (Nat.le_of_ble_eq_true rfl) ?_
  intro cp cc lp Q' hcp hcc hlp hQ
  repeat' (first
    | (with_reducible refine Nm.mk ?_; intro z hz)
    | (with_reducible refine IfB.mk ?_ ?_ <;> (intro h; cases h))
    | (with_reducible refine Asm.mk ?_ ?_; kernel_rfl)
    | (with_reducible refine isCP hcp ?_; first | (refine vP hcp (both_c _ _ _ _ _ _ _) ?_; intro v hv) | (refine vP hcp (not_c _ _ _) ?_; intro v hv))
    | (with_reducible refine isCC hcc ?_; first | (refine vA hcc (both_c _ _ _ _ _ _ _) rfl ?_; intro v hv) | (refine vA hcc (not_c _ _ _) rfl ?_; intro v hv))
    | (with_reducible refine Asm.mk2 ?_ ?_)
    | ((fail_if_success (with_reducible refine hQ _ ?_)); (fail_if_success (with_reducible refine Side.mk ?_)); (fail_if_success (with_reducible refine isCP hcp ?_)); (fail_if_success (with_reducible refine isCC hcc ?_)); (fail_if_success (with_reducible refine isLP hlp ?_)); (fail_if_success (with_reducible refine Ix.mk ?_)); (fail_if_success (with_reducible refine SIx.mk ?_)); (fail_if_success (with_reducible show False)); cbv))
  all_goals (refine hQ _ ?_; clear hQ hcp hcc hlp; subst_vars)
  all_goals simp only [eqB_val, Val.eta, dm19, dm20, both_comm _ ⟨k', n', s'⟩ ⟨k, n, s⟩, decide_true, Bool.not_true, Bool.false_eq_true, reduceCtorEq] at *
  all_goals simp_all [both, isT, flag, num, Val.zero]

theorem cells25 : Try.prog.cellsOf 25 = 3 := by kernel_rfl
theorem cells2 : Try.prog.cellsOf 2 = 1 := by kernel_rfl
theorem cells3 : Try.prog.cellsOf 3 = 1 := by kernel_rfl
theorem cells9 : Try.prog.cellsOf 9 = 1 := by kernel_rfl
/-- A value's cells. -/
theorem cellsVal {n : Nat} {cs : List PV} (h : Fits Try.prog n 25 cs) : ∃ k m s, cs = [.int .i64 k, .int .i64 m, .str s] ∧ (Lit.int .i64 k).wf = true ∧ (Lit.int .i64 m).wf = true ∧ s.size ≤ maxLen := by
  obtain ⟨m, rfl, hl, hf⟩ := h.struct Try.underlying25
  rw [cells25] at hl
  obtain ⟨a, b, c, rfl⟩ : ∃ a b c, cs = [a, b, c] := by
    match cs, hl with
    | [a, b, c], _ => exact ⟨a, b, c, rfl⟩
  have h0 : Fits Try.prog m 3 (([a, b, c].drop 0).take (Try.prog.cellsOf 3)) := hf 0 _ rfl
  have h1 : Fits Try.prog m 2 (([a, b, c].drop 1).take (Try.prog.cellsOf 2)) := hf 1 _ rfl
  have h2 : Fits Try.prog m 9 (([a, b, c].drop 2).take (Try.prog.cellsOf 9)) := hf 2 _ rfl
  rw [cells3] at h0
  rw [cells2] at h1
  rw [cells9] at h2
  have h0 : Fits Try.prog m 3 [a] := h0
  have h1 : Fits Try.prog m 2 [b] := h1
  have h2 : Fits Try.prog m 9 [c] := h2
  obtain ⟨k, e0, w0⟩ := h0.int Try.underlying3
  obtain ⟨v, e1, w1⟩ := h1.int Try.underlying2
  obtain ⟨s, e2, w2⟩ := h2.str Try.underlying9
  simp only [List.cons.injEq, and_true] at e0 e1 e2
  subst e0 e1 e2
  exact ⟨k, v, s, rfl, w0, w1, w2⟩
theorem fits25 {n : Nat} {x : PV} (h : FitsA Try.prog n 25 x) : ∃ k m s, x = .agg [.int .i64 k, .int .i64 m, .str s] ∧ (Lit.int .i64 k).wf = true ∧ (Lit.int .i64 m).wf = true ∧ s.size ≤ maxLen := by
  obtain ⟨cs, rfl, g⟩ := h.agg Try.underlying25
  obtain ⟨k, m, s, rfl, w⟩ := cellsVal g
  exact ⟨k, m, s, rfl, w⟩

theorem cellBoth_law {n0 n1 : Nat} {x0 x1 : PV} (f0 : FitsA Try.prog n0 25 x0) (f1 : FitsA Try.prog n1 25 x1) : PCall Try.prog 4 [x0, x1] fun r => r = [.bool true] := by
  obtain ⟨k, m, s, rfl, _⟩ := fits25 f0
  obtain ⟨k', m', s', rfl, _⟩ := fits25 f1
  exact cellBoth_c _ _ _ _ _ _

end Go.Proofs.Ytnhmnfokbinplaa
