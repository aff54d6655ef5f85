/- cell: Test, Cat, True. Own work; no condition. -/
import Derived.Test.YtnhmnfokbinplaaCmp1
namespace Go.Proofs.Ytnhmnfokbinplaa
open Go Go.RowKit
set_option maxRecDepth 100000
set_option linter.unusedSimpArgs false
set_option linter.unusedVariables false

def testO (op o : Int) : Bool := if op = 12 then decide (o = 0) else if op = 13 then !decide (o = 0) else if op = 14 then decide (o < 0) else if op = 15 then decide (o ≤ 0) else if op = 16 then decide (0 < o) else decide (0 ≤ o)
def testV (op : Int) (a b : Val) : Val :=
  if (clean a).k = 0 ∨ (clean b).k = 0 ∨ op < 12 ∨ 17 < op then Val.zero else flag (testO op (orderV (clean a) (clean b)))

theorem array6 {op z : Int} (h1 : ¬ op < 12) (h2 : ¬ 17 < op) (hz : IntKind.i64.wrap (op - 12) = z) {o : Int} {b1 b2 b3 b4 b5 b6 : Bool} (e1 : decide (o = 0) = b1) (e2 : (!decide (o = 0)) = b2) (e3 : decide (o < 0) = b3) (e4 : decide (o ≤ 0) = b4) (e5 : decide (0 < o) = b5) (e6 : decide (0 ≤ o) = b6)
    {K : AV → Prop} (k : K (.p (.bool (testO op o)))) : AIx [.p (.bool b1), .p (.bool b2), .p (.bool b3), .p (.bool b4), .p (.bool b5), .p (.bool b6)] 6 z K := by
  rw [wrap_in (by omega)] at hz
  refine AIx.at_ (.p (.bool (testO op o))) (by omega) (by omega) ?_ k
  have : op = 12 ∨ op = 13 ∨ op = 14 ∨ op = 15 ∨ op = 16 ∨ op = 17 := by omega
  rcases this with rfl | rfl | rfl | rfl | rfl | rfl <;> subst hz <;> subst e1 e2 e3 e4 e5 e6 <;> rfl

theorem test_c (op k n : Int) (s : ByteArray) (k' n' : Int) (s' : ByteArray) : PCall Try.prog 52 [.int .i64 op, .agg [.int .i64 k, .int .i64 n, .str s], .agg [.int .i64 k', .int .i64 n', .str s']] fun r => r = [(testV op ⟨k, n, s⟩ ⟨k', n', s'⟩).enc] := by
  have hop1 : decide (op < 12) = false → ¬ op < 12 := by simp
  have hop2 : decide (17 < op) = false → ¬ 17 < op := by simp
  refine PCall.x (nt := 49) (res := [.cell 6 25]) mixed tt_ok [] Try.func52 rfl rfl rfl c52 (Nat.le_of_ble_eq_true rfl) ?_
  intro cp cc lp Q' hcp hcc hlp hQ
  repeat' (first
    | (with_reducible refine Nm.mk ?_; intro z hz)
    | (with_reducible refine IfB.mk ?_ ?_ <;> (intro h; cases h))
    | (with_reducible refine Asm.mk ?_ ?_; focus kernel_rfl)
    | (with_reducible refine isCP hcp ?_; first | (refine vP hcp (clean_c k n s) ?_; intro v hv) | (refine vP hcp (clean_c k' n' s') ?_; intro v hv) | (refine iP hcp (order_c _ _ _ _ _ _) ?_; intro z hz) | (refine vP hcp (flag_c _) ?_; intro v hv))
    | (with_reducible refine isCC hcc ?_; first | (refine vA hcc (clean_c k n s) rfl ?_; intro v hv) | (refine vA hcc (clean_c k' n' s') rfl ?_; intro v hv) | (refine iA hcc (order_c _ _ _ _ _ _) rfl ?_; intro z hz) | (refine vA hcc (flag_c _) rfl ?_; intro v hv))
    | (with_reducible refine array6 (hop1 (by assumption)) (hop2 (by assumption)) (by assumption) (by assumption) (by assumption) (by assumption) (by assumption) (by assumption) (by assumption) ?_)
    | (with_reducible refine Asm.mk2 ?_ ?_)
    | ((fail_if_success (with_reducible refine hQ _ ?_)); (fail_if_success (with_reducible refine Side.mk ?_)); (fail_if_success (with_reducible refine isCP hcp ?_)); (fail_if_success (with_reducible refine isCC hcc ?_)); (fail_if_success (with_reducible refine isLP hlp ?_)); (fail_if_success (with_reducible refine Ix.mk ?_)); (fail_if_success (with_reducible refine SIx.mk ?_)); (fail_if_success (with_reducible refine SEx.mk ?_)); (fail_if_success (with_reducible refine EIx.mk ?_)); (fail_if_success (with_reducible show False)); (fail_if_success (with_reducible refine hR ?_ _ ?_ ?_ ?_ ?_ ?_)); (fail_if_success (with_reducible refine hR2 ?_ _ ?_ ?_ ?_ ?_ ?_)); cbv))
  all_goals (refine hQ _ ?_; clear hQ hcp hcc hlp)
  · have h : testV op ⟨k, n, s⟩ ⟨k', n', s'⟩ = Val.zero := by unfold testV; rw [if_pos]; simp_all
    rw [h]; rfl
  · have h : testV op ⟨k, n, s⟩ ⟨k', n', s'⟩ = Val.zero := by unfold testV; rw [if_pos]; simp_all
    rw [h]; rfl
  · have h : testV op ⟨k, n, s⟩ ⟨k', n', s'⟩ = Val.zero := by unfold testV; rw [if_pos]; simp_all
    rw [h]; rfl
  · have h : testV op ⟨k, n, s⟩ ⟨k', n', s'⟩ = Val.zero := by unfold testV; rw [if_pos]; simp_all
    rw [h]; rfl
  · have h : testV op ⟨k, n, s⟩ ⟨k', n', s'⟩ = v := by
      unfold testV; rw [if_neg (by clear hv; simp_all), ← hv]; unfold testO; clear hv; subst_vars; rfl
    rw [h]; rfl

def catV (a b : Val) : Val := if ¬ a.k = 2 ∨ ¬ b.k = 2 ∨ (1000 : Int) < a.s.size + b.s.size then Val.zero else ⟨2, 0, a.s ++ b.s⟩
theorem cat_c (k n : Int) (s : ByteArray) (k' n' : Int) (s' : ByteArray) (h : s.size ≤ 281474976710656) (h' : s'.size ≤ 281474976710656) : PCall Try.prog 55 [.agg [.int .i64 k, .int .i64 n, .str s], .agg [.int .i64 k', .int .i64 n', .str s']] fun r => r = [(catV ⟨k, n, s⟩ ⟨k', n', s'⟩).enc] := by
  have hm : ¬ maxI < ((s.size + s'.size : Nat) : Int) := by
    have : maxI = 9223372036854775807 := by decide
    omega
  have hw : IntKind.i64.wrap ((s.size : Int) + (s'.size : Int)) = s.size + s'.size := wrap_in (by omega)
  refine PCall.x (nt := 30) (res := [.cell 4 25]) mixed tt_ok [] Try.func55 rfl rfl rfl c55 (Nat.le_of_ble_eq_true rfl) ?_
  intro cp cc lp Q' hcp hcc hlp hQ
  repeat' (first
    | (with_reducible refine Nm.mk ?_; intro z hz)
    | (with_reducible refine IfB.mk ?_ ?_ <;> (intro h; cases h))
    | (with_reducible refine Asm.mk ?_ ?_; focus (first | exact hm | kernel_rfl | decide))
    | (with_reducible refine Asm.mk2 ?_ ?_)
    | ((fail_if_success (with_reducible refine hQ _ ?_)); (fail_if_success (with_reducible refine Side.mk ?_)); (fail_if_success (with_reducible refine isCP hcp ?_)); (fail_if_success (with_reducible refine isCC hcc ?_)); (fail_if_success (with_reducible refine isLP hlp ?_)); (fail_if_success (with_reducible refine Ix.mk ?_)); (fail_if_success (with_reducible refine SIx.mk ?_)); (fail_if_success (with_reducible refine SEx.mk ?_)); (fail_if_success (with_reducible refine EIx.mk ?_)); (fail_if_success (with_reducible show False)); (fail_if_success (with_reducible refine hR ?_ _ ?_ ?_ ?_ ?_ ?_)); (fail_if_success (with_reducible refine hR2 ?_ _ ?_ ?_ ?_ ?_ ?_)); cbv))
  · refine hQ _ ?_
    have e : catV ⟨k, n, s⟩ ⟨k', n', s'⟩ = Val.zero := by unfold catV; rw [if_pos]; left; clear hQ hcp hcc hlp; simp_all
    rw [e]; rfl
  · refine hQ _ ?_
    have e : catV ⟨k, n, s⟩ ⟨k', n', s'⟩ = Val.zero := by unfold catV; rw [if_pos]; right; left; clear hQ hcp hcc hlp; simp_all
    rw [e]; rfl
  · refine hQ _ ?_
    have e : catV ⟨k, n, s⟩ ⟨k', n', s'⟩ = Val.zero := by
      unfold catV; rw [if_pos]; right; right
      clear hQ hcp hcc hlp hm
      rename_i y1 h1 y2 h2 h3
      simp only [nc] at *
      simp only [nc'] at *
      subst h1 h2
      rw [hw] at h3
      subst h3
      exact of_decide_eq_true hz
    rw [e]; rfl
  · refine hQ _ ?_
    have e : catV ⟨k, n, s⟩ ⟨k', n', s'⟩ = ⟨2, 0, s ++ s'⟩ := by
      unfold catV; rw [if_neg]
      rename_i g1 g2 y1 h1 y2 h2 y3 h3 h4
      clear hQ hcp hcc hlp hm
      simp only [nc] at *
      simp only [nc'] at *
      subst h1 h2
      rw [hw] at h3
      subst h3
      have h5 := of_decide_eq_false h4
      simp only [Bool.not_eq_false', decide_eq_true_eq] at g1 g2
      simp only [not_or, Decidable.not_not]
      exact ⟨g1, g2, h5⟩
    rw [e, ← hz]; rfl

def trueV (v : Val) : Bool := decide (v.k = 1) && !decide (v.n = 0)
theorem true_c (k n : Int) (s : ByteArray) : PCall Try.prog 57 [.agg [.int .i64 k, .int .i64 n, .str s]] fun r => r = [.bool (trueV ⟨k, n, s⟩)] := by
  refine PCall.x (nt := 11) (res := [.tmp 2]) mixed tt_ok [] Try.func57 rfl rfl rfl c57 (Nat.le_of_ble_eq_true rfl) ?_
  intro cp cc lp Q' hcp hcc hlp hQ
  repeat' (first
    | (with_reducible refine Nm.mk ?_; intro z hz)
    | (with_reducible refine IfB.mk ?_ ?_ <;> (intro h; cases h))
    | (with_reducible refine Asm.mk ?_ ?_; focus (first | kernel_rfl | decide))
    | (with_reducible refine Asm.mk2 ?_ ?_)
    | ((fail_if_success (with_reducible refine hQ _ ?_)); (fail_if_success (with_reducible refine Side.mk ?_)); (fail_if_success (with_reducible refine isCP hcp ?_)); (fail_if_success (with_reducible refine isCC hcc ?_)); (fail_if_success (with_reducible refine isLP hlp ?_)); (fail_if_success (with_reducible refine Ix.mk ?_)); (fail_if_success (with_reducible refine SIx.mk ?_)); (fail_if_success (with_reducible refine SEx.mk ?_)); (fail_if_success (with_reducible refine EIx.mk ?_)); (fail_if_success (with_reducible show False)); (fail_if_success (with_reducible refine hR ?_ _ ?_ ?_ ?_ ?_ ?_)); (fail_if_success (with_reducible refine hR2 ?_ _ ?_ ?_ ?_ ?_ ?_)); cbv))
  all_goals (refine hQ _ ?_; clear hQ hcp hcc hlp; subst_vars; simp_all [trueV])
end Go.Proofs.Ytnhmnfokbinplaa
