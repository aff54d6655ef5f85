/- CellReckons: the law. Own work; no condition. -/
import Derived.Test.YtnhmnfokbinplaaReck1
import Derived.Test.YtnhmnfokbinplaaFit
namespace Go.Proofs.Ytnhmnfokbinplaa
open Go Go.RowKit
set_option maxRecDepth 100000
set_option linter.unusedSimpArgs false
set_option linter.unusedVariables false

theorem n28_c (n : Int) : PCall Try.prog 28 [.int .i64 n] fun r => r = [(num n).enc] := by
  refine PCall.x (nt := 5) (res := [.cell 2 25]) mixed tt_ok Try.func28 rfl rfl rfl c28 (Nat.le_of_ble_eq_true rfl) ?_
  intro cp cc lp Q' hcp hcc hlp hQ
  repeat' (first
    | (with_reducible refine Nm.mk ?_; intro z hz)
    | (with_reducible refine IfB.mk ?_ ?_ <;> (intro h; cases h))
    | (with_reducible refine Asm.mk ?_ ?_; focus (first | kernel_rfl | decide))
    | (with_reducible refine Asm.mk2 ?_ ?_)
    | ((fail_if_success (with_reducible refine hQ _ ?_)); (fail_if_success (with_reducible refine Side.mk ?_)); (fail_if_success (with_reducible refine isCP hcp ?_)); (fail_if_success (with_reducible refine isCC hcc ?_)); (fail_if_success (with_reducible refine isLP hlp ?_)); (fail_if_success (with_reducible refine Ix.mk ?_)); (fail_if_success (with_reducible refine SIx.mk ?_)); (fail_if_success (with_reducible show False)); (fail_if_success (with_reducible refine hR ?_ _ ?_ ?_ ?_ ?_ ?_)); (fail_if_success (with_reducible refine hR2 ?_ _ ?_ ?_ ?_ ?_ ?_)); cbv))
  all_goals (refine hQ _ ?_; clear hQ hcp hcc hlp; subst_vars; simp_all [num, Val.enc])
def smallB (n : Int) : Bool := decide (-4611686018427387904 < n) && decide (n < 4611686018427387904)
theorem small_c (n : Int) : PCall Try.prog 30 [.int .i64 n] fun r => r = [.bool (smallB n)] := by
  refine PCall.x (nt := 9) (res := [.tmp 2]) mixed tt_ok Try.func30 rfl rfl rfl c30 (Nat.le_of_ble_eq_true rfl) ?_
  intro cp cc lp Q' hcp hcc hlp hQ
  repeat' (first
    | (with_reducible refine Nm.mk ?_; intro z hz)
    | (with_reducible refine IfB.mk ?_ ?_ <;> (intro h; cases h))
    | (with_reducible refine Asm.mk ?_ ?_; focus (first | kernel_rfl | decide))
    | (with_reducible refine Asm.mk2 ?_ ?_)
    | ((fail_if_success (with_reducible refine hQ _ ?_)); (fail_if_success (with_reducible refine Side.mk ?_)); (fail_if_success (with_reducible refine isCP hcp ?_)); (fail_if_success (with_reducible refine isCC hcc ?_)); (fail_if_success (with_reducible refine isLP hlp ?_)); (fail_if_success (with_reducible refine Ix.mk ?_)); (fail_if_success (with_reducible refine SIx.mk ?_)); (fail_if_success (with_reducible show False)); (fail_if_success (with_reducible refine hR ?_ _ ?_ ?_ ?_ ?_ ?_)); (fail_if_success (with_reducible refine hR2 ?_ _ ?_ ?_ ?_ ?_ ?_)); cbv))
  all_goals (refine hQ _ ?_; clear hQ hcp hcc hlp; subst_vars; simp only [List.cons.injEq, PV.bool.injEq, and_true, smallB])
  all_goals simp_all
  all_goals omega

abbrev InR (n : Int) : Prop := -9223372036854775808 ≤ n ∧ n ≤ 9223372036854775807
theorem in64_in {n m : Int} (h : in64 n = some m) : m = n ∧ InR m := by
  unfold in64 at h
  split at h
  · simp only [Option.some.injEq] at h; subst h; exact ⟨rfl, by assumption⟩
  · cases h
theorem tmod_in {x y : Int} (hx : InR x) (hy : ¬ y = 0) : InR (x.tmod y) := by
  have e : (x.tmod y).natAbs = x.natAbs % y.natAbs := Int.natAbs_tmod x y
  have : x.natAbs % y.natAbs ≤ x.natAbs := Nat.mod_le _ _
  unfold InR at *
  generalize x.natAbs % y.natAbs = q at e this
  have s : 0 ≤ x → 0 ≤ x.tmod y := fun h => Int.tmod_nonneg y h
  have s' : x ≤ 0 → x.tmod y ≤ 0 := fun h => by have := Int.tmod_nonneg y (a := -x) (by omega); rw [Int.neg_tmod] at this; omega
  generalize x.tmod y = d at *
  omega
theorem reckN_in {op x y m : Int} (hx : InR x) (h : reckN op x y = some m) : InR m := by
  unfold reckN at h
  split at h
  · exact (in64_in h).2
  split at h
  · exact (in64_in h).2
  split at h
  · exact (in64_in h).2
  split at h
  · split at h
    · cases h
    · exact (in64_in h).2
  split at h
  · split at h
    · cases h
    · rename_i hy
      simp only [Option.some.injEq] at h; subst h; exact tmod_in hx hy
  · cases h
theorem reckon_in (op : Int) (a b : Val) (ha : InR a.n) : InR (reckon op a b).n := by
  unfold reckon
  split
  · cases h : reckN op a.n b.n with
    | none => exact ⟨by decide, by decide⟩
    | some m => exact reckN_in ha h
  · exact ⟨by decide, by decide⟩

theorem in64_x {x : Int} (h : InR x) : in64 x = some x := by unfold in64; rw [if_pos h]
theorem in64_cases (n : Int) : (in64 n = none ∧ ¬ InR n) ∨ (in64 n = some n ∧ InR n) := by
  unfold in64
  by_cases h : -9223372036854775808 ≤ n ∧ n ≤ 9223372036854775807
  · rw [if_pos h]; exact Or.inr ⟨rfl, h⟩
  · rw [if_neg h]; exact Or.inl ⟨rfl, h⟩
theorem reckon_n (op a b : Int) (s t : ByteArray) : reckon op ⟨1, a, s⟩ ⟨1, b, t⟩ = optNum (reckN op a b) := by simp [reckon]
theorem reckon_z (op n : Int) (s : ByteArray) (v : Val) : reckon op ⟨0, n, s⟩ v = Val.zero := by simp [reckon]
theorem tmod_sign (x y : Int) : x.tmod y = 0 ∨ (x.tmod y < 0 ↔ x < 0) := by
  rcases (by omega : x < 0 ∨ 0 ≤ x) with h | h
  · have := Int.tmod_nonneg y (a := -x) (by omega)
    rw [Int.neg_tmod] at this
    omega
  · have := Int.tmod_nonneg y h
    omega
theorem tdiv_case {x y : Int} (hx : InR x) (hy : ¬ y = 0) : (x = -9223372036854775808 ∧ y = -1 ∧ in64 (x.tdiv y) = none) ∨ in64 (x.tdiv y) = some (x.tdiv y) := by
  by_cases h : x = -9223372036854775808 ∧ y = -1
  · obtain ⟨rfl, rfl⟩ := h; exact Or.inl ⟨rfl, rfl, div_no⟩
  · exact Or.inr (in64_x (tdiv_in hx hy h))
theorem qyr (x y : Int) : x.tdiv y * y + x.tmod y = x := by
  have := Int.mul_tdiv_add_tmod x y
  rw [Int.mul_comm] at this
  exact this
theorem back {p r x : Int} (hx : InR x) (h : p + r = x) : IntKind.i64.wrap (IntKind.i64.wrap p + r) = x := by
  rw [wrap_i, wrap_i]; omega
theorem small_add {x y : Int} (h : smallB x = true) (h' : smallB y = true) : IntKind.i64.wrap (x + y) = x + y ∧ in64 (x + y) = some (x + y) := by
  simp only [smallB, Bool.and_eq_true, decide_eq_true_eq] at h h'
  exact ⟨by rw [wrap_i]; omega, in64_x (by omega)⟩

theorem f8 {x y : Int} (hx : InR x) : decide ((optNum (reckN 7 x y)).k = 1) = true → decide (reckon 8 (optNum (reckN 7 x y)) ⟨1, y, ⟨#[]⟩⟩ = ⟨1, x, ⟨#[]⟩⟩) = true := by
  have ex := in64_x hx
  have e : reckN 7 x y = in64 (x + y) := rfl
  rw [e]
  rcases in64_cases (x + y) with ⟨h, _⟩ | ⟨h, _⟩
  · rw [h]; intro g; exact absurd g (by decide)
  · rw [h]; intro _
    have e8 : reckN 8 (x + y) y = in64 (x + y - y) := rfl
    have e9 : x + y - y = x := by omega
    rw [e9, ex] at e8
    rw [show optNum (some (x + y)) = ⟨1, x + y, ⟨#[]⟩⟩ from rfl, reckon_n, e8]
    exact decide_eq_true rfl
theorem fs {x y : Int} : smallB x = true → smallB y = true → decide (optNum (reckN 7 x y) = ⟨1, IntKind.i64.wrap (x + y), ⟨#[]⟩⟩) = true := by
  intro h h'
  obtain ⟨a, b⟩ := small_add h h'
  have e : reckN 7 x y = in64 (x + y) := rfl
  rw [e, b, a]
  exact decide_eq_true rfl
theorem f0 {x y : Int} : decide (y = 0) = true → decide (optNum (reckN 10 x y) = ⟨0, 0, ⟨⟨[]⟩⟩⟩) = true ∧ decide (optNum (reckN 11 x y) = ⟨0, 0, ⟨⟨[]⟩⟩⟩) = true := by
  intro h
  have h : y = 0 := of_decide_eq_true h
  subst h
  exact ⟨decide_eq_true rfl, decide_eq_true rfl⟩
theorem f11 {x y : Int} (h : ¬ y = 0) : optNum (reckN 11 x y) = ⟨1, x.tmod y, ⟨#[]⟩⟩ := by
  have : reckN 11 x y = if y = 0 then none else some (x.tmod y) := rfl
  rw [this, if_neg h]; rfl
theorem f10 {x y : Int} (h : ¬ y = 0) : reckN 10 x y = in64 (x.tdiv y) := by
  have : reckN 10 x y = if y = 0 then none else in64 (x.tdiv y) := rfl
  rw [this, if_neg h]
theorem f1 {x y : Int} : decide (y = 0) = false → decide ((optNum (reckN 11 x y)).k = 1) = true ∧ (decide ((optNum (reckN 11 x y)).n = 0) = false → (decide ((optNum (reckN 11 x y)).n < 0) == decide (x < 0)) = true) := by
  intro h
  rw [f11 (of_decide_eq_false h)]
  refine ⟨rfl, fun g => ?_⟩
  have g : ¬ x.tmod y = 0 := of_decide_eq_false g
  have := (tmod_sign x y).resolve_left g
  show (decide (x.tmod y < 0) == decide (x < 0)) = true
  simp [this]
theorem f2 {x y : Int} (hx : InR x) : decide (y = 0) = false → decide ((optNum (reckN 10 x y)).k = 1) = false → decide (y = -1) = true ∧ decide (x = IntKind.i64.wrap (0 - x)) = true := by
  intro h g
  rw [f10 (of_decide_eq_false h)] at g
  rcases tdiv_case hx (of_decide_eq_false h) with ⟨a, b, _⟩ | c
  · subst a b; exact ⟨by decide, by decide⟩
  · rw [c] at g; exact absurd g (by rw [show (optNum (some (x.tdiv y))).k = 1 from rfl]; decide)
theorem f3 {x y : Int} (hx : InR x) : decide (y = 0) = false → decide ((optNum (reckN 10 x y)).k = 1) = true → decide (IntKind.i64.wrap (IntKind.i64.wrap ((optNum (reckN 10 x y)).n * y) + (optNum (reckN 11 x y)).n) = x) = true := by
  intro h g
  rw [f10 (of_decide_eq_false h)] at g ⊢
  rw [f11 (of_decide_eq_false h)]
  rcases tdiv_case hx (of_decide_eq_false h) with ⟨a, b, c⟩ | c
  · rw [c] at g; exact absurd g (by decide)
  · rw [c]; exact decide_eq_true (back hx (qyr x y))

set_option maxHeartbeats 1000000 in
theorem cellReckons_c (x y : Int) (hx : InR x) (hy : InR y) : PCall Try.prog 7 [.int .i64 x, .int .i64 y] fun r => r = [.bool true] := by
  refine PCall.x (nt := 105) (res := [.tmp 4]) mixed tt_ok Try.func7 rfl rfl rfl c7 (Nat.le_of_ble_eq_true rfl) ?_
  intro cp cc lp Q' hcp hcc hlp hQ
  repeat' (first
    | (with_reducible refine Nm.mk ?_; intro z hz)
    | (with_reducible refine IfB.mk ?_ ?_ <;> (intro h; cases h))
    | (with_reducible refine Asm.mk ?_ ?_; focus (first | kernel_rfl | decide))
    | (with_reducible refine isCP hcp ?_; first | (refine vP hcp (n28_c _) ?_; intro v hv) | (refine bP hcp (small_c _) ?_; intro z hz) | (refine vP hcp (reckon_c _ _ _ _ _ _ _ (by subst_vars; with_unfolding_all first | exact hx | exact reckon_in _ _ _ hx) (by subst_vars; with_unfolding_all first | exact hx | exact hy)) ?_; intro v hv))
    | (with_reducible refine isCC hcc ?_; first | (refine vA hcc (n28_c _) rfl ?_; intro v hv) | (refine bA hcc (small_c _) rfl ?_; intro z hz) | (refine vA hcc (reckon_c _ _ _ _ _ _ _ (by subst_vars; with_unfolding_all first | exact hx | exact reckon_in _ _ _ hx) (by subst_vars; with_unfolding_all first | exact hx | exact hy)) rfl ?_; intro v hv))
    | (with_reducible refine Asm.mk2 ?_ ?_)
    | ((fail_if_success (with_reducible refine hQ _ ?_)); (fail_if_success (with_reducible refine Side.mk ?_)); (fail_if_success (with_reducible refine isCP hcp ?_)); (fail_if_success (with_reducible refine isCC hcc ?_)); (fail_if_success (with_reducible refine isLP hlp ?_)); (fail_if_success (with_reducible refine Ix.mk ?_)); (fail_if_success (with_reducible refine SIx.mk ?_)); (fail_if_success (with_reducible show False)); (fail_if_success (with_reducible refine hR ?_ _ ?_ ?_ ?_ ?_ ?_)); (fail_if_success (with_reducible refine hR2 ?_ _ ?_ ?_ ?_ ?_ ?_)); cbv))
  all_goals (refine hQ _ ?_; clear hQ hcp hcc hlp; subst_vars; simp only [eqB_val, Val.eta, num, Val.zero, reckon_n, List.cons.injEq, PV.bool.injEq, and_true] at *)
  all_goals (
    have g8 := @f8 x y hx; have gs := @fs x y; have g0 := @f0 x y; have g1 := @f1 x y; have g2 := @f2 x y hx; have g3 := @f3 x y hx
    clear hx hy
    generalize decide (reckon 8 (optNum (reckN 7 x y)) ⟨1, y, ⟨#[]⟩⟩ = ⟨1, x, ⟨#[]⟩⟩) = b1 at *
    generalize decide ((optNum (reckN 7 x y)).k = 1) = b2 at *
    generalize decide (optNum (reckN 7 x y) = ⟨1, IntKind.i64.wrap (x + y), ⟨#[]⟩⟩) = b3 at *
    generalize decide (IntKind.i64.wrap (IntKind.i64.wrap ((optNum (reckN 10 x y)).n * y) + (optNum (reckN 11 x y)).n) = x) = b4 at *
    generalize decide (optNum (reckN 10 x y) = ⟨0, 0, ⟨⟨[]⟩⟩⟩) = b5 at *
    generalize decide (optNum (reckN 11 x y) = ⟨0, 0, ⟨⟨[]⟩⟩⟩) = b6 at *
    generalize decide ((optNum (reckN 10 x y)).k = 1) = b7 at *
    generalize decide ((optNum (reckN 11 x y)).k = 1) = b8 at *
    generalize decide ((optNum (reckN 11 x y)).n = 0) = b9 at *
    generalize decide ((optNum (reckN 11 x y)).n < 0) = b10 at *
    generalize decide (x < 0) = b11 at *
    generalize decide (y = 0) = b12 at *
    generalize decide (y = -1) = b13 at *
    generalize decide (x = IntKind.i64.wrap (0 - x)) = b14 at *
    generalize smallB x = b15 at *
    generalize smallB y = b16 at *
    simp_all)

theorem wf_range {n : Int} (h : (Lit.int .i64 n).wf = true) : InR n := by
  have e : (decide (IntKind.i64.min ≤ n) && decide (n ≤ IntKind.i64.max)) = true := h
  rw [show IntKind.i64.min = -9223372036854775808 from by decide, show IntKind.i64.max = 9223372036854775807 from by decide, Bool.and_eq_true, decide_eq_true_eq, decide_eq_true_eq] at e
  exact e
theorem cellReckons_law {n0 n1 : Nat} {x0 x1 : PV} (f0 : FitsA Try.prog n0 2 x0) (f1 : FitsA Try.prog n1 2 x1) : PCall Try.prog 7 [x0, x1] fun r => r = [.bool true] := by
  obtain ⟨x, rfl, h1⟩ := fits2 f0
  obtain ⟨y, rfl, h2⟩ := fits2 f1
  exact cellReckons_c x y (wf_range h1) (wf_range h2)

end Go.Proofs.Ytnhmnfokbinplaa
