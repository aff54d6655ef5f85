/- cell: the values' functions as contracts, first part; cell: Reckon, with the product of 64 bits. Own work; no condition. -/
import Derived.Test.YtnhmnfokbinplaaGreatTy
import Derived.Test.YtnhmnfokbinplaaGreatAbs21
import Derived.Test.YtnhmnfokbinplaaGreatAbs23
namespace Go.Proofs.YtnhmnfokbinplaaGreat
open Go Go.RowKit
set_option maxRecDepth 100000
set_option linter.unusedSimpArgs false
set_option linter.unusedVariables false

def Val.zero : Val := ⟨0, 0, ⟨#[]⟩⟩
def num (n : Int) : Val := ⟨1, n, ⟨#[]⟩⟩
def flag (b : Bool) : Val := num (if b then 1 else 0)
def clean (v : Val) : Val := if v.k = 1 then ⟨1, v.n, ⟨#[]⟩⟩ else if v.k = 2 then ⟨2, 0, v.s⟩ else Val.zero

theorem clean_c (k n : Int) (s : ByteArray) : PCall Tryz.prog 30 [.agg [.int .i64 k, .int .i64 n, .str s]] fun r => r = [(clean ⟨k, n, s⟩).enc] := by
  refine PCall.x (nt := 13) (res := [.cell 2 23]) mixed tt_ok [] Tryz.func30 rfl rfl rfl c30 (Nat.le_of_ble_eq_true rfl) ?_
  intro cp cc lp Q' hcp hcc hlp hQ
  repeat' (first
    | (with_reducible refine Nm.mk ?_; intro z hz)
    | (with_reducible refine IfB.mk ?_ ?_ <;> (intro h; cases h))
    | (with_reducible refine Two.l ?_; refine Asm.mk ?_ ?_; focus (decide +kernel))
    | (with_reducible refine Two.r ?_)
    | (with_reducible refine Asm.mk ?_ ?_; focus (first | kernel_rfl | decide))
    | (with_reducible refine Asm.mk2 ?_ ?_)
    | ((fail_if_success (with_reducible first | refine hQ _ ?_ | refine Side.mk ?_ | refine isCP hcp ?_ | refine isCC hcc ?_ | refine isLP hlp ?_ | refine Ix.mk ?_ | refine SIx.mk ?_ | refine SEx.mk ?_ | refine EIx.mk ?_ | refine RIx.mk ?_ | show False | refine hR ?_ _ ?_ ?_ ?_ ?_ ?_ | refine hR2 ?_ _ ?_ ?_ ?_ ?_ ?_)); cbv))
  all_goals (refine hQ _ ?_; clear hQ hcp hcc hlp; subst_vars; simp_all [clean, Val.enc, Val.zero])

theorem flag_c (b : Bool) : PCall Tryz.prog 98 [.bool b] fun r => r = [(flag b).enc] := by
  refine PCall.x (nt := 8) (res := [.cell 2 23]) mixed tt_ok [] Tryz.func98 rfl rfl rfl c98 (Nat.le_of_ble_eq_true rfl) ?_
  intro cp cc lp Q' hcp hcc hlp hQ
  repeat' (first
    | (with_reducible refine Nm.mk ?_; intro z hz)
    | (with_reducible refine IfB.mk ?_ ?_ <;> (intro h; cases h))
    | (with_reducible refine Two.l ?_; refine Asm.mk ?_ ?_; focus (decide +kernel))
    | (with_reducible refine Two.r ?_)
    | (with_reducible refine Asm.mk ?_ ?_; focus (first | kernel_rfl | decide))
    | (with_reducible refine Asm.mk2 ?_ ?_)
    | ((fail_if_success (with_reducible first | refine hQ _ ?_ | refine Side.mk ?_ | refine isCP hcp ?_ | refine isCC hcc ?_ | refine isLP hlp ?_ | refine Ix.mk ?_ | refine SIx.mk ?_ | refine SEx.mk ?_ | refine EIx.mk ?_ | refine RIx.mk ?_ | show False | refine hR ?_ _ ?_ ?_ ?_ ?_ ?_ | refine hR2 ?_ _ ?_ ?_ ?_ ?_ ?_)); cbv))
  all_goals (refine hQ _ ?_; clear hQ hcp hcc hlp; subst_vars; simp_all [flag, num, Val.enc])

def isT (v : Val) (yes : Bool) : Bool := decide (v.k = 1) && ((!decide (v.n = 0)) == yes)
theorem both1_c (k n : Int) (s : ByteArray) (b : Bool) : PCall Tryz.prog 99 [.agg [.int .i64 k, .int .i64 n, .str s], .bool b] fun r => r = [.bool (isT ⟨k, n, s⟩ b)] := by
  refine PCall.x (nt := 15) (res := [.tmp 4]) mixed tt_ok [] Tryz.func99 rfl rfl rfl c99 (Nat.le_of_ble_eq_true rfl) ?_
  intro cp cc lp Q' hcp hcc hlp hQ
  repeat' (first
    | (with_reducible refine Nm.mk ?_; intro z hz)
    | (with_reducible refine IfB.mk ?_ ?_ <;> (intro h; cases h))
    | (with_reducible refine Two.l ?_; refine Asm.mk ?_ ?_; focus (decide +kernel))
    | (with_reducible refine Two.r ?_)
    | (with_reducible refine Asm.mk ?_ ?_; focus (first | kernel_rfl | decide))
    | (with_reducible refine Asm.mk2 ?_ ?_)
    | ((fail_if_success (with_reducible first | refine hQ _ ?_ | refine Side.mk ?_ | refine isCP hcp ?_ | refine isCC hcc ?_ | refine isLP hlp ?_ | refine Ix.mk ?_ | refine SIx.mk ?_ | refine SEx.mk ?_ | refine EIx.mk ?_ | refine RIx.mk ?_ | show False | refine hR ?_ _ ?_ ?_ ?_ ?_ ?_ | refine hR2 ?_ _ ?_ ?_ ?_ ?_ ?_)); cbv))
  all_goals (refine hQ _ ?_; clear hQ hcp hcc hlp; subst_vars; simp_all [isT])

def both (op : Int) (a b : Val) : Val :=
  if op = 19 then (if isT a false = true ∨ isT b false = true then flag false else if ¬ a.k = 1 ∨ ¬ b.k = 1 then Val.zero else flag true)
  else if op = 20 then (if isT a true = true ∨ isT b true = true then flag true else if ¬ a.k = 1 ∨ ¬ b.k = 1 then Val.zero else flag false)
  else Val.zero
theorem both_c (op k n : Int) (s : ByteArray) (k' n' : Int) (s' : ByteArray) : PCall Tryz.prog 77 [.int .i64 op, .agg [.int .i64 k, .int .i64 n, .str s], .agg [.int .i64 k', .int .i64 n', .str s']] fun r => r = [(both op ⟨k, n, s⟩ ⟨k', n', s'⟩).enc] := by
  refine PCall.x (nt := 44) (res := [.cell 6 23]) mixed tt_ok [] Tryz.func77 rfl rfl rfl c77 (Nat.le_of_ble_eq_true rfl) ?_
  intro cp cc lp Q' hcp hcc hlp hQ
  repeat' (first
    | (with_reducible refine Nm.mk ?_; intro z hz)
    | (with_reducible refine IfB.mk ?_ ?_ <;> (intro h; cases h))
    | (with_reducible refine Two.l ?_; refine Asm.mk ?_ ?_; focus (decide +kernel))
    | (with_reducible refine Two.r ?_)
    | (with_reducible refine Asm.mk ?_ ?_; focus (first | kernel_rfl | decide))
    | (with_reducible refine isCP hcp ?_; first | (refine bP hcp (both1_c _ _ _ _) ?_; intro z hz) | (refine vP hcp (flag_c _) ?_; intro v hv))
    | (with_reducible refine isCC hcc ?_; first | (refine bA hcc (both1_c _ _ _ _) rfl ?_; intro z hz) | (refine vA hcc (flag_c _) rfl ?_; intro v hv))
    | (with_reducible refine Asm.mk2 ?_ ?_)
    | ((fail_if_success (with_reducible first | refine hQ _ ?_ | refine Side.mk ?_ | refine isCP hcp ?_ | refine isCC hcc ?_ | refine isLP hlp ?_ | refine Ix.mk ?_ | refine SIx.mk ?_ | refine SEx.mk ?_ | refine EIx.mk ?_ | refine RIx.mk ?_ | show False | refine hR ?_ _ ?_ ?_ ?_ ?_ ?_ | refine hR2 ?_ _ ?_ ?_ ?_ ?_ ?_)); cbv))
  all_goals (refine hQ _ ?_; clear hQ hcp hcc hlp; subst_vars; simp_all [both, Val.zero, Val.enc])

def vnot (v : Val) : Val := if v.k = 1 then flag (decide (v.n = 0)) else Val.zero
theorem not_c (k n : Int) (s : ByteArray) : PCall Tryz.prog 73 [.agg [.int .i64 k, .int .i64 n, .str s]] fun r => r = [(vnot ⟨k, n, s⟩).enc] := by
  refine PCall.x (nt := 11) (res := [.cell 2 23]) mixed tt_ok [] Tryz.func73 rfl rfl rfl c73 (Nat.le_of_ble_eq_true rfl) ?_
  intro cp cc lp Q' hcp hcc hlp hQ
  repeat' (first
    | (with_reducible refine Nm.mk ?_; intro z hz)
    | (with_reducible refine IfB.mk ?_ ?_ <;> (intro h; cases h))
    | (with_reducible refine Two.l ?_; refine Asm.mk ?_ ?_; focus (decide +kernel))
    | (with_reducible refine Two.r ?_)
    | (with_reducible refine Asm.mk ?_ ?_; focus (first | kernel_rfl | decide))
    | (with_reducible refine isCP hcp ?_; first | (refine vP hcp (flag_c _) ?_; intro v hv))
    | (with_reducible refine isCC hcc ?_; first | (refine vA hcc (flag_c _) rfl ?_; intro v hv))
    | (with_reducible refine Asm.mk2 ?_ ?_)
    | ((fail_if_success (with_reducible first | refine hQ _ ?_ | refine Side.mk ?_ | refine isCP hcp ?_ | refine isCC hcc ?_ | refine isLP hlp ?_ | refine Ix.mk ?_ | refine SIx.mk ?_ | refine SEx.mk ?_ | refine EIx.mk ?_ | refine RIx.mk ?_ | show False | refine hR ?_ _ ?_ ?_ ?_ ?_ ?_ | refine hR2 ?_ _ ?_ ?_ ?_ ?_ ?_)); cbv))
  all_goals (refine hQ _ ?_; clear hQ hcp hcc hlp; subst_vars; simp_all [vnot, Val.zero, Val.enc])

end Go.Proofs.YtnhmnfokbinplaaGreat

namespace Go.Proofs.YtnhmnfokbinplaaGreat
open Go Go.RowKit
set_option maxRecDepth 100000
set_option linter.unusedSimpArgs false
set_option linter.unusedVariables false

theorem wrap_i (n : Int) : IntKind.i64.wrap n = (n + 9223372036854775808) % 18446744073709551616 - 9223372036854775808 := by
  rw [IntKind.wrap_i64]
theorem wrap_u (n : Int) : IntKind.u64.wrap n = n % 18446744073709551616 := by
  simp [IntKind.wrap, IntKind.bits, IntKind.signed]

theorem and32 (a : Int) (h : 0 ≤ a ∧ a < 18446744073709551616) : IntKind.u64.wrap ((BitVec.ofInt IntKind.u64.bits a &&& BitVec.ofInt IntKind.u64.bits 4294967295).toNat : Int) = a % 4294967296 := by
  obtain ⟨n, rfl⟩ := Int.eq_ofNat_of_zero_le h.1
  have e : (BitVec.ofInt IntKind.u64.bits (n : Int) &&& BitVec.ofInt IntKind.u64.bits 4294967295).toNat = n % 4294967296 := by
    have hb : IntKind.u64.bits = 64 := rfl
    rw [hb]
    have hn : n < 2 ^ 64 := by omega
    rw [BitVec.toNat_and]
    have e1 : (BitVec.ofInt 64 (n : Int)).toNat = n := by simp [BitVec.toNat_ofInt]; omega
    have e2 : (BitVec.ofInt 64 4294967295).toNat = 2 ^ 32 - 1 := by decide
    rw [e1, e2, Nat.and_two_pow_sub_one_eq_mod]
  rw [e, wrap_u]
  omega
theorem shr32 (a : Int) : a.fdiv (2 ^ (min (32 : Int).toNat IntKind.u64.bits)) = a / 4294967296 := by
  have : (2 : Int) ^ (min (32 : Int).toNat IntKind.u64.bits) = 4294967296 := by decide
  rw [this, Int.fdiv_eq_ediv_of_nonneg _ (by decide)]

theorem mul64_plain (x y : Int) (hx : 0 ≤ x ∧ x < 18446744073709551616) (hy : 0 ≤ y ∧ y < 18446744073709551616) (a b c d w0 t w1 w2 w1' hi : Int)
    (ha : x / 4294967296 = a) (hb : x % 4294967296 = b) (hc : y / 4294967296 = c) (hd : y % 4294967296 = d)
    (h0 : (b * d) % 18446744073709551616 = w0) (ht : ((a * d) % 18446744073709551616 + w0 / 4294967296) % 18446744073709551616 = t)
    (h1 : t % 4294967296 = w1) (h2 : t / 4294967296 = w2) (h1' : (w1 + (b * c) % 18446744073709551616) % 18446744073709551616 = w1')
    (hh : (((a * c) % 18446744073709551616 + w2) % 18446744073709551616 + w1' / 4294967296) % 18446744073709551616 = hi) :
    hi = x * y / 18446744073709551616 ∧ 0 ≤ hi ∧ hi < 18446744073709551616 := by
  have bd : 0 ≤ b * d ∧ b * d ≤ 18446744065119617025 := by
    have h1 : 0 ≤ b * d := Int.mul_nonneg (by omega) (by omega)
    have h2 : b * d ≤ 4294967295 * 4294967295 := Int.mul_le_mul (by omega) (by omega) (by omega) (by omega)
    omega
  have ad : 0 ≤ a * d ∧ a * d ≤ 18446744065119617025 := by
    have h1 : 0 ≤ a * d := Int.mul_nonneg (by omega) (by omega)
    have h2 : a * d ≤ 4294967295 * 4294967295 := Int.mul_le_mul (by omega) (by omega) (by omega) (by omega)
    omega
  have bc : 0 ≤ b * c ∧ b * c ≤ 18446744065119617025 := by
    have h1 : 0 ≤ b * c := Int.mul_nonneg (by omega) (by omega)
    have h2 : b * c ≤ 4294967295 * 4294967295 := Int.mul_le_mul (by omega) (by omega) (by omega) (by omega)
    omega
  have ac : 0 ≤ a * c ∧ a * c ≤ 18446744065119617025 := by
    have h1 : 0 ≤ a * c := Int.mul_nonneg (by omega) (by omega)
    have h2 : a * c ≤ 4294967295 * 4294967295 := Int.mul_le_mul (by omega) (by omega) (by omega) (by omega)
    omega
  have e : x * y = a * c * 18446744073709551616 + (a * d + b * c) * 4294967296 + b * d := by
    have ex : x = a * 4294967296 + b := by omega
    have ey : y = c * 4294967296 + d := by omega
    rw [ex, ey]
    simp only [Int.add_mul, Int.mul_add]
    have e1 : a * 4294967296 * (c * 4294967296) = a * c * 18446744073709551616 := by
      rw [Int.mul_assoc, Int.mul_left_comm 4294967296 c, ← Int.mul_assoc]; rfl
    have e2 : a * 4294967296 * d = a * d * 4294967296 := by rw [Int.mul_assoc, Int.mul_comm 4294967296, ← Int.mul_assoc]
    have e3 : b * (c * 4294967296) = b * c * 4294967296 := by rw [Int.mul_assoc]
    rw [e1, e2, e3]; omega
  rw [e]
  generalize a * c = ac at *
  generalize a * d = ad at *
  generalize b * c = bc at *
  generalize b * d = bd at *
  omega

theorem mul64_c (x y : Int) (hx : 0 ≤ x ∧ x < 18446744073709551616) (hy : 0 ≤ y ∧ y < 18446744073709551616) :
    PCall Tryz.prog 121 [.int .u64 x, .int .u64 y] fun r => r = [.int .u64 (x * y / 18446744073709551616), .int .u64 (x * y % 18446744073709551616)] := by
  have hx' := hx; have hy' := hy
  clear hx hy
  refine PCall.x (nt := 51) (res := [.tmp 4, .tmp 5]) mixed tt_ok [] Tryz.func121 rfl rfl rfl c121 (Nat.le_of_ble_eq_true rfl) ?_
  intro cp cc lp Q' hcp hcc hlp hQ
  repeat' (first
    | (with_reducible refine Nm.mk ?_; intro z hz)
    | (with_reducible refine IfB.mk ?_ ?_ <;> (intro h; cases h))
    | (with_reducible refine Two.l ?_; refine Asm.mk ?_ ?_; focus (decide +kernel))
    | (with_reducible refine Two.r ?_)
    | (with_reducible refine Asm.mk ?_ ?_; focus (first | kernel_rfl | decide))
    | (with_reducible refine Asm.mk2 ?_ ?_)
    | ((fail_if_success (with_reducible first | refine hQ _ ?_ | refine Side.mk ?_ | refine isCP hcp ?_ | refine isCC hcc ?_ | refine isLP hlp ?_ | refine Ix.mk ?_ | refine SIx.mk ?_ | refine SEx.mk ?_ | refine EIx.mk ?_ | refine RIx.mk ?_ | show False | refine hR ?_ _ ?_ ?_ ?_ ?_ ?_ | refine hR2 ?_ _ ?_ ?_ ?_ ?_ ?_)); cbv))
  rename_i b hb a ha d hd c hc w0 hw0 ad had s0 hs0 t ht w1 hw1 w2 hw2 bc hbc w1' hw1' ac hac u hu s1 hs1 hi hhi
  refine hQ _ ?_
  clear hQ hcp hcc hlp
  rw [and32 x hx'] at hb
  rw [and32 y hy'] at hd
  rw [shr32] at ha hc hs0 hw2 hs1
  rw [wrap_u] at hw0 had ht hbc hw1' hac hu hhi hz
  rw [and32 t (by omega)] at hw1
  subst had hs0 hbc hac hu hs1
  obtain ⟨e, _⟩ := mul64_plain x y hx' hy' a b c d w0 t w1 w2 w1' hi ha hb hc hd hw0 ht hw1 hw2 hw1' hhi
  rw [e, hz]

/-- Sizes. -/
def uabs (x : Int) : Int := if x < 0 then -x else x
theorem uabs_le {x : Int} (h : -9223372036854775808 ≤ x ∧ x ≤ 9223372036854775807) : 0 ≤ uabs x ∧ uabs x ≤ 9223372036854775808 := by unfold uabs; split <;> omega
theorem size_c (x : Int) (h : -9223372036854775808 ≤ x ∧ x ≤ 9223372036854775807) : PCall Tryz.prog 120 [.int .i64 x] fun r => r = [.int .u64 (uabs x)] := by
  have h' := h
  clear h
  refine PCall.x (nt := 10) (res := [.tmp 2]) mixed tt_ok [] Tryz.func120 rfl rfl rfl c120 (Nat.le_of_ble_eq_true rfl) ?_
  intro cp cc lp Q' hcp hcc hlp hQ
  repeat' (first
    | (with_reducible refine Nm.mk ?_; intro z hz)
    | (with_reducible refine IfB.mk ?_ ?_ <;> (intro h; cases h))
    | (with_reducible refine Two.l ?_; refine Asm.mk ?_ ?_; focus (decide +kernel))
    | (with_reducible refine Two.r ?_)
    | (with_reducible refine Asm.mk ?_ ?_; focus (first | kernel_rfl | decide))
    | (with_reducible refine Asm.mk2 ?_ ?_)
    | ((fail_if_success (with_reducible first | refine hQ _ ?_ | refine Side.mk ?_ | refine isCP hcp ?_ | refine isCC hcc ?_ | refine isLP hlp ?_ | refine Ix.mk ?_ | refine SIx.mk ?_ | refine SEx.mk ?_ | refine EIx.mk ?_ | refine RIx.mk ?_ | show False | refine hR ?_ _ ?_ ?_ ?_ ?_ ?_ | refine hR2 ?_ _ ?_ ?_ ?_ ?_ ?_)); cbv))
  all_goals (refine hQ _ ?_; clear hQ hcp hcc hlp; subst_vars; simp only [List.cons.injEq, PV.int.injEq, and_true, true_and])
  · have h1 : x < 0 := of_decide_eq_true (by assumption)
    rw [wrap_u, wrap_u, uabs, if_pos h1]; omega
  · have h1 : ¬ x < 0 := of_decide_eq_false (by assumption)
    rw [wrap_u, uabs, if_neg h1]; omega

def prodP (x y : Int) : Int × Bool :=
  let p := uabs x * uabs y
  if p / 18446744073709551616 = 0 then
    (if (decide (x < 0) != decide (y < 0)) = true then (IntKind.i64.wrap (IntKind.u64.wrap (0 - p % 18446744073709551616)), decide (p % 18446744073709551616 ≤ 9223372036854775808)) else (IntKind.i64.wrap (p % 18446744073709551616), decide (p % 18446744073709551616 < 9223372036854775808)))
  else (0, false)
theorem times_c (x y : Int) (hx : -9223372036854775808 ≤ x ∧ x ≤ 9223372036854775807) (hy : -9223372036854775808 ≤ y ∧ y ≤ 9223372036854775807) :
    PCall Tryz.prog 97 [.int .i64 x, .int .i64 y] fun r => r = [.int .i64 (prodP x y).1, .bool (prodP x y).2] := by
  have ux := uabs_le hx
  have uy := uabs_le hy
  have hx' := hx; have hy' := hy
  clear hx hy
  refine PCall.x (nt := 35) (res := [.tmp 4, .tmp 5]) mixed tt_ok [] Tryz.func97 rfl rfl rfl c97 (Nat.le_of_ble_eq_true rfl) ?_
  intro cp cc lp Q' hcp hcc hlp hQ
  repeat' (first
    | (with_reducible refine Nm.mk ?_; intro z hz)
    | (with_reducible refine IfB.mk ?_ ?_ <;> (intro h; cases h))
    | (with_reducible refine Two.l ?_; refine Asm.mk ?_ ?_; focus (decide +kernel))
    | (with_reducible refine Two.r ?_)
    | (with_reducible refine Asm.mk ?_ ?_; focus (first | kernel_rfl | decide))
    | (with_reducible refine isCP hcp ?_; first | (refine iP hcp (size_c _ hx') ?_; intro z hz) | (refine iP hcp (size_c _ hy') ?_; intro z hz) | (refine iiP hcp (mul64_c _ _ (by omega) (by omega)) ?_; intro z w hz hw))
    | (with_reducible refine isCC hcc ?_; first | (refine iA hcc (size_c _ hx') rfl ?_; intro z hz) | (refine iA hcc (size_c _ hy') rfl ?_; intro z hz) | (refine iiA hcc (mul64_c _ _ (by omega) (by omega)) rfl ?_; intro z w hz hw))
    | (with_reducible refine Asm.mk2 ?_ ?_)
    | ((fail_if_success (with_reducible first | refine hQ _ ?_ | refine Side.mk ?_ | refine isCP hcp ?_ | refine isCC hcc ?_ | refine isLP hlp ?_ | refine Ix.mk ?_ | refine SIx.mk ?_ | refine SEx.mk ?_ | refine EIx.mk ?_ | refine RIx.mk ?_ | show False | refine hR ?_ _ ?_ ?_ ?_ ?_ ?_ | refine hR2 ?_ _ ?_ ?_ ?_ ?_ ?_)); cbv))
  all_goals (refine hQ _ ?_; clear hQ hcp hcc hlp; subst_vars; simp_all [prodP])

theorem prod_sign (x y : Int) : x * y = if (decide (x < 0) != decide (y < 0)) = true then -(uabs x * uabs y) else uabs x * uabs y := by
  unfold uabs
  by_cases h1 : x < 0 <;> by_cases h2 : y < 0 <;> simp [h1, h2, Int.neg_mul_neg, Int.neg_mul, Int.mul_neg]

theorem prodP_ok (x y : Int) : (prodP x y).2 = decide (-9223372036854775808 ≤ x * y ∧ x * y ≤ 9223372036854775807) ∧ ((prodP x y).2 = true → (prodP x y).1 = x * y) := by
  have h := prod_sign x y
  have hp : 0 ≤ uabs x * uabs y := Int.mul_nonneg (by unfold uabs; split <;> omega) (by unfold uabs; split <;> omega)
  unfold prodP
  generalize uabs x * uabs y = p at *
  generalize x * y = q at *
  simp only [wrap_i, wrap_u]
  split
  · split
    · rename_i h1 h2
      rw [if_pos h2] at h
      simp only [decide_eq_true_eq, decide_eq_decide]
      omega
    · rename_i h1 h2
      rw [if_neg h2] at h
      simp only [decide_eq_true_eq, decide_eq_decide]
      omega
  · rename_i h1
    split at h
    · simp; omega
    · simp; omega

def in64 (n : Int) : Option Int := if -9223372036854775808 ≤ n ∧ n ≤ 9223372036854775807 then some n else none
def optNum : Option Int → Val
  | some n => num n
  | none => Val.zero
def reckN (op x y : Int) : Option Int :=
  if op = 7 then in64 (x + y) else if op = 8 then in64 (x - y) else if op = 9 then in64 (x * y)
  else if op = 10 then (if y = 0 then none else in64 (x.tdiv y)) else if op = 11 then (if y = 0 then none else some (x.tmod y)) else none
def reckon (op : Int) (a b : Val) : Val := if a.k = 1 ∧ b.k = 1 then optNum (reckN op a.n b.n) else Val.zero

theorem tdiv_in {x y : Int} (hx : -9223372036854775808 ≤ x ∧ x ≤ 9223372036854775807) (hy : y ≠ 0) (h : ¬ (x = -9223372036854775808 ∧ y = -1)) : -9223372036854775808 ≤ x.tdiv y ∧ x.tdiv y ≤ 9223372036854775807 := by
  have e : (x.tdiv y).natAbs = x.natAbs / y.natAbs := Int.natAbs_tdiv x y
  rcases Nat.lt_or_ge y.natAbs 2 with g | g
  · have : y = 1 ∨ y = -1 := by omega
    rcases this with rfl | rfl
    · simpa using hx
    · rw [Int.tdiv_neg, Int.tdiv_one]; omega
  · have : x.natAbs / y.natAbs ≤ x.natAbs / 2 := Nat.div_le_div_left g (by omega)
    generalize x.natAbs / y.natAbs = q at e this
    generalize x.tdiv y = d at e ⊢
    omega

theorem add_ok {x y n : Int} (hx : -9223372036854775808 ≤ x ∧ x ≤ 9223372036854775807) (hy : -9223372036854775808 ≤ y ∧ y ≤ 9223372036854775807) (hn : IntKind.i64.wrap (x + y) = n) :
    in64 (x + y) = if (decide (x < n) == decide (0 < y)) = true then some n else none := by
  rw [wrap_i] at hn
  unfold in64
  by_cases h1 : x < n <;> by_cases h2 : 0 < y <;> simp [h1, h2] <;> omega
theorem sub_ok {x y n : Int} (hx : -9223372036854775808 ≤ x ∧ x ≤ 9223372036854775807) (hy : -9223372036854775808 ≤ y ∧ y ≤ 9223372036854775807) (hn : IntKind.i64.wrap (x - y) = n) :
    in64 (x - y) = if (decide (n < x) == decide (0 < y)) = true then some n else none := by
  rw [wrap_i] at hn
  unfold in64
  by_cases h1 : n < x <;> by_cases h2 : 0 < y <;> simp [h1, h2] <;> omega
theorem mul_ok (x y : Int) : in64 (x * y) = if (prodP x y).2 = true then some (prodP x y).1 else none := by
  obtain ⟨h1, h2⟩ := prodP_ok x y
  unfold in64
  by_cases h : (prodP x y).2 = true
  · rw [if_pos h, h2 h]
    rw [h] at h1
    rw [if_pos (of_decide_eq_true h1.symm)]
  · rw [if_neg h]
    have h3 : (prodP x y).2 = false := by simpa using h
    rw [h3] at h1
    rw [if_neg (of_decide_eq_false h1.symm)]

theorem div_ok {x y : Int} (hx : -9223372036854775808 ≤ x ∧ x ≤ 9223372036854775807) (hy : ¬ y = 0) (h : x = -9223372036854775808 → ¬ y = -1) : in64 (x.tdiv y) = some (IntKind.i64.wrap (x.tdiv y)) := by
  have := tdiv_in hx hy (fun ⟨a, b⟩ => h a b)
  rw [wrap_in this, in64, if_pos this]
theorem div_no : in64 ((-9223372036854775808 : Int).tdiv (-1)) = none := by decide
theorem tmod_m1 (n : Int) : n.tmod (-1) = 0 := by rw [Int.tmod_neg, Int.tmod_one]

theorem reckon_c (op k n : Int) (s : ByteArray) (k' n' : Int) (s' : ByteArray) (hx : -9223372036854775808 ≤ n ∧ n ≤ 9223372036854775807) (hy : -9223372036854775808 ≤ n' ∧ n' ≤ 9223372036854775807) :
    PCall Tryz.prog 72 [.int .i64 op, .agg [.int .i64 k, .int .i64 n, .str s], .agg [.int .i64 k', .int .i64 n', .str s']] fun r => r = [(reckon op ⟨k, n, s⟩ ⟨k', n', s'⟩).enc] := by
  have hx' := hx; have hy' := hy
  clear hx hy
  refine PCall.x (nt := 89) (res := [.cell 6 23]) mixed tt_ok [] Tryz.func72 rfl rfl rfl c72 (Nat.le_of_ble_eq_true rfl) ?_
  intro cp cc lp Q' hcp hcc hlp hQ
  repeat' (first
    | (with_reducible refine Nm.mk ?_; intro z hz)
    | (with_reducible refine IfB.mk ?_ ?_ <;> (intro h; cases h))
    | (with_reducible refine Two.l ?_; refine Asm.mk ?_ ?_; focus (decide +kernel))
    | (with_reducible refine Two.r ?_)
    | (with_reducible refine Asm.mk ?_ ?_; focus (first | kernel_rfl | decide | (clear hQ hcp hcc hlp; simp_all; done)))
    | (with_reducible refine isCP hcp ?_; first | (refine ibP hcp (times_c _ _ hx' hy') ?_; intro z w hz hw))
    | (with_reducible refine isCC hcc ?_; first | (refine ibA hcc (times_c _ _ hx' hy') rfl ?_; intro z w hz hw))
    | (with_reducible refine Asm.mk2 ?_ ?_)
    | ((fail_if_success (with_reducible first | refine hQ _ ?_ | refine Side.mk ?_ | refine isCP hcp ?_ | refine isCC hcc ?_ | refine isLP hlp ?_ | refine Ix.mk ?_ | refine SIx.mk ?_ | refine SEx.mk ?_ | refine EIx.mk ?_ | refine RIx.mk ?_ | show False | refine hR ?_ _ ?_ ?_ ?_ ?_ ?_ | refine hR2 ?_ _ ?_ ?_ ?_ ?_ ?_)); cbv))
  all_goals first
    | (exfalso; clear hQ hcp hcc hlp; simp_all; done)
    | skip
  all_goals (refine hQ _ ?_; clear hQ hcp hcc hlp)
  all_goals first
    | (simp_all [reckon, reckN, optNum, num, Val.enc, Val.zero, tmod_m1]; done)
    | (have e := add_ok hx' hy' rfl; subst_vars; simp_all [reckon, reckN, optNum, num, Val.enc, Val.zero]; done)
    | (have e := sub_ok hx' hy' rfl; subst_vars; simp_all [reckon, reckN, optNum, num, Val.enc, Val.zero]; done)
    | (have e := mul_ok n n'; subst_vars; simp_all [reckon, reckN, optNum, num, Val.enc, Val.zero]; done)
    | (have e := div_ok hx' (y := n') (by simp_all) (by simp_all); subst_vars; simp_all [reckon, reckN, optNum, num, Val.enc, Val.zero]; done)
    | (have e := div_no; subst_vars; simp_all [reckon, reckN, optNum, num, Val.enc, Val.zero]; done)

end Go.Proofs.YtnhmnfokbinplaaGreat
