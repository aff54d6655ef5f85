/- tallyref: numbers as lists of digits: divided. Own work; no condition. -/
import Derived.Test.YtnhmnfokbinplaaLg10
namespace Go.Proofs.Ytnhmnfokbinplaa
open Go Go.RowKit
set_option maxRecDepth 100000
set_option linter.unusedSimpArgs false
set_option linter.unusedVariables false

theorem dig_small {n : Int} (h : 0 < n) (h' : n < 65536) : dig n = [n] := by
  rw [dig_pos h, show n / 65536 = 0 by omega, dig_zero, show n % 65536 = n by omega]
theorem two_l : PCall Try.prog 103 [.int .i64 2] fun r => r = [.agg [.bool false, .sl [[.int .u32 2]]]] := by
  have := longOf_c 2 (by decide)
  rw [longZ_pos (by decide), dig_small (by decide) (by decide)] at this
  exact this
theorem one_l : PCall Try.prog 103 [.int .i64 1] fun r => r = [.agg [.bool false, .sl [[.int .u32 1]]]] := by
  have := longOf_c 1 (by decide)
  rw [longZ_pos (by decide), dig_small (by decide) (by decide)] at this
  exact this
theorem len_pos {v : Int} (h : 0 ≤ v) : (dig (uabs v)).length = (dig v).length := by
  have : uabs v = v := by unfold uabs; rw [if_neg (by omega)]
  rw [this]
theorem times2 {q : Int} (hq : 0 ≤ q) (hl : (dig q).length ≤ 100) : PCall Try.prog 107 [.agg [.bool false, .sl ((dig q).map u32c)], .agg [.bool false, .sl [[.int .u32 2]]]] fun r => r = [.agg [.bool false, .sl ((dig (q * 2)).map u32c)]] := by
  have := times_c' q 2 (by rw [len_pos hq]; omega) (by rw [len_pos (by decide), dig_small (by decide) (by decide)]; decide)
  rw [longZ_pos hq, longZ_pos (v := 2) (by decide), dig_small (n := 2) (by decide) (by decide), longZ_pos (v := q * 2) (by omega)] at this
  exact this
theorem plus1' {q : Int} (hq : 0 ≤ q) (hl : (dig q).length ≤ 200) : PCall Try.prog 104 [.agg [.bool false, .sl ((dig q).map u32c)], .agg [.bool false, .sl [[.int .u32 1]]]] fun r => r = [.agg [.bool false, .sl ((dig (q + 1)).map u32c)]] := by
  have := plus_c q 1 (by rw [len_pos hq]; omega) (by rw [len_pos (by decide), dig_small (by decide) (by decide)]; decide)
  rw [longZ_pos hq, longZ_pos (v := 1) (by decide), dig_small (n := 1) (by decide) (by decide), longZ_pos (v := q + 1) (by omega)] at this
  exact this
theorem minus' {q y : Int} (hq : 0 ≤ q) (hy : 0 < y) (h : y ≤ q) (hl : (dig q).length ≤ 200) : PCall Try.prog 104 [.agg [.bool false, .sl ((dig q).map u32c)], .agg [.bool true, .sl ((dig y).map u32c)]] fun r => r = [.agg [.bool false, .sl ((dig (q - y)).map u32c)]] := by
  have hl2 := dig_len_le (by omega : 0 ≤ y) h
  have u : uabs (-y) = y := by unfold uabs; rw [if_pos (by omega)]; omega
  have := plus_c q (-y) (by rw [len_pos hq]; omega) (by rw [u]; omega)
  have e : longZ (-y) = [.bool true, .sl ((dig y).map u32c)] := by rw [longZ, longD, u, decide_eq_true (by omega)]
  rw [longZ_pos hq, e, show q + -y = q - y by omega, longZ_pos (v := q - y) (by omega)] at this
  exact this
theorem and1v (a : Int) (h : 0 ≤ a ∧ a < 4294967296) : IntKind.u32.wrap ((BitVec.ofInt IntKind.u32.bits a &&& BitVec.ofInt IntKind.u32.bits 1).toNat : Int) = a % 2 := by
  obtain ⟨n, rfl⟩ := Int.eq_ofNat_of_zero_le h.1
  have e : (BitVec.ofInt IntKind.u32.bits (n : Int) &&& BitVec.ofInt IntKind.u32.bits 1).toNat = n % 2 := by
    have hb : IntKind.u32.bits = 32 := rfl
    rw [hb]
    rw [BitVec.toNat_and]
    have e1 : (BitVec.ofInt 32 (n : Int)).toNat = n := by simp [BitVec.toNat_ofInt]; omega
    have e2 : (BitVec.ofInt 32 1).toNat = 2 ^ 1 - 1 := by decide
    rw [e1, e2, Nat.and_two_pow_sub_one_eq_mod]
  rw [e, IntWalk.u32_in _ (by omega)]
  omega
theorem bit_get {X : Int} (hX : 0 ≤ X) (i : Int) (hi : 0 ≤ i) {a x b c e : Int} (ha : IntKind.i64.wrap (i.tdiv 16) = a) (hs : i < 9223372036854775807) (hx : (dig X)[a.toNat]? = some x) (hb : i.tmod 16 = b)
    (hc : x.fdiv (2 ^ (min b.toNat IntKind.u32.bits)) = c) (he : IntKind.u32.wrap ((BitVec.ofInt IntKind.u32.bits c &&& BitVec.ofInt IntKind.u32.bits 1).toNat : Int) = e) : e = X / 2 ^ i.toNat % 2 := by
  have hxr := okD_dig X x (List.mem_of_getElem? hx)
  rw [IntWalk.i64_quo _ _ ⟨hi, by omega, by decide⟩] at ha
  rw [Int.tmod_eq_emod_of_nonneg hi] at hb
  have e1 : a.toNat = i.toNat / 16 := by omega
  have e2 : b.toNat = i.toNat % 16 := by omega
  have hb32 : min b.toNat IntKind.u32.bits = i.toNat % 16 := by
    have : IntKind.u32.bits = 32 := rfl
    omega
  have hxv : x = X / 65536 ^ (i.toNat / 16) % 65536 := by
    have := dig_get a.toNat X hX
    rw [hx, e1] at this; simpa using this
  rw [hb32, Int.fdiv_eq_ediv_of_nonneg _ (Int.pow_nonneg (by decide))] at hc
  have hcr : 0 ≤ c ∧ c < 65536 := by
    rw [← hc]
    have hp : (0 : Int) < 2 ^ (i.toNat % 16) := Int.pow_pos (by decide)
    exact ⟨Int.ediv_nonneg hxr.1 (Int.le_of_lt hp), Int.lt_of_le_of_lt (Int.ediv_le_self _ hxr.1) hxr.2⟩
  rw [and1v _ (by omega)] at he
  rw [← he, ← hc, hxv, bit_of]
theorem sgn_div {x y : Int} (hy : y ≠ 0) : sgn (decide (x < 0) != decide (y < 0)) (uabs x / uabs y) = x.tdiv y ∧ sgn (decide (x < 0)) (uabs x % uabs y) = x.tmod y := by
  unfold sgn uabs
  by_cases g : x < 0 <;> by_cases g' : y < 0
  · have e1 : x.tdiv y = (-x) / (-y) := by rw [← Int.tdiv_eq_ediv_of_nonneg (by omega), Int.neg_tdiv, Int.tdiv_neg, Int.neg_neg]
    have e2 : x.tmod y = -((-x) % (-y)) := by rw [← Int.tmod_eq_emod_of_nonneg (by omega), Int.neg_tmod, Int.tmod_neg, Int.neg_neg]
    simp [g, g', e1, e2]
  · have e1 : x.tdiv y = -((-x) / y) := by rw [← Int.tdiv_eq_ediv_of_nonneg (by omega), Int.neg_tdiv, Int.neg_neg]
    have e2 : x.tmod y = -((-x) % y) := by rw [← Int.tmod_eq_emod_of_nonneg (by omega), Int.neg_tmod, Int.neg_neg]
    simp [g, g', e1, e2]
  · have e1 : x.tdiv y = -(x / (-y)) := by rw [← Int.tdiv_eq_ediv_of_nonneg (by omega), Int.tdiv_neg, Int.neg_neg]
    have e2 : x.tmod y = x % (-y) := by rw [← Int.tmod_eq_emod_of_nonneg (by omega), Int.tmod_neg]
    simp [g, g', e1, e2]
  · have e1 : x.tdiv y = x / y := by rw [← Int.tdiv_eq_ediv_of_nonneg (by omega)]
    have e2 : x.tmod y = x % y := by rw [← Int.tmod_eq_emod_of_nonneg (by omega)]
    simp [g, g', e1, e2]
end Go.Proofs.Ytnhmnfokbinplaa
