/- tallyref: numbers as lists of digits: products. Own work; no condition. -/
import Derived.Test.YtnhmnfokbinplaaLg8
import Derived.Test.YtnhmnfokbinplaaAbsF
namespace Go.Proofs.Ytnhmnfokbinplaa
open Go Go.RowKit
set_option maxRecDepth 100000
set_option linter.unusedSimpArgs false
set_option linter.unusedVariables false

theorem dig_mul {a b : Int} (ha : 0 ≤ a) (hb : 0 ≤ b) : (dig (a * b)).length ≤ (dig a).length + (dig b).length := by
  refine dig_len _ _ ?_
  have h1 := (lval_lt (okD_dig a)).2
  have h2 := (lval_lt (okD_dig b)).2
  rw [lval_dig' ha] at h1
  rw [lval_dig' hb] at h2
  rw [Int.pow_add]
  have p1 := pow_pos' (dig a).length
  have p2 := pow_pos' (dig b).length
  calc a * b ≤ (65536 ^ (dig a).length - 1) * (65536 ^ (dig b).length - 1) := Int.mul_le_mul (by omega) (by omega) hb (by omega)
    _ < 65536 ^ (dig a).length * 65536 ^ (dig b).length := by
      generalize (65536 : Int) ^ (dig a).length = A at *
      generalize (65536 : Int) ^ (dig b).length = B at *
      rw [Int.sub_mul, Int.mul_sub]
      omega
theorem longZ_pos {v : Int} (h : 0 ≤ v) : longZ v = [.bool false, .sl ((dig v).map u32c)] := by
  have e : uabs v = v := by unfold uabs; rw [if_neg (by omega)]
  rw [longZ, longD, e, decide_eq_false (by omega)]
theorem sgn_mul (x y : Int) : sgn (decide (x < 0) != decide (y < 0)) (uabs x * uabs y) = x * y := by
  rw [prod_sign x y]
  unfold sgn; rfl
/-- What the product is so far. -/
def timesV (a : Int) (dy : List Int) (i : Int) : Int := a * lval (dy.drop (i + 1).toNat)
theorem timesV_step {a : Int} {dy : List Int} {i x : Int} (h0 : 0 ≤ i) (hx : dy[i.toNat]? = some x) : timesV a dy (i - 1) = 65536 * timesV a dy i + x * a := by
  unfold timesV
  rw [show (i - 1 + 1).toNat = i.toNat by omega, lval_drop dy i.toNat, hx, show (i + 1).toNat = i.toNat + 1 by omega, Option.getD_some, Int.mul_add, Int.mul_comm a x, Int.mul_left_comm]
  omega
theorem lval_drop_dig {n : Int} (h : 0 ≤ n) (k : Nat) : 0 ≤ lval ((dig n).drop k) ∧ (dig (lval ((dig n).drop k))).length ≤ (dig n).length := by
  have ok : okD ((dig n).drop k) := fun y hy => okD_dig n y (List.mem_of_mem_drop hy)
  have h1 := lval_lt ok
  refine ⟨h1.1, ?_⟩
  have := dig_len _ _ h1.2
  rw [List.length_drop] at this
  omega
structure XI (l : List Int) (x j c : Int) (L : List (List PV)) (k : Nat) : Prop where
  j0 : 0 ≤ j
  j1 : j ≤ l.length
  o : ∃ o, MulI l o x j.toNat c ∧ o.map u32c = L
  len : L.length = k
theorem XI.step {l : List Int} {x j c : Int} {L : List (List PV)} {k : Nat} (hl : okD l) (hx : 0 ≤ x ∧ x < 65536) (h : XI l x j c L k) {a : Int} (ha : l[j.toNat]? = some a) :
    XI l x (j + 1) ((c + a * x) / 65536) (L ++ [[.int .u32 ((c + a * x) % 65536)]]) (k + 1) ∧ (0 ≤ a ∧ a < 65536) ∧ (0 ≤ a * x ∧ a * x ≤ 4294836225) ∧ 0 ≤ c ∧ c < 65536 := by
  obtain ⟨o, ho, hL⟩ := h.o
  have j0 := h.j0
  have hlt := (List.getElem?_eq_some_iff.1 ha).1
  have ra := okD_get hl j.toNat
  have hs := ho.step hl hx
  rw [ha, Option.getD_some] at hs ra
  refine ⟨⟨by omega, by omega, ⟨_, by rw [show (j + 1).toNat = j.toNat + 1 by omega]; exact hs, ?_⟩, by simp [h.len]⟩, ra, mul_dd ra hx, ho.c0, ho.c1⟩
  rw [List.map_append, hL]; rfl
theorem XI.stop {l : List Int} {x j c : Int} {L : List (List PV)} {k : Nat} (h : XI l x j c L k) (h1 : ¬ j < l.length) (hM : l.length ≤ 400) : ∃ o, okD o ∧ o.map u32c = L ++ [[.int .u32 c]] ∧ o.length ≤ 1000 ∧ lval o = x * lval l ∧ 0 ≤ c ∧ c < 65536 := by
  obtain ⟨o, ho, hL⟩ := h.o
  have := h.j0
  have := h.j1
  rw [show j.toNat = l.length by omega] at ho
  obtain ⟨s1, s2⟩ := ho.stop
  exact ⟨o ++ [c], s2, by rw [List.map_append, hL]; rfl, by simp [ho.len]; omega, s1, ho.c0, ho.c1⟩
end Go.Proofs.Ytnhmnfokbinplaa
