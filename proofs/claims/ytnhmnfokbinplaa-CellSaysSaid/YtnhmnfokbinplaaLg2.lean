/- Numbers as lists of digits: bits of a number, one step of a division by bits. Plain Lean. Own work; no condition. -/
import Derived.Test.YtnhmnfokbinplaaLg1
namespace Go.Proofs.Ytnhmnfokbinplaa

theorem dig_get : ∀ (j : Nat) (n : Int), 0 ≤ n → ((dig n)[j]?).getD 0 = n / 65536 ^ j % 65536
  | 0, n, h => by
    rcases Int.lt_or_eq_of_le h with g | g
    · rw [dig_pos g]; simp
    · subst g; rw [dig_zero]; simp
  | j + 1, n, h => by
    rcases Int.lt_or_eq_of_le h with g | g
    · rw [dig_pos g, List.getElem?_cons_succ, dig_get j (n / 65536) (by omega), Int.pow_succ, Int.mul_comm, Int.ediv_ediv_of_nonneg (by decide)]
    · subst g; rw [dig_zero]; simp
theorem bit_of (X : Int) (k : Nat) : (X / 65536 ^ (k / 16) % 65536) / 2 ^ (k % 16) % 2 = X / 2 ^ k % 2 := by
  have e : (2 : Int) ^ k = 65536 ^ (k / 16) * 2 ^ (k % 16) := by
    rw [show (65536 : Int) = 2 ^ 16 by decide, ← Int.pow_mul, ← Int.pow_add]
    congr 1; omega
  rw [e, ← Int.ediv_ediv_of_nonneg (Int.le_of_lt (pow_pos' _))]
  generalize X / 65536 ^ (k / 16) = Z
  have hk : k % 16 < 16 := Nat.mod_lt _ (by decide)
  generalize k % 16 = m at hk ⊢
  have : m = 0 ∨ m = 1 ∨ m = 2 ∨ m = 3 ∨ m = 4 ∨ m = 5 ∨ m = 6 ∨ m = 7 ∨ m = 8 ∨ m = 9 ∨ m = 10 ∨ m = 11 ∨ m = 12 ∨ m = 13 ∨ m = 14 ∨ m = 15 := by omega
  rcases this with rfl | rfl | rfl | rfl | rfl | rfl | rfl | rfl | rfl | rfl | rfl | rfl | rfl | rfl | rfl | rfl <;> simp only [Int.reducePow] <;> omega
theorem half_step (X : Int) (k : Nat) : X / 2 ^ k = 2 * (X / 2 ^ (k + 1)) + X / 2 ^ k % 2 := by
  rw [Int.pow_succ, ← Int.ediv_ediv_of_nonneg (Int.pow_nonneg (by decide))]
  omega
theorem div_step {Y Z b : Int} (hY : 0 < Y) (hb : 0 ≤ b ∧ b ≤ 1) : if Y ≤ 2 * (Z % Y) + b then (2 * Z + b) / Y = 2 * (Z / Y) + 1 ∧ (2 * Z + b) % Y = 2 * (Z % Y) + b - Y else (2 * Z + b) / Y = 2 * (Z / Y) ∧ (2 * Z + b) % Y = 2 * (Z % Y) + b := by
  have e := Int.mul_ediv_add_emod Z Y
  have h0 := Int.emod_nonneg Z (by omega : Y ≠ 0)
  have h1 := Int.emod_lt_of_pos Z hY
  split
  · refine (Int.ediv_emod_unique hY).2 ⟨?_, by omega, by omega⟩
    rw [Int.mul_add, Int.mul_left_comm, Int.mul_one]; omega
  · refine (Int.ediv_emod_unique hY).2 ⟨?_, by omega, by omega⟩
    rw [Int.mul_left_comm]; omega
/-- Division by bits: behind the bits from k up. -/
structure DivI (X Y : Int) (k : Nat) (q r : Int) : Prop where
  q : q = X / 2 ^ k / Y
  r : r = X / 2 ^ k % Y
theorem DivI.step {X Y : Int} {k : Nat} {q r : Int} (hY : 0 < Y) (h : DivI X Y (k + 1) q r) : if Y ≤ 2 * r + X / 2 ^ k % 2 then DivI X Y k (2 * q + 1) (2 * r + X / 2 ^ k % 2 - Y) else DivI X Y k (2 * q) (2 * r + X / 2 ^ k % 2) := by
  have hs := half_step X k
  have := div_step (Z := X / 2 ^ (k + 1)) hY (b := X / 2 ^ k % 2) (by omega)
  rw [← h.q, ← h.r, ← hs] at this
  split
  · rename_i g; rw [if_pos g] at this; exact ⟨this.1.symm, this.2.symm⟩
  · rename_i g; rw [if_neg g] at this; exact ⟨this.1.symm, this.2.symm⟩
theorem dig_bound {n : Int} (h : 0 ≤ n) : n < 2 ^ (16 * (dig n).length) := by
  have := (lval_lt (okD_dig n)).2
  rw [lval_dig' h] at this
  rwa [Int.pow_mul, show (2 : Int) ^ 16 = 65536 by decide]
theorem DivI.start {X Y : Int} (hX : 0 ≤ X) : DivI X Y (16 * (dig X).length) 0 0 := by
  have h := dig_bound hX
  have : X / 2 ^ (16 * (dig X).length) = 0 := Int.ediv_eq_zero_of_lt hX h
  exact ⟨by rw [this]; simp, by rw [this]; simp⟩
theorem DivI.stop {X Y q r : Int} (h : DivI X Y 0 q r) : q = X / Y ∧ r = X % Y := by
  have h1 := h.q; have h2 := h.r
  simpa using And.intro h1 h2
end Go.Proofs.Ytnhmnfokbinplaa
