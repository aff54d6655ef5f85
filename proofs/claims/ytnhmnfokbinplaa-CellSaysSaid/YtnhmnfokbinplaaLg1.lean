/- Numbers as lists of digits: one step of a sum, of a difference, of a product by a digit. Plain Lean. Own work; no condition. -/
import Derived.Test.YtnhmnfokbinplaaLg0
namespace Go.Proofs.Ytnhmnfokbinplaa

theorem up (i : Nat) (X Y r : Int) (h : X = r + 65536 * Y) (o : List Int) (hl : o.length = i) : lval (o ++ [r]) + 65536 ^ (i + 1) * Y = lval o + 65536 ^ i * X := by
  rw [lval_snoc, hl, h, Int.mul_add, Int.pow_succ, Int.mul_assoc]; omega

structure PlusI (l m o : List Int) (i : Nat) (c : Int) : Prop where
  len : o.length = i
  ok : okD o
  c0 : 0 ≤ c
  c1 : c ≤ 1
  eq : lval o + 65536 ^ i * (c + lval (l.drop i) + lval (m.drop i)) = lval l + lval m
theorem PlusI.start (l m : List Int) : PlusI l m [] 0 0 := ⟨rfl, okD_nil, by omega, by omega, by simp [lval]⟩
theorem PlusI.step {l m o : List Int} {i : Nat} {c : Int} (hl : okD l) (hm : okD m) (h : PlusI l m o i c) :
    PlusI l m (o ++ [(c + ((l[i]?).getD 0 + (m[i]?).getD 0)) % 65536]) (i + 1) ((c + ((l[i]?).getD 0 + (m[i]?).getD 0)) / 65536) := by
  have a := okD_get hl i
  have b := okD_get hm i
  have c0 := h.c0
  have c1 := h.c1
  refine ⟨by simp [h.len], okD_snoc h.ok (by omega) (by omega), by omega, by omega, ?_⟩
  rw [← h.eq]
  refine up i _ _ _ ?_ o h.len
  rw [lval_drop l i, lval_drop m i]; omega
theorem PlusI.stop {l m o : List Int} {i : Nat} {c : Int} (h : PlusI l m o i c) (h1 : l.length ≤ i) (h2 : m.length ≤ i) (hc : c ≤ 0) : lval o = lval l + lval m := by
  have := h.eq
  have c0 := h.c0
  rw [List.drop_eq_nil_of_le h1, List.drop_eq_nil_of_le h2, show c = 0 by omega] at this
  simpa [lval] using this

structure MinusI (l m o : List Int) (i : Nat) (b : Int) : Prop where
  len : o.length = i
  ok : okD o
  b0 : 0 ≤ b
  b1 : b ≤ 1
  eq : lval o + 65536 ^ i * (lval (l.drop i) - lval (m.drop i) - b) = lval l - lval m
theorem MinusI.start (l m : List Int) : MinusI l m [] 0 0 := ⟨rfl, okD_nil, by omega, by omega, by simp [lval]⟩
theorem MinusI.step {l m o : List Int} {i : Nat} {b : Int} (hl : okD l) (hm : okD m) (h : MinusI l m o i b) :
    MinusI l m (o ++ [((l[i]?).getD 0 + 65536 - (m[i]?).getD 0 - b) % 65536]) (i + 1) (1 - ((l[i]?).getD 0 + 65536 - (m[i]?).getD 0 - b) / 65536) := by
  have x := okD_get hl i
  have y := okD_get hm i
  have b0 := h.b0
  have b1 := h.b1
  refine ⟨by simp [h.len], okD_snoc h.ok (by omega) (by omega), by omega, by omega, ?_⟩
  rw [← h.eq]
  refine up i _ _ _ ?_ o h.len
  rw [lval_drop l i, lval_drop m i]; omega
theorem MinusI.stop {l m o : List Int} {b : Int} (h : MinusI l m o l.length b) (h2 : m.length ≤ l.length) (hv : lval m ≤ lval l) : lval o = lval l - lval m := by
  have e := h.eq
  have b0 := h.b0
  have b1 := h.b1
  have lt := lval_lt h.ok
  rw [h.len] at lt
  rw [List.drop_eq_nil_of_le (Nat.le_refl _), List.drop_eq_nil_of_le h2] at e
  simp only [lval, Int.sub_self, Int.zero_sub] at e
  have : b = 0 ∨ b = 1 := by omega
  rcases this with rfl | rfl
  · simpa using e
  · omega

structure MulI (l o : List Int) (x : Int) (j : Nat) (c : Int) : Prop where
  len : o.length = j
  ok : okD o
  c0 : 0 ≤ c
  c1 : c < 65536
  eq : lval o + 65536 ^ j * (c + x * lval (l.drop j)) = x * lval l
theorem MulI.start (l : List Int) (x : Int) : MulI l [] x 0 0 := ⟨rfl, okD_nil, by omega, by omega, by simp [lval]⟩
theorem mul_dd {a b : Int} (ha : 0 ≤ a ∧ a < 65536) (hb : 0 ≤ b ∧ b < 65536) : 0 ≤ a * b ∧ a * b ≤ 4294836225 := by
  have h1 : 0 ≤ a * b := Int.mul_nonneg ha.1 hb.1
  have h2 : a * b ≤ 65535 * 65535 := Int.mul_le_mul (by omega) (by omega) hb.1 (by omega)
  omega
theorem MulI.step {l o : List Int} {x : Int} {j : Nat} {c : Int} (hl : okD l) (hx : 0 ≤ x ∧ x < 65536) (h : MulI l o x j c) :
    MulI l (o ++ [(c + (l[j]?).getD 0 * x) % 65536]) x (j + 1) ((c + (l[j]?).getD 0 * x) / 65536) := by
  have a := okD_get hl j
  have p := mul_dd a hx
  have c0 := h.c0
  have c1 := h.c1
  refine ⟨by simp [h.len], okD_snoc h.ok (by omega) (by omega), by omega, by omega, ?_⟩
  rw [← h.eq]
  refine up j _ _ _ ?_ o h.len
  rw [lval_drop l j, Int.mul_add, Int.mul_comm x, ← Int.mul_assoc x, Int.mul_comm x 65536, Int.mul_assoc]; omega
theorem MulI.stop {l o : List Int} {x : Int} {c : Int} (h : MulI l o x l.length c) : lval (o ++ [c]) = x * lval l ∧ okD (o ++ [c]) := by
  have e := h.eq
  rw [List.drop_eq_nil_of_le (Nat.le_refl _)] at e
  refine ⟨?_, okD_snoc h.ok h.c0 h.c1⟩
  rw [lval_snoc, h.len, ← e]; simp [lval]

/-- Without the zeros at the end. -/
theorem trim_stop {d : List Int} (hd : okD d) {n : Nat} (hn : n ≤ d.length) (hv : lval (d.take n) = lval d) (h : n = 0 ∨ (d[n - 1]?).getD 0 ≠ 0) : d.take n = dig (lval d) := by
  rw [← hv]
  refine (dig_of (okD_take hd n) fun x hx => ?_).symm
  rcases h with rfl | h
  · simp at hx
  · rw [List.getLast?_eq_getElem?, List.length_take, Nat.min_eq_left hn, List.getElem?_take] at hx
    split at hx
    · rw [hx] at h; simpa using h
    · cases hx
theorem trim_step {d : List Int} {n : Nat} (h0 : 0 < n) (hn : n ≤ d.length) (hv : lval (d.take n) = lval d) (h : (d[n - 1]?).getD 0 = 0) : lval (d.take (n - 1)) = lval d := by
  rw [← hv]
  have e : d.take n = d.take (n - 1) ++ [(d[n - 1]?).getD 0] := by
    have hlt : n - 1 < d.length := by omega
    rw [List.getElem?_eq_getElem hlt, Option.getD_some, List.take_append_getElem hlt]
    congr 1; omega
  rw [e, lval_snoc, h]; simp

/-- A number as sign and digits. -/
def longN (z : Int) : Bool × List Int := (decide (z < 0), dig z.natAbs)
end Go.Proofs.Ytnhmnfokbinplaa
