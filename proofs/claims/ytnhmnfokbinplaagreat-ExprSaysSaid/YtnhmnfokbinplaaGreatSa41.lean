/- Numbers as lists of digits to the base 65536; Numbers as lists of digits: one step of a sum, of a difference, of a product by a digit; Numbers as lists of digits: bits of a number, one step of a division by bits. Own work; no condition. -/
import Derived.Test.YtnhmnfokbinplaaGreatAbs21
namespace Go.Proofs.YtnhmnfokbinplaaGreat

def lval : List Int → Int
  | [] => 0
  | d :: r => d + 65536 * lval r
def okD (l : List Int) : Prop := ∀ d, d ∈ l → 0 ≤ d ∧ d < 65536
theorem okD_nil : okD [] := fun d h => by simp at h
theorem okD_cons {d : Int} {l : List Int} : okD (d :: l) ↔ (0 ≤ d ∧ d < 65536) ∧ okD l := by
  unfold okD; simp
theorem okD_app {a b : List Int} : okD (a ++ b) ↔ okD a ∧ okD b := by
  unfold okD; simp only [List.mem_append]
  exact ⟨fun h => ⟨fun d hd => h d (.inl hd), fun d hd => h d (.inr hd)⟩, fun h d hd => hd.elim (h.1 d) (h.2 d)⟩
theorem okD_snoc {a : List Int} {d : Int} (h : okD a) (h0 : 0 ≤ d) (h1 : d < 65536) : okD (a ++ [d]) := okD_app.2 ⟨h, okD_cons.2 ⟨⟨h0, h1⟩, okD_nil⟩⟩
theorem lval_app : ∀ a b : List Int, lval (a ++ b) = lval a + 65536 ^ a.length * lval b
  | [], b => by simp [lval]
  | d :: a, b => by
    simp only [List.cons_append, lval, lval_app a b, List.length_cons, Int.pow_succ]
    rw [Int.mul_add, Int.mul_comm (65536 ^ a.length) 65536, Int.mul_assoc]; omega
theorem lval_snoc (l : List Int) (d : Int) : lval (l ++ [d]) = lval l + 65536 ^ l.length * d := by
  rw [lval_app]; simp [lval]
theorem lval_lt : ∀ {l : List Int}, okD l → 0 ≤ lval l ∧ lval l < 65536 ^ l.length
  | [], _ => by simp [lval]
  | d :: l, h => by
    have h1 := okD_cons.1 h
    have h2 := lval_lt h1.2
    simp only [lval, List.length_cons, Int.pow_succ]; omega
def dig (n : Int) : List Int := if n ≤ 0 then [] else n % 65536 :: dig (n / 65536)
termination_by n.toNat
decreasing_by omega
theorem dig_zero : dig 0 = [] := by rw [dig]; rfl
theorem dig_pos {n : Int} (h : 0 < n) : dig n = n % 65536 :: dig (n / 65536) := by rw [dig, if_neg (by omega)]
theorem lval_dig (n : Nat) : lval (dig n) = n := by
  induction n using Nat.strongRecOn with
  | _ n ih =>
    rcases Nat.eq_zero_or_pos n with h | h
    · subst h; rw [show ((0 : Nat) : Int) = 0 from rfl, dig_zero]; rfl
    · rw [dig_pos (by omega)]
      have := ih (n / 65536) (by omega)
      have e : (n : Int) / 65536 = ((n / 65536 : Nat) : Int) := by omega
      rw [lval, e, this]; omega
theorem lval_dig' {n : Int} (h : 0 ≤ n) : lval (dig n) = n := by
  obtain ⟨k, rfl⟩ := Int.eq_ofNat_of_zero_le h
  exact lval_dig k
theorem okD_dig' (n : Nat) : okD (dig n) := by
  induction n using Nat.strongRecOn with
  | _ n ih =>
    rcases Nat.eq_zero_or_pos n with h | h
    · subst h; rw [show ((0 : Nat) : Int) = 0 from rfl, dig_zero]; exact okD_nil
    · rw [dig_pos (by omega)]
      have := ih (n / 65536) (by omega)
      have e : (n : Int) / 65536 = ((n / 65536 : Nat) : Int) := by omega
      rw [e]
      exact okD_cons.2 ⟨by omega, this⟩
theorem okD_dig (n : Int) : okD (dig n) := by
  rcases Int.lt_or_le n 0 with h | h
  · rw [dig, if_pos (by omega)]; exact okD_nil
  · obtain ⟨k, rfl⟩ := Int.eq_ofNat_of_zero_le h
    exact okD_dig' k
theorem dig_len : ∀ (k : Nat) (n : Int), n < 65536 ^ k → (dig n).length ≤ k
  | 0, n, h => by
    rw [dig, if_pos (by simp at h; omega)]; simp
  | k + 1, n, h => by
    rw [dig]
    split
    · simp
    · rw [Int.pow_succ] at h
      have := dig_len k (n / 65536) (by omega)
      simp only [List.length_cons]; omega
/-- Digits without zeros at the end are the number's. -/
theorem dig_of : ∀ {l : List Int}, okD l → (∀ d, l.getLast? = some d → d ≠ 0) → dig (lval l) = l
  | [], _, _ => by rw [lval, dig_zero]
  | d :: l, h, hl => by
    have h1 := okD_cons.1 h
    have h0 := (lval_lt h1.2).1
    have hl' : ∀ e, l.getLast? = some e → e ≠ 0 := by
      intro e he
      refine hl e ?_
      cases l with
      | nil => simp at he
      | cons a l => rw [List.getLast?_cons_cons]; exact he
    have ih := dig_of h1.2 hl'
    have hne : 0 < lval (d :: l) := by
      have : ¬ (d = 0 ∧ lval l = 0) := by
        rintro ⟨e1, e2⟩
        rw [e2, dig_zero] at ih
        subst ih
        exact hl d (by simp) e1
      simp only [lval]; omega
    rw [dig_pos hne]
    simp only [lval]
    rw [show (d + 65536 * lval l) % 65536 = d by omega, show (d + 65536 * lval l) / 65536 = lval l by omega, ih]
theorem lval_drop (l : List Int) (i : Nat) : lval (l.drop i) = (l[i]?).getD 0 + 65536 * lval (l.drop (i + 1)) := by
  rcases Nat.lt_or_ge i l.length with h | h
  · rw [List.drop_eq_getElem_cons h, List.getElem?_eq_getElem h]; rfl
  · rw [List.drop_eq_nil_of_le h, List.drop_eq_nil_of_le (by omega), List.getElem?_eq_none h]; rfl
theorem lval_split (l : List Int) (i : Nat) (h : i ≤ l.length) : lval l = lval (l.take i) + 65536 ^ i * lval (l.drop i) := by
  have := lval_app (l.take i) (l.drop i)
  rw [List.take_append_drop, List.length_take, Nat.min_eq_left h] at this
  exact this
theorem okD_get {l : List Int} (h : okD l) (i : Nat) : 0 ≤ (l[i]?).getD 0 ∧ (l[i]?).getD 0 < 65536 := by
  cases hi : l[i]? with
  | none => simp
  | some d => exact h d (List.mem_of_getElem? hi)
theorem okD_take {l : List Int} (h : okD l) (i : Nat) : okD (l.take i) := fun d hd => h d (List.mem_of_mem_take hd)
theorem pow_pos' (i : Nat) : (0 : Int) < 65536 ^ i := Int.pow_pos (by decide)
/-- The order of two lists of digits of one length is told by the highest digits that are not the same. -/
theorem lval_less {a b : List Int} (ha : okD a) (hb : okD b) (hl : a.length = b.length) (i : Nat) (hi : i < a.length) (he : a.drop (i + 1) = b.drop (i + 1)) (hd : (a[i]?).getD 0 < (b[i]?).getD 0) : lval a < lval b := by
  have h1 := lval_split a i (by omega)
  have h2 := lval_split b i (by omega)
  have h3 := (lval_lt (okD_take ha i)).2
  have h5 := (lval_lt (okD_take hb i)).1
  rw [List.length_take, Nat.min_eq_left (by omega)] at h3
  rw [lval_drop a i] at h1
  rw [lval_drop b i, ← he] at h2
  have h4 : (65536 : Int) ^ i * ((a[i]?).getD 0 + 65536 * lval (a.drop (i + 1)) + 1) ≤ 65536 ^ i * ((b[i]?).getD 0 + 65536 * lval (a.drop (i + 1))) := Int.mul_le_mul_of_nonneg_left (by omega) (Int.le_of_lt (pow_pos' i))
  rw [Int.mul_add (65536 ^ i) _ 1] at h4
  omega
theorem dig_len_less {m n : Int} (h0 : 0 ≤ m) (h : (dig m).length < (dig n).length) : m < n := by
  have h1 := (lval_lt (okD_dig m)).2
  rw [lval_dig' h0] at h1
  rcases Int.lt_or_le m n with g | g
  · exact g
  · have := dig_len (dig m).length n (by omega)
    omega
end Go.Proofs.YtnhmnfokbinplaaGreat

namespace Go.Proofs.YtnhmnfokbinplaaGreat

theorem up (i : Nat) (X Y r : Int) (h : X = r + 65536 * Y) (o : List Int) (hl : o.length = i) : lval (o ++ [r]) + 65536 ^ (i + 1) * Y = lval o + 65536 ^ i * X := by
  rw [lval_snoc, hl, h, Int.mul_add, Int.pow_succ, Int.mul_assoc]; omega

structure PlusI (l m o : List Int) (i : Nat) (c : Int) : Prop where
  len : o.length = i
  ok : okD o
  c0 : 0 ≤ c
  c1 : c ≤ 1
  eq : lval o + 65536 ^ i * (c + lval (l.drop i) + lval (m.drop i)) = lval l + lval m
theorem PlusI.start (l m : List Int) : PlusI l m [] 0 0 := ⟨rfl, okD_nil, by omega, by omega, by simp [lval]⟩
theorem PlusI.step {l m o : List Int} {i : Nat} {c : Int} (hl : okD l) (hm : okD m) (h : PlusI l m o i c) :
    PlusI l m (o ++ [(c + ((l[i]?).getD 0 + (m[i]?).getD 0)) % 65536]) (i + 1) ((c + ((l[i]?).getD 0 + (m[i]?).getD 0)) / 65536) := by
  have a := okD_get hl i
  have b := okD_get hm i
  have c0 := h.c0
  have c1 := h.c1
  refine ⟨by simp [h.len], okD_snoc h.ok (by omega) (by omega), by omega, by omega, ?_⟩
  rw [← h.eq]
  refine up i _ _ _ ?_ o h.len
  rw [lval_drop l i, lval_drop m i]; omega
theorem PlusI.stop {l m o : List Int} {i : Nat} {c : Int} (h : PlusI l m o i c) (h1 : l.length ≤ i) (h2 : m.length ≤ i) (hc : c ≤ 0) : lval o = lval l + lval m := by
  have := h.eq
  have c0 := h.c0
  rw [List.drop_eq_nil_of_le h1, List.drop_eq_nil_of_le h2, show c = 0 by omega] at this
  simpa [lval] using this

structure MinusI (l m o : List Int) (i : Nat) (b : Int) : Prop where
  len : o.length = i
  ok : okD o
  b0 : 0 ≤ b
  b1 : b ≤ 1
  eq : lval o + 65536 ^ i * (lval (l.drop i) - lval (m.drop i) - b) = lval l - lval m
theorem MinusI.start (l m : List Int) : MinusI l m [] 0 0 := ⟨rfl, okD_nil, by omega, by omega, by simp [lval]⟩
theorem MinusI.step {l m o : List Int} {i : Nat} {b : Int} (hl : okD l) (hm : okD m) (h : MinusI l m o i b) :
    MinusI l m (o ++ [((l[i]?).getD 0 + 65536 - (m[i]?).getD 0 - b) % 65536]) (i + 1) (1 - ((l[i]?).getD 0 + 65536 - (m[i]?).getD 0 - b) / 65536) := by
  have x := okD_get hl i
  have y := okD_get hm i
  have b0 := h.b0
  have b1 := h.b1
  refine ⟨by simp [h.len], okD_snoc h.ok (by omega) (by omega), by omega, by omega, ?_⟩
  rw [← h.eq]
  refine up i _ _ _ ?_ o h.len
  rw [lval_drop l i, lval_drop m i]; omega
theorem MinusI.stop {l m o : List Int} {b : Int} (h : MinusI l m o l.length b) (h2 : m.length ≤ l.length) (hv : lval m ≤ lval l) : lval o = lval l - lval m := by
  have e := h.eq
  have b0 := h.b0
  have b1 := h.b1
  have lt := lval_lt h.ok
  rw [h.len] at lt
  rw [List.drop_eq_nil_of_le (Nat.le_refl _), List.drop_eq_nil_of_le h2] at e
  simp only [lval, Int.sub_self, Int.zero_sub] at e
  have : b = 0 ∨ b = 1 := by omega
  rcases this with rfl | rfl
  · simpa using e
  · omega

structure MulI (l o : List Int) (x : Int) (j : Nat) (c : Int) : Prop where
  len : o.length = j
  ok : okD o
  c0 : 0 ≤ c
  c1 : c < 65536
  eq : lval o + 65536 ^ j * (c + x * lval (l.drop j)) = x * lval l
theorem MulI.start (l : List Int) (x : Int) : MulI l [] x 0 0 := ⟨rfl, okD_nil, by omega, by omega, by simp [lval]⟩
theorem mul_dd {a b : Int} (ha : 0 ≤ a ∧ a < 65536) (hb : 0 ≤ b ∧ b < 65536) : 0 ≤ a * b ∧ a * b ≤ 4294836225 := by
  have h1 : 0 ≤ a * b := Int.mul_nonneg ha.1 hb.1
  have h2 : a * b ≤ 65535 * 65535 := Int.mul_le_mul (by omega) (by omega) hb.1 (by omega)
  omega
theorem MulI.step {l o : List Int} {x : Int} {j : Nat} {c : Int} (hl : okD l) (hx : 0 ≤ x ∧ x < 65536) (h : MulI l o x j c) :
    MulI l (o ++ [(c + (l[j]?).getD 0 * x) % 65536]) x (j + 1) ((c + (l[j]?).getD 0 * x) / 65536) := by
  have a := okD_get hl j
  have p := mul_dd a hx
  have c0 := h.c0
  have c1 := h.c1
  refine ⟨by simp [h.len], okD_snoc h.ok (by omega) (by omega), by omega, by omega, ?_⟩
  rw [← h.eq]
  refine up j _ _ _ ?_ o h.len
  rw [lval_drop l j, Int.mul_add, Int.mul_comm x, ← Int.mul_assoc x, Int.mul_comm x 65536, Int.mul_assoc]; omega
theorem MulI.stop {l o : List Int} {x : Int} {c : Int} (h : MulI l o x l.length c) : lval (o ++ [c]) = x * lval l ∧ okD (o ++ [c]) := by
  have e := h.eq
  rw [List.drop_eq_nil_of_le (Nat.le_refl _)] at e
  refine ⟨?_, okD_snoc h.ok h.c0 h.c1⟩
  rw [lval_snoc, h.len, ← e]; simp [lval]

/-- Without the zeros at the end. -/
theorem trim_stop {d : List Int} (hd : okD d) {n : Nat} (hn : n ≤ d.length) (hv : lval (d.take n) = lval d) (h : n = 0 ∨ (d[n - 1]?).getD 0 ≠ 0) : d.take n = dig (lval d) := by
  rw [← hv]
  refine (dig_of (okD_take hd n) fun x hx => ?_).symm
  rcases h with rfl | h
  · simp at hx
  · rw [List.getLast?_eq_getElem?, List.length_take, Nat.min_eq_left hn, List.getElem?_take] at hx
    split at hx
    · rw [hx] at h; simpa using h
    · cases hx
theorem trim_step {d : List Int} {n : Nat} (h0 : 0 < n) (hn : n ≤ d.length) (hv : lval (d.take n) = lval d) (h : (d[n - 1]?).getD 0 = 0) : lval (d.take (n - 1)) = lval d := by
  rw [← hv]
  have e : d.take n = d.take (n - 1) ++ [(d[n - 1]?).getD 0] := by
    have hlt : n - 1 < d.length := by omega
    rw [List.getElem?_eq_getElem hlt, Option.getD_some, List.take_append_getElem hlt]
    congr 1; omega
  rw [e, lval_snoc, h]; simp

end Go.Proofs.YtnhmnfokbinplaaGreat

namespace Go.Proofs.YtnhmnfokbinplaaGreat

theorem dig_get : ∀ (j : Nat) (n : Int), 0 ≤ n → ((dig n)[j]?).getD 0 = n / 65536 ^ j % 65536
  | 0, n, h => by
    rcases Int.lt_or_eq_of_le h with g | g
    · rw [dig_pos g]; simp
    · subst g; rw [dig_zero]; simp
  | j + 1, n, h => by
    rcases Int.lt_or_eq_of_le h with g | g
    · rw [dig_pos g, List.getElem?_cons_succ, dig_get j (n / 65536) (by omega), Int.pow_succ, Int.mul_comm, Int.ediv_ediv_of_nonneg (by decide)]
    · subst g; rw [dig_zero]; simp
theorem bit_of (X : Int) (k : Nat) : (X / 65536 ^ (k / 16) % 65536) / 2 ^ (k % 16) % 2 = X / 2 ^ k % 2 := by
  have e : (2 : Int) ^ k = 65536 ^ (k / 16) * 2 ^ (k % 16) := by
    rw [show (65536 : Int) = 2 ^ 16 by decide, ← Int.pow_mul, ← Int.pow_add]
    congr 1; omega
  rw [e, ← Int.ediv_ediv_of_nonneg (Int.le_of_lt (pow_pos' _))]
  generalize X / 65536 ^ (k / 16) = Z
  have hk : k % 16 < 16 := Nat.mod_lt _ (by decide)
  generalize k % 16 = m at hk ⊢
  have : m = 0 ∨ m = 1 ∨ m = 2 ∨ m = 3 ∨ m = 4 ∨ m = 5 ∨ m = 6 ∨ m = 7 ∨ m = 8 ∨ m = 9 ∨ m = 10 ∨ m = 11 ∨ m = 12 ∨ m = 13 ∨ m = 14 ∨ m = 15 := by omega
  rcases this with rfl | rfl | rfl | rfl | rfl | rfl | rfl | rfl | rfl | rfl | rfl | rfl | rfl | rfl | rfl | rfl <;> simp only [Int.reducePow] <;> omega
theorem half_step (X : Int) (k : Nat) : X / 2 ^ k = 2 * (X / 2 ^ (k + 1)) + X / 2 ^ k % 2 := by
  rw [Int.pow_succ, ← Int.ediv_ediv_of_nonneg (Int.pow_nonneg (by decide))]
  omega
theorem div_step {Y Z b : Int} (hY : 0 < Y) (hb : 0 ≤ b ∧ b ≤ 1) : if Y ≤ 2 * (Z % Y) + b then (2 * Z + b) / Y = 2 * (Z / Y) + 1 ∧ (2 * Z + b) % Y = 2 * (Z % Y) + b - Y else (2 * Z + b) / Y = 2 * (Z / Y) ∧ (2 * Z + b) % Y = 2 * (Z % Y) + b := by
  have e := Int.mul_ediv_add_emod Z Y
  have h0 := Int.emod_nonneg Z (by omega : Y ≠ 0)
  have h1 := Int.emod_lt_of_pos Z hY
  split
  · refine (Int.ediv_emod_unique hY).2 ⟨?_, by omega, by omega⟩
    rw [Int.mul_add, Int.mul_left_comm, Int.mul_one]; omega
  · refine (Int.ediv_emod_unique hY).2 ⟨?_, by omega, by omega⟩
    rw [Int.mul_left_comm]; omega
/-- Division by bits: behind the bits from k up. -/
structure DivI (X Y : Int) (k : Nat) (q r : Int) : Prop where
  q : q = X / 2 ^ k / Y
  r : r = X / 2 ^ k % Y
theorem DivI.step {X Y : Int} {k : Nat} {q r : Int} (hY : 0 < Y) (h : DivI X Y (k + 1) q r) : if Y ≤ 2 * r + X / 2 ^ k % 2 then DivI X Y k (2 * q + 1) (2 * r + X / 2 ^ k % 2 - Y) else DivI X Y k (2 * q) (2 * r + X / 2 ^ k % 2) := by
  have hs := half_step X k
  have := div_step (Z := X / 2 ^ (k + 1)) hY (b := X / 2 ^ k % 2) (by omega)
  rw [← h.q, ← h.r, ← hs] at this
  split
  · rename_i g; rw [if_pos g] at this; exact ⟨this.1.symm, this.2.symm⟩
  · rename_i g; rw [if_neg g] at this; exact ⟨this.1.symm, this.2.symm⟩
theorem dig_bound {n : Int} (h : 0 ≤ n) : n < 2 ^ (16 * (dig n).length) := by
  have := (lval_lt (okD_dig n)).2
  rw [lval_dig' h] at this
  rwa [Int.pow_mul, show (2 : Int) ^ 16 = 65536 by decide]
theorem DivI.start {X Y : Int} (hX : 0 ≤ X) : DivI X Y (16 * (dig X).length) 0 0 := by
  have h := dig_bound hX
  have : X / 2 ^ (16 * (dig X).length) = 0 := Int.ediv_eq_zero_of_lt hX h
  exact ⟨by rw [this]; simp, by rw [this]; simp⟩
theorem DivI.stop {X Y q r : Int} (h : DivI X Y 0 q r) : q = X / Y ∧ r = X % Y := by
  have h1 := h.q; have h2 := h.r
  simpa using And.intro h1 h2
end Go.Proofs.YtnhmnfokbinplaaGreat
