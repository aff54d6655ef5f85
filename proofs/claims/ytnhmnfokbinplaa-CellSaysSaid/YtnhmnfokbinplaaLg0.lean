/- Numbers as lists of digits to the base 65536. Plain Lean. Own work; no condition. -/
import Derived.Test.YtnhmnfokbinplaaAbs21
namespace Go.Proofs.Ytnhmnfokbinplaa

def lval : List Int → Int
  | [] => 0
  | d :: r => d + 65536 * lval r
def okD (l : List Int) : Prop := ∀ d, d ∈ l → 0 ≤ d ∧ d < 65536
theorem okD_nil : okD [] := fun d h => by simp at h
theorem okD_cons {d : Int} {l : List Int} : okD (d :: l) ↔ (0 ≤ d ∧ d < 65536) ∧ okD l := by
  unfold okD; simp
theorem okD_app {a b : List Int} : okD (a ++ b) ↔ okD a ∧ okD b := by
  unfold okD; simp only [List.mem_append]
  exact ⟨fun h => ⟨fun d hd => h d (.inl hd), fun d hd => h d (.inr hd)⟩, fun h d hd => hd.elim (h.1 d) (h.2 d)⟩
theorem okD_snoc {a : List Int} {d : Int} (h : okD a) (h0 : 0 ≤ d) (h1 : d < 65536) : okD (a ++ [d]) := okD_app.2 ⟨h, okD_cons.2 ⟨⟨h0, h1⟩, okD_nil⟩⟩
theorem lval_app : ∀ a b : List Int, lval (a ++ b) = lval a + 65536 ^ a.length * lval b
  | [], b => by simp [lval]
  | d :: a, b => by
    simp only [List.cons_append, lval, lval_app a b, List.length_cons, Int.pow_succ]
    rw [Int.mul_add, Int.mul_comm (65536 ^ a.length) 65536, Int.mul_assoc]; omega
theorem lval_snoc (l : List Int) (d : Int) : lval (l ++ [d]) = lval l + 65536 ^ l.length * d := by
  rw [lval_app]; simp [lval]
theorem lval_lt : ∀ {l : List Int}, okD l → 0 ≤ lval l ∧ lval l < 65536 ^ l.length
  | [], _ => by simp [lval]
  | d :: l, h => by
    have h1 := okD_cons.1 h
    have h2 := lval_lt h1.2
    simp only [lval, List.length_cons, Int.pow_succ]; omega
def dig (n : Int) : List Int := if n ≤ 0 then [] else n % 65536 :: dig (n / 65536)
termination_by n.toNat
decreasing_by omega
theorem dig_zero : dig 0 = [] := by rw [dig]; rfl
theorem dig_pos {n : Int} (h : 0 < n) : dig n = n % 65536 :: dig (n / 65536) := by rw [dig, if_neg (by omega)]
theorem lval_dig (n : Nat) : lval (dig n) = n := by
  induction n using Nat.strongRecOn with
  | _ n ih =>
    rcases Nat.eq_zero_or_pos n with h | h
    · subst h; rw [show ((0 : Nat) : Int) = 0 from rfl, dig_zero]; rfl
    · rw [dig_pos (by omega)]
      have := ih (n / 65536) (by omega)
      have e : (n : Int) / 65536 = ((n / 65536 : Nat) : Int) := by omega
      rw [lval, e, this]; omega
theorem lval_dig' {n : Int} (h : 0 ≤ n) : lval (dig n) = n := by
  obtain ⟨k, rfl⟩ := Int.eq_ofNat_of_zero_le h
  exact lval_dig k
theorem okD_dig' (n : Nat) : okD (dig n) := by
  induction n using Nat.strongRecOn with
  | _ n ih =>
    rcases Nat.eq_zero_or_pos n with h | h
    · subst h; rw [show ((0 : Nat) : Int) = 0 from rfl, dig_zero]; exact okD_nil
    · rw [dig_pos (by omega)]
      have := ih (n / 65536) (by omega)
      have e : (n : Int) / 65536 = ((n / 65536 : Nat) : Int) := by omega
      rw [e]
      exact okD_cons.2 ⟨by omega, this⟩
theorem okD_dig (n : Int) : okD (dig n) := by
  rcases Int.lt_or_le n 0 with h | h
  · rw [dig, if_pos (by omega)]; exact okD_nil
  · obtain ⟨k, rfl⟩ := Int.eq_ofNat_of_zero_le h
    exact okD_dig' k
theorem dig_len : ∀ (k : Nat) (n : Int), n < 65536 ^ k → (dig n).length ≤ k
  | 0, n, h => by
    rw [dig, if_pos (by simp at h; omega)]; simp
  | k + 1, n, h => by
    rw [dig]
    split
    · simp
    · rw [Int.pow_succ] at h
      have := dig_len k (n / 65536) (by omega)
      simp only [List.length_cons]; omega
/-- Digits without zeros at the end are the number's. -/
theorem dig_of : ∀ {l : List Int}, okD l → (∀ d, l.getLast? = some d → d ≠ 0) → dig (lval l) = l
  | [], _, _ => by rw [lval, dig_zero]
  | d :: l, h, hl => by
    have h1 := okD_cons.1 h
    have h0 := (lval_lt h1.2).1
    have hl' : ∀ e, l.getLast? = some e → e ≠ 0 := by
      intro e he
      refine hl e ?_
      cases l with
      | nil => simp at he
      | cons a l => rw [List.getLast?_cons_cons]; exact he
    have ih := dig_of h1.2 hl'
    have hne : 0 < lval (d :: l) := by
      have : ¬ (d = 0 ∧ lval l = 0) := by
        rintro ⟨e1, e2⟩
        rw [e2, dig_zero] at ih
        subst ih
        exact hl d (by simp) e1
      simp only [lval]; omega
    rw [dig_pos hne]
    simp only [lval]
    rw [show (d + 65536 * lval l) % 65536 = d by omega, show (d + 65536 * lval l) / 65536 = lval l by omega, ih]
theorem lval_drop (l : List Int) (i : Nat) : lval (l.drop i) = (l[i]?).getD 0 + 65536 * lval (l.drop (i + 1)) := by
  rcases Nat.lt_or_ge i l.length with h | h
  · rw [List.drop_eq_getElem_cons h, List.getElem?_eq_getElem h]; rfl
  · rw [List.drop_eq_nil_of_le h, List.drop_eq_nil_of_le (by omega), List.getElem?_eq_none h]; rfl
theorem lval_split (l : List Int) (i : Nat) (h : i ≤ l.length) : lval l = lval (l.take i) + 65536 ^ i * lval (l.drop i) := by
  have := lval_app (l.take i) (l.drop i)
  rw [List.take_append_drop, List.length_take, Nat.min_eq_left h] at this
  exact this
theorem okD_get {l : List Int} (h : okD l) (i : Nat) : 0 ≤ (l[i]?).getD 0 ∧ (l[i]?).getD 0 < 65536 := by
  cases hi : l[i]? with
  | none => simp
  | some d => exact h d (List.mem_of_getElem? hi)
theorem okD_take {l : List Int} (h : okD l) (i : Nat) : okD (l.take i) := fun d hd => h d (List.mem_of_mem_take hd)
theorem pow_pos' (i : Nat) : (0 : Int) < 65536 ^ i := Int.pow_pos (by decide)
/-- The order of two lists of digits of one length is told by the highest digits that are not the same. -/
theorem lval_less {a b : List Int} (ha : okD a) (hb : okD b) (hl : a.length = b.length) (i : Nat) (hi : i < a.length) (he : a.drop (i + 1) = b.drop (i + 1)) (hd : (a[i]?).getD 0 < (b[i]?).getD 0) : lval a < lval b := by
  have h1 := lval_split a i (by omega)
  have h2 := lval_split b i (by omega)
  have h3 := (lval_lt (okD_take ha i)).2
  have h5 := (lval_lt (okD_take hb i)).1
  rw [List.length_take, Nat.min_eq_left (by omega)] at h3
  rw [lval_drop a i] at h1
  rw [lval_drop b i, ← he] at h2
  have h4 : (65536 : Int) ^ i * ((a[i]?).getD 0 + 65536 * lval (a.drop (i + 1)) + 1) ≤ 65536 ^ i * ((b[i]?).getD 0 + 65536 * lval (a.drop (i + 1))) := Int.mul_le_mul_of_nonneg_left (by omega) (Int.le_of_lt (pow_pos' i))
  rw [Int.mul_add (65536 ^ i) _ 1] at h4
  omega
theorem dig_len_less {m n : Int} (h0 : 0 ≤ m) (h : (dig m).length < (dig n).length) : m < n := by
  have h1 := (lval_lt (okD_dig m)).2
  rw [lval_dig' h0] at h1
  rcases Int.lt_or_le m n with g | g
  · exact g
  · have := dig_len (dig m).length n (by omega)
    omega
end Go.Proofs.Ytnhmnfokbinplaa
