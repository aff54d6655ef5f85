/- sketch.Middle, plain: what is told of ranks is never wrong. Own work; no condition. -/
import Derived.Test.YthhfhjchkldhiaaMd12
namespace Go.Proofs.Ythhfhjchkldhiaa
set_option linter.unusedSimpArgs false
set_option linter.unusedVariables false

theorem sortZ_perm (l : List Int) : List.Perm (sortZ l) l := List.mergeSort_perm _ _
theorem sortZ_sorted (l : List Int) : (sortZ l).Pairwise (fun a b => a ≤ b) := by
  have h := List.pairwise_mergeSort (le := fun x y : Int => decide (x ≤ y)) (fun a b c h1 h2 => by simp at *; omega) (fun a b => by simp; omega) l
  exact h.imp fun h => by simpa using h
theorem cnt_odds (x : Int) : ∀ t : List Int, t.Pairwise (fun a b => a ≤ b) → cnt x (odds t) = cnt x t / 2
  | [], _ => by simp [odds, cnt]
  | [a], _ => by simp only [odds, cnt, List.countP_nil, List.countP_cons]; split <;> simp
  | a :: b :: r, h => by
    have h1 := List.pairwise_cons.1 h
    have h2 := List.pairwise_cons.1 h1.2
    have hab := h1.1 b (List.mem_cons_self ..)
    have ih := cnt_odds x r h2.2
    by_cases hb : b ≤ x
    · have ha : a ≤ x := by omega
      simp only [odds, cnt, List.countP_cons, hb, ha, decide_true, if_true] at ih ⊢
      rw [ih]; omega
    · have h0 : cnt x r = 0 := by
        refine List.countP_eq_zero.2 fun y hy => ?_
        have := h2.1 y hy
        simp; omega
      have h3 : cnt x (odds r) = 0 := by rw [ih, h0]
      simp only [cnt] at h0 h3
      simp only [odds, cnt, List.countP_cons, hb, decide_false, Bool.false_eq_true, if_false, h0, h3]
      split <;> simp

theorem cnt_app (x : Int) (a b : List Int) : cnt x (a ++ b) = cnt x a + cnt x b := List.countP_append ..
theorem rk_set (x : Int) : ∀ (ls : List (List Int)) (j h : Nat) (l l' : List Int), ls[h]? = some l → rk x j (ls.set h l') + cnt x l * 2 ^ (j + h) = rk x j ls + cnt x l' * 2 ^ (j + h)
  | [], j, h, l, l', hl => by simp at hl
  | y :: r, j, 0, l, l', hl => by simp at hl; subst hl; simp [rk]; omega
  | y :: r, j, h + 1, l, l', hl => by
    have := rk_set x r (j + 1) h l l' (by simpa using hl)
    rw [show j + 1 + h = j + (h + 1) by omega] at this
    simp only [List.set_cons_succ, rk]; omega
theorem mergeL_rk (x : Int) : ∀ (a b : List (List Int)) (j : Nat), rk x j (mergeL a b) = rk x j a + rk x j b
  | [], b, j => by simp [mergeL, rk]
  | y :: a, [], j => by simp [mergeL, rk]
  | y :: a, z :: b, j => by simp [mergeL, rk, mergeL_rk x a b, cnt_app, Nat.add_mul]; omega

/-- What stands between two states of a step. -/
theorem step_rk {c : Nat} {sh sh' : Int} {ls ls' : List (List Int)} (s : Step c sh ls sh' ls') (he : c % 2 = 0) (x : Int) : ∃ d : Nat, sh' = sh + ((d : Nat) : Int) ∧ rk x 0 ls' ≤ rk x 0 ls ∧ rk x 0 ls ≤ rk x 0 ls' + d := by
  cases s
  rename_i k l hl hc
  have hk : k < ls.length := (List.getElem?_eq_some_iff.1 hl).1
  refine ⟨2 ^ k, rfl, ?_⟩
  have hsrt := (sortZ_sorted l).sublist (List.take_sublist c (sortZ l))
  have hup := cnt_odds x _ hsrt
  have hcs : cnt x ((sortZ l).take c) + cnt x ((sortZ l).drop c) = cnt x l := by
    rw [← cnt_app, List.take_append_drop]
    exact (sortZ_perm l).countP_eq _
  have w1 := rk_set x ls 0 k l ((sortZ l).drop c) hl
  rw [Nat.zero_add] at w1
  have hpow : 2 ^ (k + 1) = 2 * 2 ^ k := by rw [Nat.pow_succ]; omega
  have key : rk x 0 (putM (ls.set k ((sortZ l).drop c)) (k + 1) (odds ((sortZ l).take c))) = rk x 0 (ls.set k ((sortZ l).drop c)) + cnt x (odds ((sortZ l).take c)) * (2 * 2 ^ k) := by
    rcases Nat.lt_or_ge (k + 1) ls.length with g | g
    · rw [putM_lt (by rw [List.length_set]; exact g)]
      have h2 : (ls.set k ((sortZ l).drop c))[k + 1]? = some ls[k + 1] := by rw [List.getElem?_set_ne (by omega), List.getElem?_eq_getElem g]
      rw [h2, Option.getD_some]
      have w2 := rk_set x _ 0 _ _ (ls[k + 1] ++ odds ((sortZ l).take c)) h2
      rw [Nat.zero_add, cnt_app, hpow, Nat.add_mul] at w2
      omega
    · have e : k + 1 = (ls.set k ((sortZ l).drop c)).length := by rw [List.length_set]; omega
      rw [e, putM_eq]
      have w2 := rk_app x (ls.set k ((sortZ l).drop c)) 0 (odds ((sortZ l).take c))
      rw [Nat.zero_add, ← e, hpow] at w2
      exact w2
  rw [key, hup]
  clear key hup hsrt
  generalize cnt x ((sortZ l).take c) = r at *
  generalize 2 ^ k = p at *
  have e1 : cnt x l * p = r * p + cnt x ((sortZ l).drop c) * p := by rw [← hcs, Nat.add_mul]
  have e2 : r * p = r / 2 * (2 * p) + r % 2 * p := by
    have := Nat.div_add_mod r 2
    calc r * p = (2 * (r / 2) + r % 2) * p := by rw [this]
      _ = r / 2 * (2 * p) + r % 2 * p := by rw [Nat.add_mul]; congr 1; rw [Nat.mul_comm 2 (r / 2), Nat.mul_assoc]
  have e3 : r % 2 * p ≤ p := by
    have : r % 2 ≤ 1 := by omega
    calc r % 2 * p ≤ 1 * p := Nat.mul_le_mul_right _ this
      _ = p := Nat.one_mul _
  constructor <;> omega

/-- Behind each level stands a whole number of what a step hands up. -/
def Div (c : Nat) (ls : List (List Int)) : Prop := ∀ j, c * 2 ^ j ∣ wt (j + 1) (ls.drop (j + 1))
theorem Div.merge {c : Nat} {a b : List (List Int)} (ha : Div c a) (hb : Div c b) : Div c (mergeL a b) := by
  have key : ∀ (n : Nat) (a b : List (List Int)), (mergeL a b).drop n = mergeL (a.drop n) (b.drop n) := by
    intro n
    induction n with
    | zero => intro a b; rfl
    | succ n ih =>
      intro a b
      cases a with
      | nil => simp [mergeL]
      | cons x a =>
        cases b with
        | nil => simp [mergeL, mergeL_nil]
        | cons y b => simpa [mergeL] using ih a b
  intro j
  rw [key, mergeL_wt]
  exact Nat.dvd_add (ha j) (hb j)
theorem drop_put0 (ls : List (List Int)) (l : List Int) (j : Nat) : (putM ls 0 l).drop (j + 1) = ls.drop (j + 1) := by
  cases ls with
  | nil => simp [putM]
  | cons x r => simp [putM]
theorem Div.add {c : Nat} {ls : List (List Int)} (h : Div c ls) (x : Int) : Div c (putM ls 0 [x]) := fun j => by rw [drop_put0]; exact h j
theorem drop_set_lt {α : Type} : ∀ (ls : List α) (j h : Nat) (x : α), h < j → (ls.set h x).drop j = ls.drop j
  | [], j, h, x, hj => by simp
  | y :: r, 0, h, x, hj => by omega
  | y :: r, j + 1, 0, x, hj => by simp
  | y :: r, j + 1, h + 1, x, hj => by simpa using drop_set_lt r j h x (by omega)
theorem drop_set_ge {α : Type} : ∀ (ls : List α) (j h : Nat) (x : α), j ≤ h → (ls.set h x).drop j = (ls.drop j).set (h - j) x
  | [], j, h, x, hj => by simp
  | y :: r, 0, h, x, hj => by simp
  | y :: r, j + 1, 0, x, hj => by omega
  | y :: r, j + 1, h + 1, x, hj => by
    have := drop_set_ge r j h x (by omega)
    simpa using this
theorem Div.step {c : Nat} {sh sh' : Int} {ls ls' : List (List Int)} (h : Div c ls) (s : Step c sh ls sh' ls') (he : c % 2 = 0) : Div c ls' := by
  cases s
  rename_i k l hl hc
  have hk : k < ls.length := (List.getElem?_eq_some_iff.1 hl).1
  have hup : (odds ((sortZ l).take c)).length = c / 2 := by rw [odds_len, List.length_take, sortZ_len, Nat.min_eq_left hc]
  have hd : ((sortZ l).drop c).length = l.length - c := by rw [List.length_drop, sortZ_len]
  have hpow : 2 ^ (k + 1) = 2 * 2 ^ k := by rw [Nat.pow_succ]; omega
  have hc2 : c / 2 * (2 * 2 ^ k) = c * 2 ^ k := by rw [← Nat.mul_assoc, Nat.div_mul_cancel (Nat.dvd_of_mod_eq_zero he)]
  have hlk : (l.length - c) * 2 ^ k + c * 2 ^ k = l.length * 2 ^ k := by rw [← Nat.add_mul, Nat.sub_add_cancel hc]
  -- the weight behind level j
  have key : ∀ j, wt j ((putM (ls.set k ((sortZ l).drop c)) (k + 1) (odds ((sortZ l).take c))).drop j) = wt j (ls.drop j) + (if j = k + 1 then c * 2 ^ k else 0) := by
    intro j
    have put : j ≤ k + 1 → wt j ((putM (ls.set k ((sortZ l).drop c)) (k + 1) (odds ((sortZ l).take c))).drop j) = wt j ((ls.set k ((sortZ l).drop c)).drop j) + c * 2 ^ k := by
      intro hj
      rcases Nat.lt_or_ge (k + 1) ls.length with g | g
      · rw [putM_lt (by rw [List.length_set]; exact g)]
        have h2 : (ls.set k ((sortZ l).drop c))[k + 1]? = some ls[k + 1] := by rw [List.getElem?_set_ne (by omega), List.getElem?_eq_getElem g]
        rw [h2, Option.getD_some, drop_set_ge _ _ _ _ hj]
        have h3 : ((ls.set k ((sortZ l).drop c)).drop j)[k + 1 - j]? = some ls[k + 1] := by rw [List.getElem?_drop, show j + (k + 1 - j) = k + 1 by omega]; exact h2
        have w2 := wt_set _ j _ _ (ls[k + 1] ++ odds ((sortZ l).take c)) h3
        rw [show j + (k + 1 - j) = k + 1 by omega, List.length_append, hup, hpow, Nat.add_mul ls[k + 1].length (c / 2), hc2] at w2
        omega
      · have e : k + 1 = (ls.set k ((sortZ l).drop c)).length := by rw [List.length_set]; omega
        rw [e, putM_eq, List.drop_append_of_le_length (by omega), wt_app, List.length_drop, ← e, show j + (k + 1 - j) = k + 1 by omega, hup, hpow, hc2]
    rcases Nat.lt_or_ge (k + 1) j with g | g
    · rw [if_neg (by omega), Nat.add_zero]
      congr 1
      unfold putM
      split
      · rw [drop_set_lt _ _ _ _ g, drop_set_lt _ _ _ _ (by omega)]
      · rename_i h1
        rw [List.length_set] at h1
        rw [List.drop_eq_nil_of_le (by simp; omega), List.drop_eq_nil_of_le (by omega)]
    · rw [put g]
      rcases Nat.lt_or_ge k j with g' | g'
      · rw [if_pos (by omega), drop_set_lt _ _ _ _ g']
      · rw [if_neg (by omega), drop_set_ge _ _ _ _ g']
        have h3 : (ls.drop j)[k - j]? = some l := by rw [List.getElem?_drop, show j + (k - j) = k by omega]; exact hl
        have w1 := wt_set _ j _ _ ((sortZ l).drop c) h3
        rw [show j + (k - j) = k by omega, hd] at w1
        omega
  intro j
  rw [key]
  refine Nat.dvd_add (h j) ?_
  split
  · rename_i e
    rw [show j = k by omega]; exact Nat.dvd_refl _
  · exact Nat.dvd_zero _
end Go.Proofs.Ythhfhjchkldhiaa
