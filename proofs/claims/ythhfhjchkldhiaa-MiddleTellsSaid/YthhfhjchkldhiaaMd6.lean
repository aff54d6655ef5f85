/- sketch.Middle, plain: what a level hands up; weights. Own work; no condition. -/
import Derived.Test.YthhfhjchkldhiaaMd3
namespace Go.Proofs.Ythhfhjchkldhiaa

def odds : List Int → List Int
  | _ :: b :: r => b :: odds r
  | _ => []
theorem odds_len : ∀ l : List Int, (odds l).length = l.length / 2
  | [] => rfl
  | [_] => by simp [odds]
  | _ :: _ :: r => by simp [odds, odds_len r]; omega
theorem odds_take : ∀ (m : Nat) (l : List Int) (y : Int), l[2 * m + 1]? = some y → odds (l.take (2 * (m + 1))) = odds (l.take (2 * m)) ++ [y]
  | 0, l, y, h => by
    match l, h with
    | a :: b :: r, h => simp at h; subst h; simp [odds]
  | m + 1, l, y, h => by
    match l, h with
    | a :: b :: r, h =>
      have h' : r[2 * m + 1]? = some y := by
        rw [show 2 * (m + 1) + 1 = (2 * m + 1) + 1 + 1 by omega] at h
        simpa using h
      have := odds_take m r y h'
      rw [show 2 * (m + 1 + 1) = 2 * (m + 1) + 1 + 1 by omega, show 2 * (m + 1) = 2 * m + 1 + 1 by omega]
      simp only [List.take_succ_cons, odds, List.cons_append]
      rw [← this]
      rfl
theorem odds_next {n : Nat} {l : List Int} {y : Int} (hn : n % 2 = 1) (h : l[n]? = some y) : odds (l.take (n + 2 - 1)) = odds (l.take (n - 1)) ++ [y] := by
  have := odds_take (n / 2) l y (by rw [show 2 * (n / 2) + 1 = n by omega]; exact h)
  rw [show 2 * (n / 2 + 1) = n + 2 - 1 by omega, show 2 * (n / 2) = n - 1 by omega] at this
  exact this
def sortZ (l : List Int) : List Int := l.mergeSort fun x y => decide (x ≤ y)
theorem sortZ_len (l : List Int) : (sortZ l).length = l.length := by simp [sortZ]

/-- One level is full: every second of its least values goes up. -/
inductive Step (c : Nat) : Int → List (List Int) → Int → List (List Int) → Prop
  | mk (sh : Int) (ls : List (List Int)) (h : Nat) (l : List Int) (hl : ls[h]? = some l) (hc : c ≤ l.length) : Step c sh ls (sh + ((2 ^ h : Nat) : Int)) (putM (ls.set h ((sortZ l).drop c)) (h + 1) (odds ((sortZ l).take c)))
inductive Steps (c : Nat) (sh : Int) (ls : List (List Int)) : Int → List (List Int) → Prop
  | refl : Steps c sh ls sh ls
  | tail {sh' : Int} {ls' : List (List Int)} {sh'' : Int} {ls'' : List (List Int)} (h : Steps c sh ls sh' ls') (s : Step c sh' ls' sh'' ls'') : Steps c sh ls sh'' ls''

def wt : Nat → List (List Int) → Nat
  | _, [] => 0
  | j, l :: r => l.length * 2 ^ j + wt (j + 1) r
def vt : Nat → List (List Int) → Nat
  | _, [] => 0
  | j, l :: r => j * (l.length * 2 ^ j) + vt (j + 1) r
theorem wt_set : ∀ (ls : List (List Int)) (j h : Nat) (l l' : List Int), ls[h]? = some l → wt j (ls.set h l') + l.length * 2 ^ (j + h) = wt j ls + l'.length * 2 ^ (j + h)
  | [], j, h, l, l', hl => by simp at hl
  | x :: r, j, 0, l, l', hl => by simp at hl; subst hl; simp [wt]; omega
  | x :: r, j, h + 1, l, l', hl => by
    have := wt_set r (j + 1) h l l' (by simpa using hl)
    rw [show j + 1 + h = j + (h + 1) by omega] at this
    simp only [List.set_cons_succ, wt]; omega
theorem vt_set : ∀ (ls : List (List Int)) (j h : Nat) (l l' : List Int), ls[h]? = some l → vt j (ls.set h l') + (j + h) * (l.length * 2 ^ (j + h)) = vt j ls + (j + h) * (l'.length * 2 ^ (j + h))
  | [], j, h, l, l', hl => by simp at hl
  | x :: r, j, 0, l, l', hl => by simp at hl; subst hl; simp [vt]; omega
  | x :: r, j, h + 1, l, l', hl => by
    have := vt_set r (j + 1) h l l' (by simpa using hl)
    rw [show j + 1 + h = j + (h + 1) by omega] at this
    simp only [List.set_cons_succ, vt]; omega
theorem wt_app : ∀ (ls : List (List Int)) (j : Nat) (l : List Int), wt j (ls ++ [l]) = wt j ls + l.length * 2 ^ (j + ls.length)
  | [], j, l => by simp [wt]
  | x :: r, j, l => by
    have := wt_app r (j + 1) l
    rw [show j + 1 + r.length = j + (x :: r).length by simp; omega] at this
    simp only [List.cons_append, wt]; omega
theorem vt_app : ∀ (ls : List (List Int)) (j : Nat) (l : List Int), vt j (ls ++ [l]) = vt j ls + (j + ls.length) * (l.length * 2 ^ (j + ls.length))
  | [], j, l => by simp [vt]
  | x :: r, j, l => by
    have := vt_app r (j + 1) l
    rw [show j + 1 + r.length = j + (x :: r).length by simp; omega] at this
    simp only [List.cons_append, vt]; omega
theorem wt_ge : ∀ (ls : List (List Int)) (j h : Nat) (l : List Int), ls[h]? = some l → l.length * 2 ^ (j + h) ≤ wt j ls
  | [], j, h, l, hl => by simp at hl
  | x :: r, j, 0, l, hl => by simp at hl; subst hl; simp [wt]
  | x :: r, j, h + 1, l, hl => by
    have := wt_ge r (j + 1) h l (by simpa using hl)
    rw [show j + 1 + h = j + (h + 1) by omega] at this
    simp only [wt]; omega
theorem vt_le : ∀ (ls : List (List Int)) (j : Nat), vt j ls ≤ (j + ls.length) * wt j ls
  | [], j => by simp [vt, wt]
  | x :: r, j => by
    have := vt_le r (j + 1)
    simp only [vt, wt, List.length_cons, Nat.mul_add]
    rw [show j + 1 + r.length = j + (r.length + 1) by omega] at this
    have h2 : j * (x.length * 2 ^ j) ≤ (j + (r.length + 1)) * (x.length * 2 ^ j) := Nat.mul_le_mul_right _ (by omega)
    omega

/-- What holds of a sketch between two steps. -/
structure Fit (c : Nat) (tot : Nat) (sh : Int) (ls : List (List Int)) : Prop where
  even : c % 2 = 0
  pos : 2 ≤ c
  cap : c ≤ 1024
  w : wt 0 ls = tot
  v : (c : Int) * sh = (vt 0 ls : Nat)
  bound : tot ≤ 2 ^ 41
  top : ∀ l, ls.getLast? = some l → l ≠ []

theorem Fit.len {c tot : Nat} {sh : Int} {ls : List (List Int)} (h : Fit c tot sh ls) : ls.length ≤ 42 := by
  rcases Nat.eq_zero_or_pos ls.length with g | g
  · omega
  · have hne : ls ≠ [] := List.ne_nil_of_length_pos g
    have h1 := h.top _ (List.getLast?_eq_some_getLast hne)
    have h2 : ls[ls.length - 1]? = some (ls.getLast hne) := by rw [← List.getLast?_eq_getElem?]; exact List.getLast?_eq_some_getLast hne
    have h3 := wt_ge ls 0 _ _ h2
    have h4 : 0 < (ls.getLast hne).length := List.length_pos_iff.2 h1
    have h5 : 2 ^ (0 + (ls.length - 1)) ≤ 2 ^ 41 := by
      have := Nat.le_mul_of_pos_left (2 ^ (0 + (ls.length - 1))) h4
      have := h.w; have := h.bound; omega
    have := (Nat.pow_le_pow_iff_right (by omega : 1 < 2)).1 h5
    omega
theorem Fit.each {c tot : Nat} {sh : Int} {ls : List (List Int)} (h : Fit c tot sh ls) {j : Nat} {l : List Int} (hl : ls[j]? = some l) : l.length ≤ 2 ^ 41 := by
  have h1 := wt_ge ls 0 _ _ hl
  have h2 : 0 < 2 ^ (0 + j) := Nat.pow_pos (by omega)
  have h3 := Nat.le_mul_of_pos_right l.length h2
  have := h.w; have := h.bound; omega
theorem Fit.short {c tot : Nat} {sh : Int} {ls : List (List Int)} (h : Fit c tot sh ls) : 0 ≤ sh ∧ sh ≤ 42 * 2 ^ 41 := by
  have hp := h.pos
  have hv := h.v
  have h1 := vt_le ls 0
  have h2 := h.len
  have h3 : vt 0 ls ≤ 42 * 2 ^ 41 := by
    refine Nat.le_trans h1 ?_
    rw [h.w, Nat.zero_add]
    exact Nat.mul_le_mul h2 h.bound
  have hc : (0 : Int) < (c : Int) := by omega
  constructor
  · rcases Int.lt_or_le sh 0 with g | g
    · have := Int.mul_neg_of_pos_of_neg hc g
      omega
    · exact g
  · rcases Int.lt_or_le sh 0 with g | g
    · omega
    · have : sh ≤ (c : Int) * sh := by
        have h4 : (1 : Int) * sh ≤ (c : Int) * sh := Int.mul_le_mul_of_nonneg_right (by omega) g
        omega
      omega

theorem putM_lt {ls : List (List Int)} {h : Nat} {l : List Int} (g : h < ls.length) : putM ls h l = ls.set h ((ls[h]?).getD [] ++ l) := by simp [putM, g]
theorem putM_eq {ls : List (List Int)} {l : List Int} : putM ls ls.length l = ls ++ [l] := by simp [putM]

theorem Fit.step {c tot : Nat} {sh sh' : Int} {ls ls' : List (List Int)} (h : Fit c tot sh ls) (s : Step c sh ls sh' ls') : Fit c tot sh' ls' := by
  cases s
  rename_i k l hl hc
  have hk : k < ls.length := (List.getElem?_eq_some_iff.1 hl).1
  have he := h.even
  have hp := h.pos
  have hup : (odds ((sortZ l).take c)).length = c / 2 := by rw [odds_len, List.length_take, sortZ_len, Nat.min_eq_left hc]
  have hd : ((sortZ l).drop c).length = l.length - c := by rw [List.length_drop, sortZ_len]
  have w1 := wt_set ls 0 k l ((sortZ l).drop c) hl
  have v1 := vt_set ls 0 k l ((sortZ l).drop c) hl
  rw [Nat.zero_add, hd] at w1 v1
  have hpow : 2 ^ (k + 1) = 2 * 2 ^ k := by rw [Nat.pow_succ]; omega
  have hc2 : c / 2 * (2 * 2 ^ k) = c * 2 ^ k := by rw [← Nat.mul_assoc, Nat.div_mul_cancel (Nat.dvd_of_mod_eq_zero he)]
  have hlk : (l.length - c) * 2 ^ k + c * 2 ^ k = l.length * 2 ^ k := by rw [← Nat.add_mul, Nat.sub_add_cancel hc]
  have hlk2 : k * ((l.length - c) * 2 ^ k) + k * (c * 2 ^ k) = k * (l.length * 2 ^ k) := by rw [← Nat.mul_add, hlk]
  have key : wt 0 (putM (ls.set k ((sortZ l).drop c)) (k + 1) (odds ((sortZ l).take c))) = wt 0 ls ∧ vt 0 (putM (ls.set k ((sortZ l).drop c)) (k + 1) (odds ((sortZ l).take c))) = vt 0 ls + c * 2 ^ k := by
    rcases Nat.lt_or_ge (k + 1) ls.length with g | g
    · rw [putM_lt (by rw [List.length_set]; exact g)]
      have h2 : (ls.set k ((sortZ l).drop c))[k + 1]? = some ls[k + 1] := by rw [List.getElem?_set_ne (by omega), List.getElem?_eq_getElem g]
      rw [h2, Option.getD_some]
      have w2 := wt_set _ 0 _ _ (ls[k + 1] ++ odds ((sortZ l).take c)) h2
      have v2 := vt_set _ 0 _ _ (ls[k + 1] ++ odds ((sortZ l).take c)) h2
      rw [Nat.zero_add, List.length_append, hup, hpow, Nat.add_mul ls[k + 1].length (c / 2), hc2] at w2 v2
      rw [Nat.mul_add (k + 1)] at v2
      have : (k + 1) * (c * 2 ^ k) = k * (c * 2 ^ k) + c * 2 ^ k := by rw [Nat.add_mul, Nat.one_mul]
      constructor <;> omega
    · have e : k + 1 = (ls.set k ((sortZ l).drop c)).length := by rw [List.length_set]; omega
      rw [e, putM_eq]
      have w2 := wt_app (ls.set k ((sortZ l).drop c)) 0 (odds ((sortZ l).take c))
      have v2 := vt_app (ls.set k ((sortZ l).drop c)) 0 (odds ((sortZ l).take c))
      rw [Nat.zero_add, ← e, hup, hpow, hc2] at w2 v2
      have : (k + 1) * (c * 2 ^ k) = k * (c * 2 ^ k) + c * 2 ^ k := by rw [Nat.add_mul, Nat.one_mul]
      constructor <;> omega
  refine ⟨he, hp, h.cap, by rw [key.1, h.w], ?_, h.bound, ?_⟩
  · rw [key.2, Int.mul_add, h.v]; simp
  · intro x hx
    rcases Nat.lt_or_ge (k + 1) ls.length with g | g
    · rw [putM_lt (by rw [List.length_set]; exact g)] at hx
      rw [List.getLast?_eq_getElem?, List.length_set, List.length_set] at hx
      rcases Nat.lt_or_ge (k + 1) (ls.length - 1) with g' | g'
      · rw [List.getElem?_set_ne (by omega), List.getElem?_set_ne (by omega), ← List.getLast?_eq_getElem?] at hx
        exact h.top x hx
      · rw [show ls.length - 1 = k + 1 by omega, List.getElem?_set_self (by rw [List.length_set]; exact g)] at hx
        simp only [Option.some.injEq] at hx
        intro e
        have := congrArg List.length hx
        rw [e, List.length_append, hup, List.length_nil] at this
        omega
    · have e : k + 1 = (ls.set k ((sortZ l).drop c)).length := by rw [List.length_set]; omega
      rw [e, putM_eq, List.getLast?_append] at hx
      simp at hx
      rintro rfl
      have := congrArg List.length hx
      rw [hup, List.length_nil] at this; omega
theorem Fit.steps {c tot : Nat} {sh sh' : Int} {ls ls' : List (List Int)} (h : Fit c tot sh ls) (s : Steps c sh ls sh' ls') : Fit c tot sh' ls' := by
  induction s with
  | refl => exact h
  | tail _ s ih => exact ih.step s
end Go.Proofs.Ythhfhjchkldhiaa
