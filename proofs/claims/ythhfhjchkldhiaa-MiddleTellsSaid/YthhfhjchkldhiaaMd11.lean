/- sketch.Middle: Rank, Size; bits and mod, walked in the world. Own work; no condition. -/
import Derived.Test.YthhfhjchkldhiaaMd10
namespace Go.Proofs.Ythhfhjchkldhiaa
open Go Go.RowKit Go.Deep
set_option linter.unusedSimpArgs false
set_option linter.unusedVariables false

def cnt (x : Int) (l : List Int) : Nat := l.countP fun y => decide (y ≤ x)
def rk (x : Int) : Nat → List (List Int) → Nat
  | _, [] => 0
  | j, l :: r => cnt x l * 2 ^ j + rk x (j + 1) r
theorem cnt_le (x : Int) (l : List Int) : cnt x l ≤ l.length := List.countP_le_length
theorem rk_le (x : Int) : ∀ (ls : List (List Int)) (j : Nat), rk x j ls ≤ wt j ls
  | [], _ => by simp [rk, wt]
  | l :: r, j => by
    have h1 := rk_le x r (j + 1)
    have h2 : cnt x l * 2 ^ j ≤ l.length * 2 ^ j := Nat.mul_le_mul_right _ (cnt_le x l)
    simp only [rk, wt]; omega
theorem rk_app (x : Int) : ∀ (ls : List (List Int)) (j : Nat) (l : List Int), rk x j (ls ++ [l]) = rk x j ls + cnt x l * 2 ^ (j + ls.length)
  | [], j, l => by simp [rk]
  | y :: r, j, l => by
    have := rk_app x r (j + 1) l
    rw [show j + 1 + r.length = j + (y :: r).length by simp; omega] at this
    simp only [List.cons_append, rk]; omega
theorem rk_take (x : Int) {ls : List (List Int)} {k : Nat} {l : List Int} (h : ls[k]? = some l) : rk x 0 (ls.take (k + 1)) = rk x 0 (ls.take k) + cnt x l * 2 ^ k := by
  have hk : k < ls.length := (List.getElem?_eq_some_iff.1 h).1
  rw [List.take_add_one, h, Option.toList_some, rk_app, List.length_take]
  rw [show 0 + min k ls.length = k by omega]
theorem cnt_take (x : Int) {l : List Int} {i : Nat} {y : Int} (h : l[i]? = some y) : cnt x (l.take (i + 1)) = cnt x (l.take i) + if y ≤ x then 1 else 0 := by
  rw [List.take_add_one, h, Option.toList_some, cnt, List.countP_append, cnt]
  by_cases hy : y ≤ x <;> simp [hy]
theorem rk_le_take (x : Int) (ls : List (List Int)) (k : Nat) : rk x 0 (ls.take k) ≤ wt 0 ls := by
  refine Nat.le_trans (rk_le x _ 0) ?_
  have : ∀ (ls : List (List Int)) (j k : Nat), wt j (ls.take k) ≤ wt j ls := by
    intro ls
    induction ls with
    | nil => intro j k; simp
    | cons l r ih =>
      intro j k
      cases k with
      | zero => simp [wt]
      | succ k => have := ih (j + 1) k; simp only [List.take_succ_cons, wt]; omega
  exact this ls 0 k

set_option maxRecDepth 100000 in
theorem compare_w (a b : Int) (w : World) : Calls Try.prog 18 #[.int .i64 a, .int .i64 b] w fun e w' => e = .returned (.int .i64 (if a < b then -1 else if b < a then 1 else 0)) ∧ w' = w := by
  by_cases h1 : a < b
  · go_enter Try.func18, Try.ntmps18
    go_wp2
    go_ret
    simp [h1]
  · by_cases h2 : b < a
    · go_enter Try.func18, Try.ntmps18
      go_wp2
      go_ret
      simp [h1, h2]
    · go_enter Try.func18, Try.ntmps18
      go_wp2
      go_ret
      simp [h1, h2]
set_option maxRecDepth 100000 in
set_option maxHeartbeats 2000000 in
theorem size_w (b c tot : Nat) (sh : Int) (rv : Value) (vs : List Value) (ls : List (List Int)) (w : World) (M : MidAt w b c tot sh rv vs ls) (F : Fit c tot sh ls) :
    Calls Try.prog 15 #[.pointer (some ⟨b, 0, none⟩)] w fun e w' => e = .returned (.int .i64 ((ls.map List.length).sum : Nat)) ∧ w' = w := by
  obtain ⟨c0, c1, c2, c3, f1, f2⟩ := M.facts
  obtain ⟨ra, rc, hrv⟩ := ownsRow_slice M.row
  subst hrv
  have hl := F.len
  have hsum : ∀ k, ((ls.take k).map List.length).sum ≤ 42 * 2 ^ 41 := by
    intro k
    have h1 : ∀ (m : List (List Int)), (∀ l, l ∈ m → l.length ≤ 2 ^ 41) → (m.map List.length).sum ≤ m.length * 2 ^ 41 := by
      intro m
      induction m with
      | nil => simp
      | cons a m ih =>
        intro h
        have h2 := ih fun l hl => h l (List.mem_cons_of_mem _ hl)
        have h3 := h a (List.mem_cons_self ..)
        simp only [List.map_cons, List.sum_cons, List.length_cons, Nat.add_mul]; omega
    have h2 := h1 (ls.take k) fun l hm => by
      obtain ⟨i, hi⟩ := List.getElem?_of_mem (List.mem_of_mem_take hm)
      exact F.each hi
    have h3 : (ls.take k).length ≤ 42 := by rw [List.length_take]; omega
    exact Nat.le_trans h2 (Nat.mul_le_mul_right (2 ^ 41) h3)
  clear c0 c1 c2 f1 f2
  go_enter Try.func15, Try.ntmps15
  go_wp2_with fail
  go_loopg [11, 3] 100 (fun g t n wr => ∃ k : Nat, t = .int .i64 k ∧ n = .int .i64 (((ls.take k).map List.length).sum : Nat) ∧ g + k = 100 ∧ k ≤ ls.length ∧ wr = w)
  case atStart => exact ⟨0, rfl, rfl, rfl, Nat.zero_le _, rfl⟩
  case round =>
    obtain ⟨k, rfl, rfl, hgk, hk, rfl⟩ := hrel
    by_cases hlt : k < ls.length
    · have hvl : k < vs.length := by rw [M.vlen]; exact hlt
      obtain ⟨v, hv⟩ : ∃ v, vs[k]? = some v := ⟨_, List.getElem?_eq_getElem hvl⟩
      obtain ⟨l, hl'⟩ : ∃ l, ls[k]? = some l := ⟨_, List.getElem?_eq_getElem hlt⟩
      obtain ⟨rb, cap, hform, _, _⟩ := M.row.form (by omega)
      simp only [Value.slice.injEq, true_and] at hform
      obtain ⟨rfl, rfl⟩ := hform
      obtain ⟨_, _, _, _, cr, _⟩ := M.rd hv
      obtain ⟨va, vc, rfl⟩ := ownsRow_slice (M.inner k v l hv hl')
      have hi0 : (0 : Int) ≤ (k : Int) := Int.natCast_nonneg _
      have hi1 : (k : Int) < (ls.length : Int) := by omega
      have hs1 : ((ls.take (k + 1)).map List.length).sum = ((ls.take k).map List.length).sum + l.length := by
        rw [List.take_add_one, hl', Option.toList_some]; simp
      have hs2 := hsum k
      have hs3 := F.each hl'
      obtain ⟨S, hS⟩ : ∃ S : Nat, S = ((ls.take k).map List.length).sum := ⟨_, rfl⟩
      have HS : Hid (S = ((ls.take k).map List.length).sum ∧ ((ls.take (k + 1)).map List.length).sum = ((ls.take k).map List.length).sum + l.length) := ⟨hS, hs1⟩
      rw [← hS] at hs2 ⊢
      have hs4 : (S : Int) ≤ 92358976733184 := by omega
      have hs5 : (l.length : Int) ≤ 2199023255552 := by omega
      clear hS hs1 hsum hs2 hs3 hv hl'
      go_wp2_with fail
      go_roundg (99 - k)
      case measure => omega
      case rel =>
        have h := HS
        exact ⟨k + 1, by simp, by rw [h.2, ← h.1]; simp, by omega, by omega, rfl⟩
    · have ek : k = ls.length := by omega
      subst ek
      rw [List.take_length]
      clear hsum M F hgk hk
      go_wp2_with fail
      go_ret
      exact ⟨rfl, rfl⟩
end Go.Proofs.Ythhfhjchkldhiaa
