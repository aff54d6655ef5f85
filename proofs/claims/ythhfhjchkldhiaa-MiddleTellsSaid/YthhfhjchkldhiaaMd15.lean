/- MiddleTells: mod, Rank in one, ranked, walked in the world. Own work; no condition. -/
import Derived.Test.YthhfhjchkldhiaaMd14
namespace Go.Proofs.Ythhfhjchkldhiaa
open Go Go.RowKit Go.Deep
set_option linter.unusedSimpArgs false
set_option linter.unusedVariables false

theorem mod_eq (n m : Int) : (n.tmod m + m) % m = n % m := by
  rw [Int.add_emod_right, Int.tmod_def, Int.sub_mul_emod_self_left]
set_option maxRecDepth 100000 in
theorem mod_w (n m : Int) (hm : 0 < m) (hb : m < 4611686018427387904) (hn : -9223372036854775808 ≤ n) (hn' : n ≤ 9223372036854775807) (w : World) : Calls Try.prog 6 #[.int .i64 n, .int .i64 m] w fun e w' => e = .returned (.int .i64 (n % m)) ∧ w' = w := by
  have h1 := mod_eq n m
  have h2 : n.tmod m < m := Int.tmod_lt_of_pos n hm
  have h3 : -m < n.tmod m := by
    rw [Int.tmod_eq_emod]
    have := Int.emod_nonneg n (by omega : m ≠ 0)
    split <;> omega
  have h4 : (m == 0) = false := by simp; omega
  have H : Hid ((n.tmod m + m) % m = n % m) := h1
  clear h1
  go_enter Try.func6, Try.ntmps6
  go_wp2_with fail
  go_ret
  have h : (n.tmod m + m) % m = n % m := H
  exact ⟨by rw [← h]; rfl, rfl⟩

/-- Rank, whatever is asked. -/
theorem rank_c (b c tot : Nat) (sh : Int) (rv : Value) (vs : List Value) (ls : List (List Int)) (x : Int) (w : World) (M : MidAt w b c tot sh rv vs ls) (F : Fit c tot sh ls) :
    Calls Try.prog 13 #[.pointer (some ⟨b, 0, none⟩), .int .i64 x] w fun e w' => e = .returned (.tuple #[.int .i64 (rankZ x tot sh ls).1, .int .i64 (rankZ x tot sh ls).2]) ∧ Turn w w' (fun _ => False) ∧ w'.heap.size = w.heap.size := by
  by_cases hx : x = 9223372036854775807
  · subst hx
    exact rank_max b c tot sh rv vs ls w M
  · have h := rank_w b c tot sh rv vs ls x w M F hx
    simp only [rankZ, hx, if_false]
    exact h

theorem cnt_mono {x y : Int} (h : x ≤ y) (l : List Int) : cnt x l ≤ cnt y l := List.countP_mono_left fun z _ hz => by simp at hz ⊢; omega
theorem rk_mono {x y : Int} (h : x ≤ y) : ∀ (ls : List (List Int)) (j : Nat), rk x j ls ≤ rk y j ls
  | [], _ => Nat.le_refl _
  | l :: r, j => Nat.add_le_add (Nat.mul_le_mul_right _ (cnt_mono h l)) (rk_mono h r (j + 1))
theorem cnt_all {x : Int} {l : List Int} (h : ∀ y, y ∈ l → y ≤ x) : cnt x l = l.length := List.countP_eq_length.2 fun y hy => by simpa using h y hy

/-- All that is asked of what is told. -/
theorem Inv.told {c tot : Nat} {sh : Int} {ls : List (List Int)} {ml : List Int} (h : Inv c tot sh ls ml) (hml : ∀ y, y ∈ ml → y ≤ 9223372036854775807) (x : Int) :
    (rankZ x tot sh ls).1 ≤ cnt x ml ∧ (cnt x ml : Int) ≤ (rankZ x tot sh ls).2 ∧ (rankZ x tot sh ls).2 - (rankZ x tot sh ls).1 ≤ ((bitsN (tot / c) * tot / c : Nat) : Int) ∧ 0 ≤ (rankZ x tot sh ls).1 ∧ (rankZ x tot sh ls).2 ≤ tot ∧ (rankZ x tot sh ls).1 ≤ tot ∧ 0 ≤ (rankZ x tot sh ls).2 ∧
      (x = 9223372036854775807 → (rankZ x tot sh ls).1 = tot ∧ (rankZ x tot sh ls).2 = tot) := by
  have h1 := h.rk x
  have h2 := h.short
  have h3 := h.n
  have h4 : cnt x ml ≤ ml.length := cnt_le x ml
  have h5 := rk_le x ls 0
  rw [h.fit.w] at h5
  have h6 := h.fit.short.1
  unfold rankZ
  split
  · rename_i e
    subst e
    have h7 := cnt_all hml
    refine ⟨?_, ?_, ?_, ?_, ?_, ?_, ?_, fun _ => ⟨rfl, rfl⟩⟩ <;> simp only <;> omega
  · rename_i e
    refine ⟨?_, ?_, ?_, ?_, ?_, ?_, ?_, fun e' => absurd e' e⟩ <;> simp only <;> omega
theorem Inv.rises {c tot : Nat} {sh : Int} {ls : List (List Int)} {ml : List Int} (h : Inv c tot sh ls ml) {x y : Int} (hxy : x ≤ y) (hy : y ≤ 9223372036854775807) : (rankZ x tot sh ls).1 ≤ (rankZ y tot sh ls).1 ∧ (rankZ x tot sh ls).2 ≤ (rankZ y tot sh ls).2 := by
  have h1 := rk_mono hxy ls 0
  have h5 := rk_le x ls 0
  rw [h.fit.w] at h5
  unfold rankZ
  by_cases e1 : x = 9223372036854775807
  · have e2 : y = 9223372036854775807 := by omega
    rw [if_pos e1, if_pos e2]; exact ⟨Int.le_refl _, Int.le_refl _⟩
  · rw [if_neg e1]
    split
    · constructor <;> simp only <;> omega
    · constructor <;> simp only <;> omega
end Go.Proofs.Ythhfhjchkldhiaa
