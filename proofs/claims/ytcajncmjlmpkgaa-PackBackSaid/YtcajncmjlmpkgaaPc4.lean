/- A stable sort in place: turning a row, merging two sorted neighbours: plain; A stable sort in place: merging two sorted neighbours, plain. Own work; no condition. -/
import Derived.Sort.Statements
import Derived.Sort.Lot0
namespace Go.Proofs.Ytcajncmjlmpkgaa
open Go Go.Sort
set_option linter.unusedVariables false
set_option linter.unusedSimpArgs false
section
variable {α : Type} [Inhabited α]
structure Via (d d' : Array α) (f : Nat → Nat) : Prop where
 size : d'.size = d.size
 at_ : ∀ t, t < d.size → d'[t]! = d[f t]!
theorem Via.refl (d : Array α) {f : Nat → Nat} (h : ∀ t, t < d.size → f t = t) : Via d d f := ⟨rfl, fun t ht => by rw [h t ht]⟩
theorem Via.trans {d d1 d2 : Array α} {f g k : Nat → Nat} (h : Via d d1 f) (h1 : Via d1 d2 g) (hk : ∀ t, t < d.size → g t < d.size ∧ f (g t) = k t) : Via d d2 k :=
 ⟨h1.size.trans h.size, fun t ht => by
   obtain ⟨g1, g2⟩ := hk t ht
   rw [h1.at_ t (by rw [h.size]; exact ht), h.at_ _ g1, g2]⟩
theorem swp_at (d : Array α) (i j : Nat) (hi : i < d.size) (hj : j < d.size) (t : Nat) : (swp d i j)[t]! = if t = j then d[i]! else if t = i then d[j]! else d[t]! := by
 split
 · rename_i h; subst h; exact swp_right d i t hj
 · rename_i h
   split
   · rename_i h'; subst h'; exact swp_left d t j hi h
   · rename_i h'; exact swp_other d i j t h' h
def swr (a b n t : Nat) : Nat := if a ≤ t ∧ t < a + n then t - a + b else if b ≤ t ∧ t < b + n then t - b + a else t
def rot (a m b t : Nat) : Nat := if t < a then t else if t < a + (b - m) then t + (m - a) else if t < b then t - (b - m) else t
structure SwR (a b n : Nat) (d d' : Array α) : Prop where
 via : Via d d' (swr a b n)
 perm : PermIn a (b + n) d d'
structure Rot (a m b : Nat) (d d' : Array α) : Prop where
 via : Via d d' (rot a m b)
 perm : PermIn a b d d'
theorem SwR.start (a b : Nat) (d : Array α) (n : Nat) : Via d d (swr a b 0) ∧ PermIn a (b + n) d d := ⟨Via.refl d fun t _ => by unfold swr; rw [if_neg (by omega), if_neg (by omega)], permIn_refl _ _ _⟩
theorem SwR.step {a b n i : Nat} {d d1 : Array α} (h : Via d d1 (swr a b i)) (hp : PermIn a (b + n) d d1) (hi : i < n) (hab : a + n ≤ b) (hb : b + n ≤ d.size) :
   Via d (swp d1 (a + i) (b + i)) (swr a b (i + 1)) ∧ PermIn a (b + n) d (swp d1 (a + i) (b + i)) := by
 have hs := h.size
 refine ⟨⟨by rw [size_swp]; exact hs, fun t ht => ?_⟩, permIn_trans _ _ _ _ _ hp (swp_permIn _ _ _ _ _ (by omega) (by omega) (by omega) (by omega) (by omega))⟩
 rw [swp_at _ _ _ (by omega) (by omega), h.at_ (a + i) (by omega), h.at_ (b + i) (by omega), h.at_ t ht]
 unfold swr
 have e1 : (if a ≤ a + i ∧ a + i < a + i then a + i - a + b else if b ≤ a + i ∧ a + i < b + i then a + i - b + a else a + i) = a + i := by rw [if_neg (by omega), if_neg (by omega)]
 have e2 : (if a ≤ b + i ∧ b + i < a + i then b + i - a + b else if b ≤ b + i ∧ b + i < b + i then b + i - b + a else b + i) = b + i := by rw [if_neg (by omega), if_neg (by omega)]
 rw [e1, e2]
 by_cases c1 : t = b + i
 · subst c1
   rw [if_pos rfl, if_neg (by omega), if_pos (by omega), show b + i - b + a = a + i by omega]
 · rw [if_neg c1]
   by_cases c2 : t = a + i
   · subst c2
     rw [if_pos rfl, if_pos (by omega), show a + i - a + b = b + i by omega]
   · rw [if_neg c2]
     by_cases c3 : a ≤ t ∧ t < a + i
     · rw [if_pos c3, if_pos (by omega)]
     · rw [if_neg c3, if_neg (by omega : ¬ (a ≤ t ∧ t < a + (i + 1)))]
       by_cases c4 : b ≤ t ∧ t < b + i
       · rw [if_pos c4, if_pos (by omega)]
       · rw [if_neg c4, if_neg (by omega)]
theorem rot_lt {a m b t n : Nat} (h1 : a ≤ m) (h2 : m ≤ b) (hb : b ≤ n) (ht : t < n) : rot a m b t < n := by
 unfold rot
 (repeat' split) <;> omega
theorem rot_id {a m b t : Nat} (h : a = m ∨ m = b) (h1 : a ≤ m) (h2 : m ≤ b) : rot a m b t = t := by
 unfold rot
 (repeat' split) <;> omega
theorem Rot.id {a m b : Nat} (d : Array α) (h : a = m ∨ m = b) (h1 : a ≤ m) (h2 : m ≤ b) : Rot a m b d d :=
 ⟨Via.refl d fun t _ => rot_id h h1 h2, permIn_refl _ _ _⟩
theorem rot_left {m i j t : Nat} (hi : i ≤ m) (hji : j ≤ i) : swr (m - i) m j (rot (m - (i - j)) m (m + j) t) = rot (m - i) m (m + j) t := by
 unfold rot swr
 (repeat' split) <;> omega
theorem rot_right {m i j t : Nat} (hi : i ≤ m) (hij : i ≤ j) : swr (m - i) (m + j - i) i (rot (m - i) m (m + (j - i)) t) = rot (m - i) m (m + j) t := by
 unfold rot swr
 (repeat' split) <;> omega
theorem rot_even {m i t : Nat} (hi : i ≤ m) : swr (m - i) m i t = rot (m - i) m (m + i) t := by
 unfold rot swr
 (repeat' split) <;> omega
structure RotTo (a m b : Nat) (d : Array α) (i j : Nat) (d1 : Array α) : Prop where
 size : d1.size = d.size
 pi : 0 < i
 pj : 0 < j
 lo : a ≤ m - i ∧ i ≤ m
 hi : m + j ≤ b
 perm : PermIn a b d d1
 goal : ∀ d2, Via d1 d2 (rot (m - i) m (m + j)) → Via d d2 (rot a m b)
theorem RotTo.start {a m b : Nat} (d : Array α) (h1 : a < m) (h2 : m < b) : RotTo a m b d (m - a) (b - m) d :=
 ⟨rfl, by omega, by omega, by omega, by omega, permIn_refl _ _ _, fun d2 h => by rwa [show m - (m - a) = a by omega, show m + (b - m) = b by omega] at h⟩
theorem RotTo.left {a m b i j : Nat} {d d1 d2 : Array α} (h : RotTo a m b d i j d1) (hb : b ≤ d.size) (hij : j < i) (s : SwR (m - i) m j d1 d2) : RotTo a m b d (i - j) j d2 := by
 have h0 := h.size; have h3 := h.lo; have h4 := h.hi; have := h.pj
 refine ⟨s.via.size.trans h.size, by omega, h.pj, by omega, by omega, permIn_trans _ _ _ _ _ h.perm (permIn_mono _ _ _ _ _ _ (by omega) (by omega) (by omega) s.perm), fun d3 h5 => h.goal _ (s.via.trans h5 fun t ht => ⟨rot_lt (by omega) (by omega) (by omega) ht, rot_left h3.2 (by omega)⟩)⟩
theorem RotTo.right {a m b i j : Nat} {d d1 d2 : Array α} (h : RotTo a m b d i j d1) (hb : b ≤ d.size) (hij : i < j) (s : SwR (m - i) (m + j - i) i d1 d2) : RotTo a m b d i (j - i) d2 := by
 have h0 := h.size; have h3 := h.lo; have h4 := h.hi; have := h.pi
 refine ⟨s.via.size.trans h.size, h.pi, by omega, by omega, by omega, permIn_trans _ _ _ _ _ h.perm (permIn_mono _ _ _ _ _ _ (by omega) (by omega) (by omega) s.perm), fun d3 h5 => h.goal _ (s.via.trans h5 fun t ht => ⟨rot_lt (by omega) (by omega) (by omega) ht, rot_right h3.2 (by omega)⟩)⟩
theorem RotTo.fin {a m b i : Nat} {d d1 d2 : Array α} (h : RotTo a m b d i i d1) (hb : b ≤ d.size) (s : SwR (m - i) m i d1 d2) : Rot a m b d d2 := by
 have h0 := h.size; have h3 := h.lo; have h4 := h.hi
 refine ⟨h.goal _ ⟨s.via.size, fun t ht => by rw [s.via.at_ t ht, rot_even h3.2]⟩, permIn_trans _ _ _ _ _ h.perm (permIn_mono _ _ _ _ _ _ (by omega) (by omega) (by omega) s.perm)⟩
end
end Go.Proofs.Ytcajncmjlmpkgaa

namespace Go.Proofs.Ytcajncmjlmpkgaa
open Go Go.Sort
set_option linter.unusedVariables false
set_option linter.unusedSimpArgs false
section
variable {α : Type} [Inhabited α] {lt : α → α → Bool}
def Cross (lt : α → α → Bool) (a m b : Nat) (d : Array α) : Prop := ∀ i j, a ≤ i → i < m → m ≤ j → j < b → lt d[j]! d[i]! = false
theorem Cross.perm {a m b : Nat} {d d1 d2 : Array α} (h : Cross lt a m b d) (hb : b ≤ d.size) (ham : a ≤ m) (hmb : m ≤ b) (h1 : PermIn a m d d1) (h2 : PermIn m b d1 d2) : Cross lt a m b d2 := by
 have k1 : Cross lt a m b d1 := fun i j hi him hmj hj => by
   rw [h1.2.1 j (.inr hmj)]
   exact permIn_all d d1 a m (fun x => lt d[j]! x = false) (by omega) h1 (fun i hi him => h i j hi him hmj hj) i hi him
 intro i j hi him hmj hj
 rw [h2.2.1 i (.inl him)]
 exact permIn_all d1 d2 m b (fun x => lt x d1[i]! = false) (by rw [h1.1]; exact hb) h2 (fun j hmj hj => k1 i j hi him hmj hj) j hmj hj
theorem sorted_keep {a b : Nat} {d d1 : Array α} (h : SortedIn lt a b d) (k : ∀ i, a ≤ i → i < b → d1[i]! = d[i]!) : SortedIn lt a b d1 := fun i j hi hij hj => by
 rw [k i hi (by omega), k j (by omega) hj]; exact h i j hi hij hj
structure Halves (lt : α → α → Bool) (a s mid e b : Nat) (d : Array α) : Prop where
 h1 : SortedIn lt a s d
 h2 : SortedIn lt s mid d
 h3 : SortedIn lt mid e d
 h4 : SortedIn lt e b d
 cross : Cross lt a mid b d
theorem Halves.left {a s mid e b : Nat} {d : Array α} (h : Halves lt a s mid e b d) (hs : ¬ (a < s ∧ s < mid)) (h0 : a ≤ s) (h1 : s ≤ mid) : SortedIn lt a mid d := by
 by_cases c : a < s
 · have : s = mid := by omega
   rw [← this]; exact h.h1
 · have : s = a := by omega
   rw [← this]; exact h.h2
theorem Halves.right {a s mid e b : Nat} {d : Array α} (h : Halves lt a s mid e b d) (hs : ¬ (mid < e ∧ e < b)) (h0 : mid ≤ e) (h1 : e ≤ b) : SortedIn lt mid b d := by
 by_cases c : mid < e
 · have : e = b := by omega
   rw [← this]; exact h.h3
 · have : e = mid := by omega
   rw [← this]; exact h.h4
end
end Go.Proofs.Ytcajncmjlmpkgaa
