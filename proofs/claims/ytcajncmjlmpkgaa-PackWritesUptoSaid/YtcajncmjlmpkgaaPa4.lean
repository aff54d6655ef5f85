/- A stable sort in place: turning a row, merging two sorted neighbours: plain; A stable sort in place: merging two sorted neighbours, plain. Own work; no condition. -/
import Derived.Sort.Statements
import Derived.Sort.Lot0
namespace Go.Proofs.Ytcajncmjlmpkgaa
open Go Go.Sort
set_option linter.unusedVariables false
set_option linter.unusedSimpArgs false
section
variable {α : Type} [Inhabited α]
structure Via (d d' : Array α) (f : Nat → Nat) : Prop where
 size : d'.size = d.size
 at_ : ∀ t, t < d.size → d'[t]! = d[f t]!
theorem Via.refl (d : Array α) {f : Nat → Nat} (h : ∀ t, t < d.size → f t = t) : Via d d f := ⟨rfl, fun t ht => by rw [h t ht]⟩
theorem Via.trans {d d1 d2 : Array α} {f g k : Nat → Nat} (h : Via d d1 f) (h1 : Via d1 d2 g) (hk : ∀ t, t < d.size → g t < d.size ∧ f (g t) = k t) : Via d d2 k :=
 ⟨h1.size.trans h.size, fun t ht => by
   obtain ⟨g1, g2⟩ := hk t ht
   rw [h1.at_ t (by rw [h.size]; exact ht), h.at_ _ g1, g2]⟩
theorem swp_at (d : Array α) (i j : Nat) (hi : i < d.size) (hj : j < d.size) (t : Nat) : (swp d i j)[t]! = if t = j then d[i]! else if t = i then d[j]! else d[t]! := by
 split
 · rename_i h; subst h; exact swp_right d i t hj
 · rename_i h
   split
   · rename_i h'; subst h'; exact swp_left d t j hi h
   · rename_i h'; exact swp_other d i j t h' h
def swr (a b n t : Nat) : Nat := if a ≤ t ∧ t < a + n then t - a + b else if b ≤ t ∧ t < b + n then t - b + a else t
def rot (a m b t : Nat) : Nat := if t < a then t else if t < a + (b - m) then t + (m - a) else if t < b then t - (b - m) else t
structure SwR (a b n : Nat) (d d' : Array α) : Prop where
 via : Via d d' (swr a b n)
 perm : PermIn a (b + n) d d'
structure Rot (a m b : Nat) (d d' : Array α) : Prop where
 via : Via d d' (rot a m b)
 perm : PermIn a b d d'
theorem SwR.start (a b : Nat) (d : Array α) (n : Nat) : Via d d (swr a b 0) ∧ PermIn a (b + n) d d := ⟨Via.refl d fun t _ => by unfold swr; rw [if_neg (by omega), if_neg (by omega)], permIn_refl _ _ _⟩
theorem SwR.step {a b n i : Nat} {d d1 : Array α} (h : Via d d1 (swr a b i)) (hp : PermIn a (b + n) d d1) (hi : i < n) (hab : a + n ≤ b) (hb : b + n ≤ d.size) :
   Via d (swp d1 (a + i) (b + i)) (swr a b (i + 1)) ∧ PermIn a (b + n) d (swp d1 (a + i) (b + i)) := by
 have hs := h.size
 refine ⟨⟨by rw [size_swp]; exact hs, fun t ht => ?_⟩, permIn_trans _ _ _ _ _ hp (swp_permIn _ _ _ _ _ (by omega) (by omega) (by omega) (by omega) (by omega))⟩
 rw [swp_at _ _ _ (by omega) (by omega), h.at_ (a + i) (by omega), h.at_ (b + i) (by omega), h.at_ t ht]
 unfold swr
 have e1 : (if a ≤ a + i ∧ a + i < a + i then a + i - a + b else if b ≤ a + i ∧ a + i < b + i then a + i - b + a else a + i) = a + i := by rw [if_neg (by omega), if_neg (by omega)]
 have e2 : (if a ≤ b + i ∧ b + i < a + i then b + i - a + b else if b ≤ b + i ∧ b + i < b + i then b + i - b + a else b + i) = b + i := by rw [if_neg (by omega), if_neg (by omega)]
 rw [e1, e2]
 by_cases c1 : t = b + i
 · subst c1
   rw [if_pos rfl, if_neg (by omega), if_pos (by omega), show b + i - b + a = a + i by omega]
 · rw [if_neg c1]
   by_cases c2 : t = a + i
   · subst c2
     rw [if_pos rfl, if_pos (by omega), show a + i - a + b = b + i by omega]
   · rw [if_neg c2]
     by_cases c3 : a ≤ t ∧ t < a + i
     · rw [if_pos c3, if_pos (by omega)]
     · rw [if_neg c3, if_neg (by omega : ¬ (a ≤ t ∧ t < a + (i + 1)))]
       by_cases c4 : b ≤ t ∧ t < b + i
       · rw [if_pos c4, if_pos (by omega)]
       · rw [if_neg c4, if_neg (by omega)]
theorem rot_lt {a m b t n : Nat} (h1 : a ≤ m) (h2 : m ≤ b) (hb : b ≤ n) (ht : t < n) : rot a m b t < n := by
 unfold rot
 (repeat' split) <;> omega
theorem rot_id {a m b t : Nat} (h : a = m ∨ m = b) (h1 : a ≤ m) (h2 : m ≤ b) : rot a m b t = t := by
 unfold rot
 (repeat' split) <;> omega
theorem Rot.id {a m b : Nat} (d : Array α) (h : a = m ∨ m = b) (h1 : a ≤ m) (h2 : m ≤ b) : Rot a m b d d :=
 ⟨Via.refl d fun t _ => rot_id h h1 h2, permIn_refl _ _ _⟩
theorem rot_left {m i j t : Nat} (hi : i ≤ m) (hji : j ≤ i) : swr (m - i) m j (rot (m - (i - j)) m (m + j) t) = rot (m - i) m (m + j) t := by
 unfold rot swr
 (repeat' split) <;> omega
theorem rot_right {m i j t : Nat} (hi : i ≤ m) (hij : i ≤ j) : swr (m - i) (m + j - i) i (rot (m - i) m (m + (j - i)) t) = rot (m - i) m (m + j) t := by
 unfold rot swr
 (repeat' split) <;> omega
theorem rot_even {m i t : Nat} (hi : i ≤ m) : swr (m - i) m i t = rot (m - i) m (m + i) t := by
 unfold rot swr
 (repeat' split) <;> omega
structure RotTo (a m b : Nat) (d : Array α) (i j : Nat) (d1 : Array α) : Prop where
 size : d1.size = d.size
 pi : 0 < i
 pj : 0 < j
 lo : a ≤ m - i ∧ i ≤ m
 hi : m + j ≤ b
 perm : PermIn a b d d1
 goal : ∀ d2, Via d1 d2 (rot (m - i) m (m + j)) → Via d d2 (rot a m b)
theorem RotTo.start {a m b : Nat} (d : Array α) (h1 : a < m) (h2 : m < b) : RotTo a m b d (m - a) (b - m) d :=
 ⟨rfl, by omega, by omega, by omega, by omega, permIn_refl _ _ _, fun d2 h => by rwa [show m - (m - a) = a by omega, show m + (b - m) = b by omega] at h⟩
theorem RotTo.left {a m b i j : Nat} {d d1 d2 : Array α} (h : RotTo a m b d i j d1) (hb : b ≤ d.size) (hij : j < i) (s : SwR (m - i) m j d1 d2) : RotTo a m b d (i - j) j d2 := by
 have h0 := h.size; have h3 := h.lo; have h4 := h.hi; have := h.pj
 refine ⟨s.via.size.trans h.size, by omega, h.pj, by omega, by omega, permIn_trans _ _ _ _ _ h.perm (permIn_mono _ _ _ _ _ _ (by omega) (by omega) (by omega) s.perm), fun d3 h5 => h.goal _ (s.via.trans h5 fun t ht => ⟨rot_lt (by omega) (by omega) (by omega) ht, rot_left h3.2 (by omega)⟩)⟩
theorem RotTo.right {a m b i j : Nat} {d d1 d2 : Array α} (h : RotTo a m b d i j d1) (hb : b ≤ d.size) (hij : i < j) (s : SwR (m - i) (m + j - i) i d1 d2) : RotTo a m b d i (j - i) d2 := by
 have h0 := h.size; have h3 := h.lo; have h4 := h.hi; have := h.pi
 refine ⟨s.via.size.trans h.size, h.pi, by omega, by omega, by omega, permIn_trans _ _ _ _ _ h.perm (permIn_mono _ _ _ _ _ _ (by omega) (by omega) (by omega) s.perm), fun d3 h5 => h.goal _ (s.via.trans h5 fun t ht => ⟨rot_lt (by omega) (by omega) (by omega) ht, rot_right h3.2 (by omega)⟩)⟩
theorem RotTo.fin {a m b i : Nat} {d d1 d2 : Array α} (h : RotTo a m b d i i d1) (hb : b ≤ d.size) (s : SwR (m - i) m i d1 d2) : Rot a m b d d2 := by
 have h0 := h.size; have h3 := h.lo; have h4 := h.hi
 refine ⟨h.goal _ ⟨s.via.size, fun t ht => by rw [s.via.at_ t ht, rot_even h3.2]⟩, permIn_trans _ _ _ _ _ h.perm (permIn_mono _ _ _ _ _ _ (by omega) (by omega) (by omega) s.perm)⟩
end
end Go.Proofs.Ytcajncmjlmpkgaa

namespace Go.Proofs.Ytcajncmjlmpkgaa
open Go Go.Sort
set_option linter.unusedVariables false
set_option linter.unusedSimpArgs false
theorem swo_asymm {α : Type} {lt : α → α → Bool} (hO : SWO lt) {x y : α} (h : lt x y = true) : lt y x = false := by
 cases h' : lt y x with
 | false => rfl
 | true => have := hO.trans x y x h h'; rw [hO.irrefl] at this; cases this
section
variable {α : Type} [Inhabited α] {lt : α → α → Bool}
theorem sorted_le (hO : SWO lt) {a b : Nat} {d : Array α} (h : SortedIn lt a b d) {i j : Nat} (h1 : a ≤ i) (h2 : i ≤ j) (h3 : j < b) : lt d[j]! d[i]! = false := by
 rcases Nat.lt_or_ge i j with g | g
 · exact h i j h1 g h3
 · rw [show i = j by omega]; exact hO.irrefl _
def Cross (lt : α → α → Bool) (a m b : Nat) (d : Array α) : Prop := ∀ i j, a ≤ i → i < m → m ≤ j → j < b → lt d[j]! d[i]! = false
theorem sorted_join {a m b : Nat} {d : Array α} (h1 : SortedIn lt a m d) (h2 : SortedIn lt m b d) (h3 : Cross lt a m b d) : SortedIn lt a b d := by
 intro i j hi hij hj
 by_cases c1 : j < m
 · exact h1 i j hi hij c1
 · by_cases c2 : m ≤ i
   · exact h2 i j c2 hij hj
   · exact h3 i j hi (by omega) (by omega) hj
theorem Cross.perm {a m b : Nat} {d d1 d2 : Array α} (h : Cross lt a m b d) (hb : b ≤ d.size) (ham : a ≤ m) (hmb : m ≤ b) (h1 : PermIn a m d d1) (h2 : PermIn m b d1 d2) : Cross lt a m b d2 := by
 have k1 : Cross lt a m b d1 := fun i j hi him hmj hj => by
   rw [h1.2.1 j (.inr hmj)]
   exact permIn_all d d1 a m (fun x => lt d[j]! x = false) (by omega) h1 (fun i hi him => h i j hi him hmj hj) i hi him
 intro i j hi him hmj hj
 rw [h2.2.1 i (.inl him)]
 exact permIn_all d1 d2 m b (fun x => lt x d1[i]! = false) (by rw [h1.1]; exact hb) h2 (fun j hmj hj => k1 i j hi him hmj hj) j hmj hj
theorem sorted_keep {a b : Nat} {d d1 : Array α} (h : SortedIn lt a b d) (k : ∀ i, a ≤ i → i < b → d1[i]! = d[i]!) : SortedIn lt a b d1 := fun i j hi hij hj => by
 rw [k i hi (by omega), k j (by omega) hj]; exact h i j hi hij hj
structure Cut (lt : α → α → Bool) (lo hi n : Nat) (d : Array α) (s r : Nat) : Prop where
 los : lo ≤ s
 le : s ≤ r
 rhi : r ≤ hi
 low : s = lo ∨ lt d[n - s]! d[s - 1]! = false
 high : r = hi ∨ lt d[n - 1 - r]! d[r]! = true
def symLo (a m b : Nat) : Nat := if (a + b) / 2 < m then (a + b) / 2 + m - b else a
def symHi (a m b : Nat) : Nat := if (a + b) / 2 < m then (a + b) / 2 else m
theorem sym_lo {a m b : Nat} (h1 : a < m) (h2 : m < b) : a ≤ symLo a m b ∧ symLo a m b ≤ symHi a m b ∧ symHi a m b ≤ m ∧ symHi a m b ≤ (a + b) / 2 := by
 unfold symLo symHi
 split <;> omega
theorem sym_end {a m b s : Nat} (h1 : a < m) (h2 : m < b) (hs : symLo a m b ≤ s) (hr : s ≤ symHi a m b) : m ≤ (a + b) / 2 + m - s ∧ (a + b) / 2 + m - s ≤ b ∧ (a + b) / 2 ≤ (a + b) / 2 + m - s ∧ a ≤ s ∧ s ≤ m ∧ s ≤ (a + b) / 2 ∧ s + ((a + b) / 2 + m - s - m) = (a + b) / 2 := by
 unfold symLo symHi at *
 split at hs <;> split at hr <;> omega
structure Halves (lt : α → α → Bool) (a s mid e b : Nat) (d : Array α) : Prop where
 h1 : SortedIn lt a s d
 h2 : SortedIn lt s mid d
 h3 : SortedIn lt mid e d
 h4 : SortedIn lt e b d
 cross : Cross lt a mid b d
theorem sym_cut (hO : SWO lt) {a m b s : Nat} {d d1 : Array α} (h1 : a < m) (h2 : m < b) (hb : b ≤ d.size) (hl : SortedIn lt a m d) (hr : SortedIn lt m b d)
   (C : Cut lt (symLo a m b) (symHi a m b) ((a + b) / 2 + m) d s s) (R : Rot s m ((a + b) / 2 + m - s) d d1) : Halves lt a s ((a + b) / 2) ((a + b) / 2 + m - s) b d1 := by
 have hh := sym_lo h1 h2
 obtain ⟨e1, e2, e3, e4, e5, e6, e7⟩ := sym_end h1 h2 C.los (Nat.le_trans C.le C.rhi)
 have hlow := C.low
 have hhigh := C.high
 have hlod : symLo a m b = a ∨ (a + b) / 2 + m - symLo a m b = b := by unfold symLo; split <;> omega
 have hhid : symHi a m b = m ∨ (a + b) / 2 + m - symHi a m b = m := by unfold symHi; split <;> omega
 have hv : ∀ t, t < b → d1[t]! = d[rot s m ((a + b) / 2 + m - s) t]! := fun t ht => R.via.at_ t (by omega)
 clear R
 generalize hN : (a + b) / 2 + m = n at *
 generalize hM : (a + b) / 2 = mid at *
 generalize hE : n - s = e at *
 have hp1 : ∀ t, t < s → d1[t]! = d[t]! := fun t ht => by rw [hv t (by omega)]; unfold rot; rw [if_pos ht]
 have hp2 : ∀ t, s ≤ t → t < mid → d1[t]! = d[t + (m - s)]! := fun t ht ht2 => by rw [hv t (by omega)]; unfold rot; rw [if_neg (by omega), if_pos (by omega)]
 have hp3 : ∀ t, mid ≤ t → t < e → d1[t]! = d[t - (e - m)]! := fun t ht ht2 => by rw [hv t (by omega)]; unfold rot; rw [if_neg (by omega), if_neg (by omega), if_pos ht2]
 have hp4 : ∀ t, e ≤ t → t < b → d1[t]! = d[t]! := fun t ht ht2 => by rw [hv t ht2]; unfold rot; rw [if_neg (by omega), if_neg (by omega), if_neg (by omega)]
 clear hv
 refine ⟨fun i j hi hij hj => ?_, fun i j hi hij hj => ?_, fun i j hi hij hj => ?_, fun i j hi hij hj => ?_, fun i j hi him hmj hj => ?_⟩
 · rw [hp1 i (by omega), hp1 j hj]; exact hl i j hi hij (by omega)
 · rw [hp2 i hi (by omega), hp2 j (by omega) hj]; exact hr _ _ (by omega) (by omega) (by omega)
 · rw [hp3 i hi (by omega), hp3 j (by omega) hj]; exact hl _ _ (by omega) (by omega) (by omega)
 · rw [hp4 i hi (by omega), hp4 j (by omega) hj]; exact hr i j (by omega) hij hj
 · by_cases c1 : i < s
   · rw [hp1 i c1]
     by_cases c2 : j < e
     · rw [hp3 j hmj c2]; exact hl _ _ hi (by omega) (by omega)
     · rw [hp4 j (by omega) hj]
       have hs : ¬ s = symLo a m b := fun h => by omega
       have hlow := hlow.resolve_left hs
       have g1 : lt d[j]! d[e]! = false := sorted_le hO hr (by omega) (by omega) hj
       have g2 : lt d[s - 1]! d[i]! = false := sorted_le hO hl hi (by omega) (by omega)
       exact hO.ntrans _ _ _ (hO.ntrans _ _ _ g1 hlow) g2
   · rw [hp2 i (by omega) him]
     by_cases c2 : j < e
     · rw [hp3 j hmj c2]
       have hs : ¬ s = symHi a m b := fun h => by omega
       have hhigh := swo_asymm hO (hhigh.resolve_left hs)
       have g1 : lt d[j - (e - m)]! d[s]! = false := sorted_le hO hl (by omega) (by omega) (by omega)
       have g2 : lt d[n - 1 - s]! d[i + (m - s)]! = false := sorted_le hO hr (by omega) (by omega) (by omega)
       exact hO.ntrans _ _ _ (hO.ntrans _ _ _ g1 hhigh) g2
     · rw [hp4 j (by omega) hj]; exact hr _ _ (by omega) (by omega) hj
theorem Halves.left {a s mid e b : Nat} {d : Array α} (h : Halves lt a s mid e b d) (hs : ¬ (a < s ∧ s < mid)) (h0 : a ≤ s) (h1 : s ≤ mid) : SortedIn lt a mid d := by
 by_cases c : a < s
 · have : s = mid := by omega
   rw [← this]; exact h.h1
 · have : s = a := by omega
   rw [← this]; exact h.h2
theorem Halves.right {a s mid e b : Nat} {d : Array α} (h : Halves lt a s mid e b d) (hs : ¬ (mid < e ∧ e < b)) (h0 : mid ≤ e) (h1 : e ≤ b) : SortedIn lt mid b d := by
 by_cases c : mid < e
 · have : e = b := by omega
   rw [← this]; exact h.h3
 · have : e = mid := by omega
   rw [← this]; exact h.h4
structure Cut1 (p : Nat → Bool) (lo hi : Nat) (s r : Nat) : Prop where
 los : lo ≤ s
 le : s ≤ r
 rhi : r ≤ hi
 low : s = lo ∨ p (s - 1) = true
 high : r = hi ∨ p r = false
theorem one_left (hO : SWO lt) {a b i : Nat} {d d1 : Array α} (h2 : a + 1 ≤ b) (hb : b ≤ d.size) (hr : SortedIn lt (a + 1) b d) (C : Cut1 (fun t => lt d[t]! d[a]!) (a + 1) b i i) (V : Via d d1 (rot a (a + 1) i)) : SortedIn lt a b d1 := by
 have e1 := C.los; have e2 := C.rhi
 have hlow := C.low
 have hhigh := C.high
 have hv : ∀ t, t < b → d1[t]! = d[rot a (a + 1) i t]! := fun t ht => V.at_ t (by omega)
 clear V C
 have hp1 : ∀ t, a ≤ t → t < i - 1 → d1[t]! = d[t + 1]! := fun t ht ht2 => by rw [hv t (by omega)]; unfold rot; rw [if_neg (by omega), if_pos (by omega)]; congr 1; omega
 have hp2 : d1[i - 1]! = d[a]! := by rw [hv _ (by omega)]; unfold rot; rw [if_neg (by omega), if_neg (by omega), if_pos (by omega)]; congr 1; omega
 have hp3 : ∀ t, i ≤ t → t < b → d1[t]! = d[t]! := fun t ht ht2 => by rw [hv t ht2]; unfold rot; rw [if_neg (by omega), if_neg (by omega), if_neg (by omega)]
 have q1 : ∀ t, a + 1 ≤ t → t < i → lt d[a]! d[t]! = false := fun t ht ht2 => by
   have := hlow.resolve_left (by omega)
   exact hO.ntrans _ _ _ (swo_asymm hO this) (sorted_le hO hr ht (by omega) (by omega))
 have q2 : ∀ t, i ≤ t → t < b → lt d[t]! d[a]! = false := fun t ht ht2 => by
   have := hhigh.resolve_left (by omega)
   exact hO.ntrans _ _ _ (sorted_le hO hr (by omega) ht ht2) this
 intro p q hp hpq hq
 by_cases c1 : p < i - 1
 · rw [hp1 p hp c1]
   by_cases c2 : q < i - 1
   · rw [hp1 q (by omega) c2]; exact hr _ _ (by omega) (by omega) (by omega)
   · by_cases c3 : q = i - 1
     · rw [c3, hp2]; exact q1 _ (by omega) (by omega)
     · rw [hp3 q (by omega) hq]; exact hr _ _ (by omega) (by omega) hq
 · by_cases c2 : p = i - 1
   · rw [c2, hp2, hp3 q (by omega) hq]; exact q2 _ (by omega) hq
   · rw [hp3 p (by omega) (by omega), hp3 q (by omega) hq]; exact hr _ _ (by omega) hpq hq
theorem one_right (hO : SWO lt) {a m i : Nat} {d d1 : Array α} (h2 : a ≤ m) (hb : m + 1 ≤ d.size) (hl : SortedIn lt a m d) (C : Cut1 (fun t => !lt d[m]! d[t]!) a m i i) (V : Via d d1 (rot i m (m + 1))) : SortedIn lt a (m + 1) d1 := by
 have e1 := C.los; have e2 := C.rhi
 have hlow := C.low
 have hhigh := C.high
 simp only [Bool.not_eq_true', Bool.not_eq_false'] at hlow hhigh
 have hv : ∀ t, t < m + 1 → d1[t]! = d[rot i m (m + 1) t]! := fun t ht => V.at_ t (by omega)
 clear V C
 have hp1 : ∀ t, t < i → d1[t]! = d[t]! := fun t ht => by rw [hv t (by omega)]; unfold rot; rw [if_pos ht]
 have hp2 : d1[i]! = d[m]! := by rw [hv _ (by omega)]; unfold rot; rw [if_neg (by omega), if_pos (by omega)]; congr 1; omega
 have hp3 : ∀ t, i < t → t < m + 1 → d1[t]! = d[t - 1]! := fun t ht ht2 => by rw [hv t ht2]; unfold rot; rw [if_neg (by omega), if_neg (by omega), if_pos (by omega)]; congr 1; omega
 have q1 : ∀ t, a ≤ t → t < i → lt d[m]! d[t]! = false := fun t ht ht2 => by
   have := hlow.resolve_left (by omega)
   exact hO.ntrans _ _ _ this (sorted_le hO hl ht (by omega) (by omega))
 have q2 : ∀ t, i ≤ t → t < m → lt d[t]! d[m]! = false := fun t ht ht2 => by
   have := hhigh.resolve_left (by omega)
   exact hO.ntrans _ _ _ (sorted_le hO hl (by omega) ht ht2) (swo_asymm hO this)
 intro p q hp hpq hq
 by_cases c1 : p < i
 · rw [hp1 p c1]
   by_cases c2 : q < i
   · rw [hp1 q c2]; exact hl _ _ hp hpq (by omega)
   · by_cases c3 : q = i
     · rw [c3, hp2]; exact q1 _ hp c1
     · rw [hp3 q (by omega) hq]; exact hl _ _ hp (by omega) (by omega)
 · by_cases c2 : p = i
   · rw [c2, hp2, hp3 q (by omega) hq]; exact q2 _ (by omega) (by omega)
   · rw [hp3 p (by omega) (by omega), hp3 q (by omega) hq]; exact hl _ _ (by omega) (by omega) (by omega)
theorem move_right {a b k : Nat} {d d1 : Array α} (V : Via d d1 (rot a (a + 1) (k + 1))) (P : PermIn a b d d1) (hk : a ≤ k) (hkb : k + 1 < b) (hb : b ≤ d.size) : Via d (swp d1 k (k + 1)) (rot a (a + 1) (k + 2)) ∧ PermIn a b d (swp d1 k (k + 1)) := by
 have hs := V.size
 refine ⟨⟨by rw [size_swp]; exact hs, fun t ht => ?_⟩, permIn_trans _ _ _ _ _ P (swp_permIn _ _ _ _ _ (by omega) (by omega) (by omega) (by omega) (by omega))⟩
 rw [swp_at _ _ _ (by omega) (by omega), V.at_ k (by omega), V.at_ (k + 1) (by omega), V.at_ t ht]
 unfold rot
 (repeat' split) <;> first | omega | rfl | (congr 1; omega)
theorem move_left {a m k : Nat} {d d1 : Array α} (V : Via d d1 (rot k m (m + 1))) (P : PermIn a (m + 1) d d1) (hk : a < k) (hkm : k ≤ m) (hb : m + 1 ≤ d.size) : Via d (swp d1 k (k - 1)) (rot (k - 1) m (m + 1)) ∧ PermIn a (m + 1) d (swp d1 k (k - 1)) := by
 have hs := V.size
 refine ⟨⟨by rw [size_swp]; exact hs, fun t ht => ?_⟩, permIn_trans _ _ _ _ _ P (swp_permIn _ _ _ _ _ (by omega) (by omega) (by omega) (by omega) (by omega))⟩
 rw [swp_at _ _ _ (by omega) (by omega), V.at_ k (by omega), V.at_ (k - 1) (by omega), V.at_ t ht]
 unfold rot
 (repeat' split) <;> first | omega | rfl | (congr 1; omega)
end
end Go.Proofs.Ytcajncmjlmpkgaa
