/- sketch.Often: the order of values, plain. Own work; no condition. -/
import Derived.Test.YtaaocppaepnhbaaOf10
import Derived.Test.YtaaocppaepnhbaaOf11
namespace Go.Proofs.Ytaaocppaepnhbaa
open Go Go.RowKit Go.Deep Go.Sort Go.Shelf
set_option linter.unusedVariables false
set_option linter.unusedSimpArgs false

/-- A comparison: the other way round it is its negative; it goes on; only like things are told alike. -/
structure Cmp {α : Type} (c : α → α → Int) : Prop where
  swap : ∀ x y, c y x = - c x y
  trans : ∀ x y z, c x y < 0 → c y z < 0 → c x z < 0
  eq0 : ∀ x y, c x y = 0 → x = y
theorem Cmp.refl {α : Type} {c : α → α → Int} (h : Cmp c) (x : α) : c x x = 0 := by have := h.swap x x; omega
theorem Cmp.le {α : Type} {c : α → α → Int} (h : Cmp c) (x y z : α) (h1 : 0 ≤ c x y) (h2 : 0 ≤ c y z) : 0 ≤ c x z := by
  have e1 := h.swap x y
  have e2 := h.swap y z
  have e3 := h.swap x z
  by_cases a : c x y = 0
  · rw [h.eq0 _ _ a]; exact h2
  · by_cases b : c y z = 0
    · rw [← h.eq0 _ _ b]; exact h1
    · have := h.trans z y x (by omega) (by omega); omega
theorem Cmp.swo {α β : Type} {c : α → α → Int} (h : Cmp c) (f : β → α) : SWO (ltOf fun x y : β => c (f x) (f y)) where
  irrefl x := by simp [ltOf, h.refl]
  trans x y z h1 h2 := by simp [ltOf] at *; exact h.trans _ _ _ h1 h2
  ntrans x y z h1 h2 := by simp [ltOf] at *; exact h.le _ _ _ h1 h2
theorem cmpI_cmp : Cmp cmpI where
  swap x y := by unfold cmpI; split <;> split <;> omega
  trans x y z h1 h2 := by
    unfold cmpI at *
    split at h1 <;> split at h2 <;> (try (split at h1)) <;> (try (split at h2)) <;> split <;> (try split) <;> omega
  eq0 x y h := by unfold cmpI at h; split at h <;> (try split at h) <;> omega
theorem bytes_swap : ∀ a b : List UInt8, Lib.compareBytes b a = - Lib.compareBytes a b
  | [], [] => rfl
  | [], _ :: _ => rfl
  | _ :: _, [] => rfl
  | a :: r, b :: s => by
    simp only [Lib.compareBytes]
    by_cases h : a < b
    · have : ¬ b < a := fun h' => by have := UInt8.lt_iff_toNat_lt.1 h; have := UInt8.lt_iff_toNat_lt.1 h'; omega
      simp [h, this]
    · by_cases h' : b < a
      · simp [h, h']
      · simp [h, h', bytes_swap r s]
theorem bytes_eq0 : ∀ a b : List UInt8, Lib.compareBytes a b = 0 → a = b
  | [], [], _ => rfl
  | [], _ :: _, h => by simp [Lib.compareBytes] at h
  | _ :: _, [], h => by simp [Lib.compareBytes] at h
  | a :: r, b :: s, h => by
    simp only [Lib.compareBytes] at h
    by_cases h1 : a < b
    · simp [h1] at h
    · by_cases h2 : b < a
      · simp [h1, h2] at h
      · simp [h1, h2] at h
        have e : a = b := by
          apply UInt8.toNat_inj.1
          rw [UInt8.lt_iff_toNat_lt] at h1 h2; omega
        rw [e, bytes_eq0 r s h]
theorem bytes_trans : ∀ a b c : List UInt8, Lib.compareBytes a b < 0 → Lib.compareBytes b c < 0 → Lib.compareBytes a c < 0
  | [], _, [], h1, h2 => by
    rename_i b; cases b <;> simp [Lib.compareBytes] at h1 h2
  | [], _, _ :: _, _, _ => by simp [Lib.compareBytes]
  | _ :: _, [], _, h1, _ => by simp [Lib.compareBytes] at h1
  | _ :: _, _ :: _, [], _, h2 => by simp [Lib.compareBytes] at h2
  | a :: r, b :: s, c :: t, h1, h2 => by
    simp only [Lib.compareBytes] at h1 h2 ⊢
    have key : ∀ x y : UInt8, x < y ↔ x.toNat < y.toNat := fun x y => UInt8.lt_iff_toNat_lt
    simp only [key] at h1 h2 ⊢
    have ih := bytes_trans r s t
    split at h1
    · split at h2
      · rw [if_pos (by omega)]; decide
      · split at h2
        · simp at h2
        · rw [if_pos (by omega)]; decide
    · split at h1
      · simp at h1
      · split at h2
        · rw [if_pos (by omega)]; decide
        · split at h2
          · simp at h2
          · rw [if_neg (by omega), if_neg (by omega)]; exact ih h1 h2
theorem cmpS_cmp : Cmp cmpS where
  swap x y := bytes_swap _ _
  trans x y z h1 h2 := bytes_trans _ _ _ h1 h2
  eq0 x y h := by
    have := bytes_eq0 _ _ h
    cases x with | mk a => cases y with | mk b => cases a; cases b; simp at this; subst this; rfl
def cmpV (p q : VK) : Int := orI (cmpI p.k q.k) (cmpI p.n q.n) (cmpS p.s q.s)
theorem cmpV_cmp : Cmp cmpV where
  swap x y := by
    unfold cmpV
    rw [cmpI_cmp.swap x.k y.k, cmpI_cmp.swap x.n y.n, cmpS_cmp.swap x.s y.s]
    unfold orI
    split <;> split <;> (try split) <;> (try split) <;> simp_all
  trans x y z h1 h2 := by
    unfold cmpV orI at *
    by_cases a : cmpI x.k y.k = 0
    · have ea := cmpI_cmp.eq0 _ _ a
      by_cases b : cmpI y.k z.k = 0
      · have eb := cmpI_cmp.eq0 _ _ b
        have ec : cmpI x.k z.k = 0 := by rw [ea, eb]; exact cmpI_cmp.refl _
        simp only [a, b, ec, ne_eq, not_true_eq_false, if_false] at h1 h2 ⊢
        by_cases a' : cmpI x.n y.n = 0
        · have ea' := cmpI_cmp.eq0 _ _ a'
          by_cases b' : cmpI y.n z.n = 0
          · have eb' := cmpI_cmp.eq0 _ _ b'
            have ec' : cmpI x.n z.n = 0 := by rw [ea', eb']; exact cmpI_cmp.refl _
            simp only [a', b', ec', not_true_eq_false, if_false] at h1 h2 ⊢
            exact cmpS_cmp.trans _ _ _ h1 h2
          · rw [ea']; simp only [b', not_false_eq_true, if_true] at h2 ⊢; exact h2
        · by_cases b' : cmpI y.n z.n = 0
          · have eb' := cmpI_cmp.eq0 _ _ b'
            rw [← eb']; simp only [a', not_false_eq_true, if_true] at h1 ⊢; exact h1
          · simp only [a', b', not_false_eq_true, if_true] at h1 h2
            have := cmpI_cmp.trans _ _ _ h1 h2
            rw [if_pos (by omega)]; exact this
      · rw [ea]; simp only [b, ne_eq, not_false_eq_true, if_true] at h2 ⊢; exact h2
    · by_cases b : cmpI y.k z.k = 0
      · have eb := cmpI_cmp.eq0 _ _ b
        rw [← eb]; simp only [a, ne_eq, not_false_eq_true, if_true] at h1 ⊢; exact h1
      · simp only [a, b, ne_eq, not_false_eq_true, if_true] at h1 h2
        have := cmpI_cmp.trans _ _ _ h1 h2
        rw [if_pos (by omega)]; exact this
  eq0 x y h := by
    unfold cmpV orI at h
    split at h
    · omega
    · rename_i a
      split at h
      · omega
      · rename_i b
        have e1 := cmpI_cmp.eq0 _ _ (by omega : cmpI x.k y.k = 0)
        have e2 := cmpI_cmp.eq0 _ _ (by omega : cmpI x.n y.n = 0)
        have e3 := cmpS_cmp.eq0 _ _ h
        cases x; cases y; simp_all
theorem ordV_eq (p q : VK) : ordV p q = cmpV (cleanV p) (cleanV q) := rfl

/-- What is told of one of the values that are often. -/
structure FV where
  v : VK
  low : Int
  high : Int
instance : Inhabited FV := ⟨⟨⟨0, 0, ByteArray.empty⟩, 0, 0⟩⟩
def encF (x : FV) : List Value := [.int .i64 x.v.k, .int .i64 x.v.n, .string x.v.s, .int .i64 x.low, .int .i64 x.high]
def ordF (x y : FV) : Int := ordV x.v y.v
theorem swoF : SWO (ltOf ordF) := cmpV_cmp.swo fun x : FV => cleanV x.v
theorem grow_of {w w' : World} (h : w.Since w.heap.size w') (hd : w.drawn ≤ w'.drawn) : ∃ q os, w' = grow (w.drewN q) os := by
  refine ⟨w'.drawn - w.drawn, w'.heap.extract w.heap.size w'.heap.size, ?_⟩
  have e : w'.heap = w.heap ++ w'.heap.extract w.heap.size w'.heap.size := by
    apply Array.ext_getElem?
    intro i
    rw [Array.getElem?_append]
    split
    · rename_i hi; exact h.block i hi
    · rename_i hi
      rw [Array.getElem?_extract]
      have := h.size
      split
      · congr 1; omega
      · rw [Array.getElem?_eq_none]; omega
  have h1 := h.os
  have h2 := h.tape
  have h3 := h.output
  cases w' with
  | mk heap tape drawn os output =>
    simp only at h1 h2 h3 hd e
    subst h1 h2 h3
    simp only [grow, World.drewN]
    congr 1
    omega
set_option maxRecDepth 100000 in
set_option maxHeartbeats 1000000 in
theorem all1_w (x y : FV) (w : World) : Calls Try.prog 17 #[.agg (encF x).toArray, .agg (encF y).toArray] w fun e w' => e = .returned (.int .i64 (ordF x y)) ∧ ∃ q os, w' = grow (w.drewN q) os := by
  have ho := fun W => order_w x.v y.v W
  unfold ordF
  generalize ordV x.v y.v = r at ho ⊢
  obtain ⟨⟨k1, n1, s1⟩, l1, h1⟩ := x
  obtain ⟨⟨k2, n2, s2⟩, l2, h2⟩ := y
  simp only [encF, VK.val] at ho ⊢
  go_enter Try.func17, Try.ntmps17
  go_wp2_with (go_at_call 18; (with_reducible refine (ho _).mono ?_); rintro e w1 ⟨rfl, hs, hd⟩)
  go_ret
  refine ⟨rfl, grow_of ⟨hs.os, hs.tape, hs.output, by have := hs.size; simp at this; omega, fun k hk => ?_⟩ (by simpa using hd)⟩
  exact (hs.block k (by simp; omega)).trans ((blk_alloc_lt _ _ _ (by simp; omega)).trans (blk_alloc_lt _ _ _ hk))
end Go.Proofs.Ytaaocppaepnhbaa
