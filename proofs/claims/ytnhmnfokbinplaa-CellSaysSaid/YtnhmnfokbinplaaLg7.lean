/- tallyref: numbers as lists of digits: sums. Own work; no condition. -/
import Derived.Test.YtnhmnfokbinplaaLg6
namespace Go.Proofs.Ytnhmnfokbinplaa
open Go Go.RowKit
set_option maxRecDepth 100000
set_option linter.unusedSimpArgs false
set_option linter.unusedVariables false

theorem dig_le {n : Int} {l : List Int} : (dig n).length ≤ (dig n).length := Nat.le_refl _
structure PI (l m : List Int) (M : Nat) (i c : Int) (L : List (List PV)) (k : Nat) : Prop where
  i0 : 0 ≤ i
  i1 : i ≤ M + 1
  end_ : i = M + 1 → c = 0
  o : ∃ o, PlusI l m o i.toNat c ∧ o.map u32c = L
  len : L.length = k
theorem PI.step {l m : List Int} {M : Nat} {i c : Int} {L : List (List PV)} {k : Nat} (hl : okD l) (hm : okD m) (h1 : l.length ≤ M) (h2 : m.length ≤ M) (h : PI l m M i c L k) (hc : i < M ∨ 0 < c) {a b : Int} (ha : (l[i.toNat]?).getD 0 = a) (hb : (m[i.toNat]?).getD 0 = b) :
    PI l m M (i + 1) ((c + (a + b)) / 65536) (L ++ [[.int .u32 ((c + (a + b)) % 65536)]]) (k + 1) ∧ (0 ≤ c + (a + b) ∧ c + (a + b) < 4294967296) := by
  obtain ⟨o, ho, hL⟩ := h.o
  have i0 := h.i0
  have c0 := ho.c0
  have c1 := ho.c1
  have ra := okD_get hl i.toNat
  have rb := okD_get hm i.toNat
  rw [ha] at ra
  rw [hb] at rb
  have hs := ho.step hl hm
  rw [ha, hb] at hs
  have hi : i ≤ M := by
    rcases hc with g | g
    · omega
    · have := h.i1
      have := h.end_
      omega
  refine ⟨⟨by omega, by omega, fun e => ?_, ⟨_, by rw [show (i + 1).toNat = i.toNat + 1 by omega]; exact hs, ?_⟩, by simp [h.len]⟩, by omega⟩
  · rw [List.getElem?_eq_none (by omega)] at ha
    rw [List.getElem?_eq_none (by omega)] at hb
    simp only [Option.getD_none] at ha hb
    omega
  · rw [List.map_append, hL]; rfl
theorem PI.stop {l m : List Int} {M : Nat} {i c : Int} {L : List (List PV)} {k : Nat} (h : PI l m M i c L k) (h1 : ¬ i < l.length) (h2 : ¬ i < m.length) (hc : ¬ 0 < c) (hM : M ≤ 900) : ∃ o, okD o ∧ o.map u32c = L ∧ o.length ≤ 1000 ∧ lval o = lval l + lval m := by
  obtain ⟨o, ho, hL⟩ := h.o
  have := h.i0
  have := h.i1
  exact ⟨o, ho.ok, hL, by rw [ho.len]; omega, ho.stop (by omega) (by omega) (by omega)⟩

structure MI (l m : List Int) (i b : Int) (L : List (List PV)) (k : Nat) : Prop where
  i0 : 0 ≤ i
  i1 : i ≤ l.length
  o : ∃ o, MinusI l m o i.toNat b ∧ o.map u32c = L
  len : L.length = k
theorem MI.step {l m : List Int} {i b : Int} {L : List (List PV)} {k : Nat} (hl : okD l) (hm : okD m) (h : MI l m i b L k) (hi : i < l.length) {x y : Int} (hx : l[i.toNat]? = some x) (hy : (m[i.toNat]?).getD 0 = y) :
    MI l m (i + 1) (1 - (x + 65536 - y - b) / 65536) (L ++ [[.int .u32 ((x + 65536 - y - b) % 65536)]]) (k + 1) ∧ (0 ≤ x ∧ x < 65536) ∧ (0 ≤ y ∧ y < 65536) ∧ 0 ≤ b ∧ b ≤ 1 := by
  obtain ⟨o, ho, hL⟩ := h.o
  have i0 := h.i0
  have rx := okD_get hl i.toNat
  have ry := okD_get hm i.toNat
  have hs := ho.step hl hm
  rw [hx, Option.getD_some] at hs rx
  rw [hy] at hs ry
  refine ⟨⟨by omega, by omega, ⟨_, by rw [show (i + 1).toNat = i.toNat + 1 by omega]; exact hs, ?_⟩, by simp [h.len]⟩, rx, ry, ho.b0, ho.b1⟩
  rw [List.map_append, hL]; rfl
theorem MI.stop {l m : List Int} {i b : Int} {L : List (List PV)} {k : Nat} (h : MI l m i b L k) (h1 : ¬ i < l.length) (h2 : m.length ≤ l.length) (hv : lval m ≤ lval l) (hM : l.length ≤ 900) : ∃ o, okD o ∧ o.map u32c = L ∧ o.length ≤ 1000 ∧ lval o = lval l - lval m := by
  obtain ⟨o, ho, hL⟩ := h.o
  have := h.i0
  have := h.i1
  have e : i.toNat = l.length := by omega
  rw [e] at ho
  exact ⟨o, ho.ok, hL, by rw [ho.len]; omega, ho.stop h2 hv⟩

theorem uabs_nn (x : Int) : 0 ≤ uabs x := by unfold uabs; split <;> omega
theorem sgn_uabs (x : Int) : sgn (decide (x < 0)) (uabs x) = x := by
  unfold sgn uabs
  by_cases g : x < 0 <;> simp [g]
theorem sgn_add {x y : Int} (h : decide (x < 0) = decide (y < 0)) : sgn (decide (x < 0)) (uabs x + uabs y) = x + y := by
  unfold sgn uabs
  by_cases g : x < 0 <;> by_cases g' : y < 0 <;> simp [g, g'] at h ⊢ <;> omega
theorem sgn_sub {x y : Int} (h : decide (x < 0) ≠ decide (y < 0)) : sgn (decide (x < 0)) (uabs x - uabs y) = x + y := by
  unfold sgn uabs
  by_cases g : x < 0 <;> by_cases g' : y < 0 <;> simp [g, g'] at h ⊢ <;> omega
theorem uabs_add (x y : Int) : uabs (x + y) ≤ uabs x + uabs y := by
  unfold uabs; split <;> split <;> split <;> omega
theorem dig_len_le {m n : Int} (h0 : 0 ≤ m) (h : m ≤ n) : (dig m).length ≤ (dig n).length := by
  rcases Nat.lt_or_ge (dig n).length (dig m).length with g | g
  · have := dig_len_less (by omega) g; omega
  · exact g
end Go.Proofs.Ytnhmnfokbinplaa
