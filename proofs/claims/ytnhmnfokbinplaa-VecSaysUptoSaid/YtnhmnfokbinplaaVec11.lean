/- Places, told by both, are the same. Own work; no condition. -/
import Derived.Test.YtnhmnfokbinplaaVec10
namespace Go.Proofs.Ytnhmnfokbinplaa
open Go Go.RowKit

theorem allUp_at {f : Nat → Bool} {n i : Nat} (h : allUp f n = true) (hi : i < n) : f i = true := by
  cases hf : f i with
  | true => rfl
  | false => rw [allUp_false hi hf] at h; cases h

theorem places_eq (a : Int) (B : List Bool) (N : List Int) (S : List ByteArray) : truesUp (valuesM ⟨a, B, N, S⟩) (valuesM ⟨a, B, N, S⟩).length = placesM ⟨a, B, N, S⟩ := by
  cases hg : goodV ⟨a, B, N, S⟩ with
  | false => simp [valuesM, placesM, hg, truesUp]
  | true =>
    have hV : valuesM ⟨a, B, N, S⟩ = (List.range B.length).map (atV a B N S) := by simp [valuesM, hg]
    rw [hV, List.length_map, List.length_range]
    have get : ∀ n, n < B.length → ((List.range B.length).map (atV a B N S))[n]? = some (atV a B N S n) := fun n hn => by simp [hn]
    by_cases ha : a = 1
    · have hN := goodV_1 hg ha
      have hup : allUp (okN B N) N.length = true := by subst ha; simp [goodV] at hg; exact hg.2
      have key : ∀ n, n ≤ B.length → truesUp ((List.range B.length).map (atV a B N S)) n = placesUp N n := by
        intro n
        induction n with
        | zero => intro _; rfl
        | succ n ih =>
          intro hn
          rw [truesUp, placesUp, ih (by omega), get n (by omega)]
          have ho := allUp_at hup (i := n) (by omega)
          congr 1
          show (if isTrue (atV a B N S n) = true then [(n : Int)] else []) = _
          simp only [okN] at ho
          have e : isTrue (atV a B N S n) = !decide ((N[n]?).getD 0 = 0) := by
            unfold atV
            split
            · rename_i hb; rw [hb] at ho; simp at ho; simp [isTrue, Val.zero, ho]
            · rfl
          by_cases h0 : (N[n]?).getD 0 = 0
          · have e2 : ¬ isTrue (atV a B N S n) = true := by rw [e, h0]; decide
            rw [if_neg e2, if_pos h0]
          · have e2 : isTrue (atV a B N S n) = true := by rw [e, decide_eq_false h0]; rfl
            rw [if_pos e2, if_neg h0]
      rw [key _ (Nat.le_refl _), placesM, if_pos ⟨hg, ha⟩, hN]
    · have key : ∀ n, n ≤ B.length → truesUp ((List.range B.length).map (atV a B N S)) n = [] := by
        intro n
        induction n with
        | zero => intro _; rfl
        | succ n ih =>
          intro hn
          rw [truesUp, ih (by omega), get n (by omega)]
          have e : isTrue (atV a B N S n) = false := by
            unfold atV
            split
            · rfl
            · simp [isTrue, str]
          simp [e]
      rw [key _ (Nat.le_refl _), placesM, if_neg (fun h => ha h.2)]

end Go.Proofs.Ytnhmnfokbinplaa
