/- Expressions: what is certainly null, what is certainly not true. Plain Lean. Own work; no condition. -/
import Derived.Test.YtnhmnfokbinplaaExS
namespace Go.Proofs.Ytnhmnfokbinplaa
open Go Go.RowKit
set_option linter.unusedSimpArgs false
set_option linter.unusedVariables false

mutual
def nullM (cs : List Int) : Ex → Bool
  | .mk op n v ar => if op = 1 then cs.contains n else if op = 2 then decide ((clean v).k = 0) else if op = 5 ∨ op = 19 ∨ op = 20 ∨ op = 21 then false else nullL cs ar
def nullL (cs : List Int) : List Ex → Bool
  | [] => false
  | e :: r => nullM cs e || nullL cs r
end
theorem nullL_any (cs : List Int) : ∀ l : List Ex, nullL cs l = l.any (nullM cs)
  | [] => rfl
  | e :: r => by simp [nullL, nullL_any cs r]
mutual
def untrueM (cs : List Int) : Ex → Bool
  | .mk op n v ar => nullM cs (.mk op n v ar) || (if op = 2 then !trueV v else if op = 19 then ((untrueL cs ar)[0]?).getD false || ((untrueL cs ar)[1]?).getD false else if op = 20 then ((untrueL cs ar)[0]?).getD false && ((untrueL cs ar)[1]?).getD false else false)
def untrueL (cs : List Int) : List Ex → List Bool
  | [] => []
  | e :: r => untrueM cs e :: untrueL cs r
end
theorem untrueL_eq (cs : List Int) : ∀ l : List Ex, untrueL cs l = l.map (untrueM cs)
  | [] => rfl
  | e :: r => by simp [untrueL, untrueL_eq cs r]
def strictM (cs : List Int) (e : Ex) : Bool := builtM e && untrueM cs e

theorem arity_ops {op : Int} {n : Nat} (h : arityE op = (n : Int)) : 1 ≤ op ∧ op ≤ 21 := by
  unfold arityE at h
  split at h
  · omega
  · split at h
    · omega
    · split at h
      · omega
      · split at h <;> omega
theorem badE_arity {op n : Int} {v : Val} {k : Nat} (h : badE op n v k = false) : arityE op = (k : Int) := by
  simp only [badE, Bool.or_eq_false_iff, Bool.not_eq_false', decide_eq_true_eq] at h
  exact h.1.1

theorem evOp_null (col : Int → Val) (op n : Int) (v : Val) (l : List Val) (ha : arityE op = (l.length : Int)) (hop : ¬ (op = 1 ∨ op = 2 ∨ op = 5 ∨ op = 19 ∨ op = 20 ∨ op = 21)) (i : Nat) (x : Val) (hi : l[i]? = some x) (hx : x.k = 0) : (evOp col op n v l).k = 0 := by
  have h := arity_ops ha
  have hc : (clean x).k = 0 := by simp [clean, hx, Val.zero]
  have hlt := (List.getElem?_eq_some_iff.1 hi).1
  have cases1 : op = 3 ∨ op = 4 ∨ op = 6 ∨ op = 7 ∨ op = 8 ∨ op = 9 ∨ op = 10 ∨ op = 11 ∨ op = 12 ∨ op = 13 ∨ op = 14 ∨ op = 15 ∨ op = 16 ∨ op = 17 ∨ op = 18 := by omega
  match l, ha with
  | [], ha => simp at hlt
  | [a], ha =>
    have : i = 0 := by simpa using hlt
    subst this
    simp only [List.getElem?_cons_zero, Option.some.injEq] at hi
    subst hi
    rcases cases1 with rfl | rfl | rfl | rfl | rfl | rfl | rfl | rfl | rfl | rfl | rfl | rfl | rfl | rfl | rfl <;> first | (simp [arityE] at ha; done) | simp [evOp, reckon, vnot, vlenV, hx, Val.zero]
  | [a, b], ha =>
    have : i = 0 ∨ i = 1 := by have : i < 2 := by simpa using hlt
                               omega
    rcases this with rfl | rfl
    all_goals
      simp only [List.getElem?_cons_zero, List.getElem?_cons_succ, Option.some.injEq] at hi
      subst hi
      rcases cases1 with rfl | rfl | rfl | rfl | rfl | rfl | rfl | rfl | rfl | rfl | rfl | rfl | rfl | rfl | rfl <;> first | (simp [arityE] at ha; done) | simp [evOp, reckon, testV, catV, hx, hc, Val.zero]
  | a :: b :: c :: r, ha =>
    exfalso
    have : arityE op ≤ 2 := by unfold arityE; split; omega; split; omega; split; omega; split <;> omega
    rw [ha] at this; simp at this; omega

mutual
theorem null_ev (col : Int → Val) (cs : List Int) (hc : ∀ c, c ∈ cs → 0 ≤ c → (col c).k = 0) : ∀ e : Ex, builtM e = true → nullM cs e = true → (evalE col e).k = 0
  | .mk op n v ar, hb, hn => by
    obtain ⟨hbad, hbs⟩ := built_mk hb
    have ha := badE_arity hbad
    rw [nullM] at hn
    rw [evalE]
    split at hn
    · rename_i h1
      subst h1
      simp only [evOp, if_true]
      refine hc n (by simpa using hn) ?_
      simp only [badE, Bool.or_eq_false_iff, Bool.and_eq_false_iff, decide_eq_false_iff_not] at hbad
      rcases hbad.1.2 with h | h
      · exact absurd trivial h
      · omega
    · rename_i h1
      split at hn
      · rename_i h2
        subst h2
        simpa [evOp] using hn
      · rename_i h2
        split at hn
        · cases hn
        · rename_i h3
          obtain ⟨i, x, hi, hx⟩ := null_evL col cs hc ar hbs hn
          have hl : (evalL col ar).length = ar.length := by rw [evalL_eq]; simp
          exact evOp_null col op n v _ (by rw [hl]; exact ha) (by omega) i x hi hx
theorem null_evL (col : Int → Val) (cs : List Int) (hc : ∀ c, c ∈ cs → 0 ≤ c → (col c).k = 0) : ∀ l : List Ex, (∀ a, a ∈ l → builtM a = true) → nullL cs l = true → ∃ (i : Nat) (x : Val), (evalL col l)[i]? = some x ∧ x.k = 0
  | [], _, h => by simp [nullL] at h
  | e :: r, hb, h => by
    simp only [nullL, Bool.or_eq_true] at h
    rcases h with h | h
    · exact ⟨0, _, rfl, null_ev col cs hc e (hb e (by simp)) h⟩
    · obtain ⟨i, x, hi, hx⟩ := null_evL col cs hc r (fun a ha => hb a (by simp [ha])) h
      exact ⟨i + 1, x, by simpa [evalL] using hi, hx⟩
end

theorem true_or (a b : Val) (ha : trueV a = false) (hb : trueV b = false) : trueV (both 20 a b) = false := by
  unfold both isT
  unfold trueV at *
  by_cases h1 : a.k = 1 <;> by_cases h2 : b.k = 1 <;> by_cases h3 : a.n = 0 <;> by_cases h4 : b.n = 0 <;> simp_all [flag, num, Val.zero]
theorem true_clean (v : Val) : trueV (clean v) = trueV v := by
  unfold clean trueV
  by_cases h1 : v.k = 1
  · simp [h1]
  · by_cases h2 : v.k = 2 <;> simp [h1, h2, Val.zero]
mutual
theorem untrue_ev (col : Int → Val) (cs : List Int) (hc : ∀ c, c ∈ cs → 0 ≤ c → (col c).k = 0) : ∀ e : Ex, builtM e = true → untrueM cs e = true → trueV (evalE col e) = false
  | .mk op n v ar, hb, hn => by
    obtain ⟨hbad, hbs⟩ := built_mk hb
    have ha := badE_arity hbad
    rw [untrueM, Bool.or_eq_true] at hn
    rcases hn with hn | hn
    · have := null_ev col cs hc _ hb hn
      simp [trueV, this]
    · have IH := untrue_evL col cs hc ar hbs
      rw [evalE]
      split at hn
      · rename_i h2; subst h2
        simp only [evOp]
        simp only [Bool.not_eq_true'] at hn
        simpa [true_clean] using hn
      · split at hn
        · rename_i h; subst h
          have hl : ar.length = 2 := by simp [arityE] at ha; omega
          match ar, hl with
          | [a, b], _ =>
            simp only [evOp, evalL, untrueL] at hn ⊢
            have ia := IH 0 a rfl
            have ib := IH 1 b rfl
            simp at hn ⊢
            rw [true_both]
            rcases hn with h | h
            · rw [ia h]; rfl
            · rw [ib h]; simp
        · split at hn
          · rename_i h; subst h
            have hl : ar.length = 2 := by simp [arityE] at ha; omega
            match ar, hl with
            | [a, b], _ =>
              simp only [evOp, evalL, untrueL] at hn ⊢
              have ia := IH 0 a rfl
              have ib := IH 1 b rfl
              simp at hn ⊢
              exact true_or _ _ (ia hn.1) (ib hn.2)
          · cases hn
theorem untrue_evL (col : Int → Val) (cs : List Int) (hc : ∀ c, c ∈ cs → 0 ≤ c → (col c).k = 0) : ∀ l : List Ex, (∀ a, a ∈ l → builtM a = true) → ∀ (i : Nat) (a : Ex), l[i]? = some a → untrueM cs a = true → trueV (evalE col a) = false
  | [], _, i, a, h, _ => by simp at h
  | e :: r, hb, 0, a, h, ht => by
    simp only [List.getElem?_cons_zero, Option.some.injEq] at h
    subst h
    exact untrue_ev col cs hc e (hb e (by simp)) ht
  | e :: r, hb, i + 1, a, h, ht => untrue_evL col cs hc r (fun a ha => hb a (by simp [ha])) i a (by simpa using h) ht
end
end Go.Proofs.Ytnhmnfokbinplaa
