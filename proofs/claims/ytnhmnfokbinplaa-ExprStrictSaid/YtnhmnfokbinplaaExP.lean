/- Expressions: others put in for columns. Plain Lean. Own work; no condition. -/
import Derived.Test.YtnhmnfokbinplaaExF
namespace Go.Proofs.Ytnhmnfokbinplaa
open Go Go.RowKit
set_option linter.unusedSimpArgs false
set_option linter.unusedVariables false

mutual
def colsM : Ex → List Int
  | .mk op n v ar => colsL ar ++ (if op = 1 then [n] else [])
def colsL : List Ex → List Int
  | [] => []
  | e :: r => colsM e ++ colsL r
end
mutual
theorem cols_sz : ∀ e : Ex, (colsM e).length ≤ e.sz
  | .mk op n v ar => by
    have := cols_szL ar
    simp only [colsM, Ex.sz, List.length_append]
    split <;> simp <;> omega
theorem cols_szL : ∀ l : List Ex, (colsL l).length ≤ szL l
  | [] => by simp [colsL]
  | e :: r => by
    have := cols_sz e
    have := cols_szL r
    simp only [colsL, szL, List.length_append]; omega
end
mutual
theorem cols_pos : ∀ e : Ex, goodE e = true → ∀ n, n ∈ colsM e → 0 ≤ n
  | .mk op m v ar, hg, n, hn => by
    simp only [goodE, Bool.and_eq_true, Bool.not_eq_true'] at hg
    simp only [colsM, List.mem_append] at hn
    rcases hn with hn | hn
    · exact cols_posL ar hg.2 n hn
    · split at hn
      · rename_i h1; subst h1
        simp only [List.mem_singleton] at hn; subst hn
        have := hg.1
        simp only [badE, Bool.or_eq_false_iff, Bool.and_eq_false_iff, decide_eq_false_iff_not] at this
        rcases this.1.2 with h | h
        · exact absurd trivial h
        · omega
      · simp at hn
theorem cols_posL : ∀ l : List Ex, goodL l = true → ∀ n, n ∈ colsL l → 0 ≤ n
  | [], _, n, h => by simp [colsL] at h
  | e :: r, hg, n, h => by
    simp only [goodL, Bool.and_eq_true] at hg
    simp only [colsL, List.mem_append] at h
    rcases h with h | h
    · exact cols_pos e hg.1 n h
    · exact cols_posL r hg.2 n h
end
def putN (by' : List Ex) : Ex → Ex
  | .mk op n v ar => if op = 1 then mapE id ((by'[n.toNat]?).getD zeroE) else .mk op n v ar
/-- What the columns of a row are. -/
def colOf (row : List Val) (n : Int) : Val := if (row.length : Int) ≤ n then Val.zero else clean ((row[n.toNat]?).getD Val.zero)
theorem colOf_clean (row : List Val) (n : Int) : cleanV (colOf row n) := by
  unfold colOf; split
  · exact clean_zero
  · exact clean_clean _

mutual
theorem put_ev (row : List Val) (by' : List Ex) (hb : ∀ b, b ∈ by' → builtM b = true) : ∀ e : Ex, goodE e = true → (∀ n, n ∈ colsM e → n < by'.length) →
    evalE (colOf row) (mapE (putN by') e) = evalE (colOf (by'.map (evalM (colOf row)))) e
  | .mk op n v ar, hg, hc => by
    have hpos := cols_pos _ hg
    simp only [goodE, Bool.and_eq_true, Bool.not_eq_true'] at hg
    rw [mapE_mk]
    by_cases h1 : op = 1
    · subst h1
      have hn : n ∈ colsM (.mk 1 n v ar) := by simp [colsM]
      have h0 := hpos n hn
      have hlt := hc n hn
      have hlt' : n.toNat < by'.length := by omega
      simp only [putN, if_true, nN]
      rw [List.getElem?_eq_getElem hlt', Option.getD_some, eval_copy, evalE]
      simp only [evOp, if_true]
      unfold colOf
      rw [if_neg (by rw [List.length_map]; omega), List.getElem?_map, List.getElem?_eq_getElem hlt']
      simp only [Option.map_some, Option.getD_some]
      have hbb := hb _ (List.getElem_mem hlt')
      simp only [evalM, hbb, if_true]
      exact (clean_ev (colOf_clean row) _).symm
    · simp only [putN, h1, if_false]
      rw [evalE, evalE, evOp_norm, evOp_col (colOf row) (colOf (by'.map (evalM (colOf row)))) h1]
      have : evalL (colOf row) (ar.map (mapE (putN by'))) = evalL (colOf (by'.map (evalM (colOf row)))) ar := by
        rw [← mapL_eq]
        exact put_evL row by' hb ar hg.2 (fun n hn => hc n (by simp [colsM, hn]))
      rw [this]
theorem put_evL (row : List Val) (by' : List Ex) (hb : ∀ b, b ∈ by' → builtM b = true) : ∀ l : List Ex, goodL l = true → (∀ n, n ∈ colsL l → n < by'.length) →
    evalL (colOf row) (mapL (putN by') l) = evalL (colOf (by'.map (evalM (colOf row)))) l
  | [], _, _ => rfl
  | e :: r, hg, hc => by
    simp only [goodL, Bool.and_eq_true] at hg
    rw [mapL, evalL, evalL, put_ev row by' hb e hg.1 (fun n hn => hc n (by simp [colsL, hn])), put_evL row by' hb r hg.2 (fun n hn => hc n (by simp [colsL, hn]))]
end
/-- Put: what it makes, and how it is refused. -/
def putOk (e : Ex) (by' : List Ex) : Bool := builtM e && by'.all builtM && (colsM e).all (fun n => decide (n < (by'.length : Int)))
def zeroX : Ex := .mk 0 0 Val.zero []
def putM (e : Ex) (by' : List Ex) : Ex × Int :=
  if putOk e by' = true then (if builtM (mapE (putN by') e) = true then (mapE (putN by') e, 0) else (zeroX, 3)) else (zeroX, 1)
theorem put_law (row : List Val) (e : Ex) (by' : List Ex) (h : (putM e by').2 = 0) : evalM (colOf row) (putM e by').1 = evalM (colOf (by'.map (evalM (colOf row)))) e := by
  unfold putM at h ⊢
  split at h
  · rename_i hok
    split at h
    · rename_i hbt
      rw [if_pos hok, if_pos hbt]
      unfold putOk at hok
      simp only [Bool.and_eq_true] at hok
      have hbe := hok.1.1
      simp only [evalM, hbe, hbt, if_true]
      exact put_ev row by' (fun b hb => List.all_eq_true.1 hok.1.2 b hb) e (good_of_built hbe) (fun n hn => by have := List.all_eq_true.1 hok.2 n hn; simpa using this)
    · cases h
  · cases h
end Go.Proofs.Ytnhmnfokbinplaa
