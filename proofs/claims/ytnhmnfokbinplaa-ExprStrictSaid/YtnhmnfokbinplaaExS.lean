/- Expressions: what they mean; what is built; parts. Plain Lean. Own work; no condition. -/
import Derived.Test.YtnhmnfokbinplaaEx2
namespace Go.Proofs.Ytnhmnfokbinplaa
open Go Go.RowKit
set_option linter.unusedSimpArgs false
set_option linter.unusedVariables false

def vlenV (a : Val) : Val := if a.k = 2 then num (a.s.size : Int) else Val.zero
def evOp (col : Int → Val) (op n : Int) (v : Val) (l : List Val) : Val :=
  if op = 1 then col n else if op = 2 then clean v
  else if op = 3 then reckon 8 (num 0) ((l[0]?).getD Val.zero)
  else if op = 4 then vnot ((l[0]?).getD Val.zero)
  else if op = 5 then flag (decide (((l[0]?).getD Val.zero).k = 0))
  else if op = 6 then vlenV ((l[0]?).getD Val.zero)
  else if op = 7 ∨ op = 8 ∨ op = 9 ∨ op = 10 ∨ op = 11 then reckon op ((l[0]?).getD Val.zero) ((l[1]?).getD Val.zero)
  else if op = 18 then catV ((l[0]?).getD Val.zero) ((l[1]?).getD Val.zero)
  else if op = 19 ∨ op = 20 then both op ((l[0]?).getD Val.zero) ((l[1]?).getD Val.zero)
  else if op = 21 then (if trueV ((l[0]?).getD Val.zero) = true then (l[1]?).getD Val.zero else (l[2]?).getD Val.zero)
  else testV op ((l[0]?).getD Val.zero) ((l[1]?).getD Val.zero)
mutual
def evalE (col : Int → Val) : Ex → Val
  | .mk op n v ar => evOp col op n v (evalL col ar)
def evalL (col : Int → Val) : List Ex → List Val
  | [] => []
  | e :: r => evalE col e :: evalL col r
end
theorem evalL_eq (col : Int → Val) : ∀ l : List Ex, evalL col l = l.map (evalE col)
  | [] => rfl
  | e :: r => by simp [evalL, evalL_eq col r]

mutual
theorem walkE_sz : ∀ (e : Ex) (d n h n' h' : Int), walkE e d n h = (true, n', h') → n' = n + (e.sz : Int)
  | .mk op m v ar, d, n, h, n', h', he => by
    rw [walkE] at he
    split at he
    · cases he
    · have := walkL_sz ar _ _ _ _ _ he
      simp only [Ex.sz]; omega
theorem walkL_sz : ∀ (l : List Ex) (d n h n' h' : Int), walkL l d n h = (true, n', h') → n' = n + (szL l : Int)
  | [], d, n, h, n', h', he => by
    simp only [walkL, Prod.mk.injEq] at he
    simp only [szL]; omega
  | a :: r, d, n, h, n', h', he => by
    rw [walkL] at he
    split at he
    · rename_i n1 h2 hw
      have h3 := walkE_sz a d n h _ _ hw
      have h4 := walkL_sz r d n1 h2 _ _ he
      simp only [szL]; omega
    · cases he
end
theorem built_iff (e : Ex) : builtM e = (walkE e 1 0 0).1 := by
  unfold builtM sizeM
  cases hb : (walkE e 1 0 0).1 with
  | false => simp
  | true =>
    have := walkE_nodes e 1 0 0 _ _ _ (by omega) (by omega) (show walkE e 1 0 0 = (true, (walkE e 1 0 0).2.1, (walkE e 1 0 0).2.2) by rw [← hb])
    simp; exact (this.2.2 rfl).2
theorem built_sz {e : Ex} (h : builtM e = true) : (e.sz : Int) ≤ 400 := by
  rw [built_iff] at h
  have h1 := walkE_sz e 1 0 0 _ _ (show walkE e 1 0 0 = (true, (walkE e 1 0 0).2.1, (walkE e 1 0 0).2.2) by rw [← h])
  have h2 := walkE_nodes e 1 0 0 _ _ _ (by omega) (by omega) (show walkE e 1 0 0 = (true, (walkE e 1 0 0).2.1, (walkE e 1 0 0).2.2) by rw [← h])
  have := h2.2.2 rfl
  omega

/-- Built from less is built: fewer nodes so far, and less deep. -/
def le2 (p q : Bool × Int × Int) : Prop := p.1 = true ∧ p.2.1 ≤ q.2.1
mutual
theorem walkE_less : ∀ (e : Ex) (d n h d' n' h' : Int), d' ≤ d → n' ≤ n → (walkE e d n h).1 = true → (walkE e d' n' h').1 = true ∧ (walkE e d' n' h').2.1 ≤ (walkE e d n h).2.1
  | .mk op m v ar, d, n, h, d', n', h', hd, hn, hw => by
    rw [walkE] at hw
    rw [walkE, walkE]
    split at hw
    · cases hw
    · rename_i hc
      simp only [Bool.or_eq_true, decide_eq_true_eq, not_or] at hc
      have hc1 : ¬ (decide (400 < n + 1) || decide (40 < d) || badE op m v ar.length) = true := by simp [hc]
      have hc2 : ¬ (decide (400 < n' + 1) || decide (40 < d') || badE op m v ar.length) = true := by
        simp only [Bool.or_eq_true, decide_eq_true_eq, not_or]
        exact ⟨⟨by omega, by omega⟩, hc.2⟩
      rw [if_neg hc1, if_neg hc2]
      exact walkL_less ar _ _ _ _ _ _ (by omega) (by omega) hw
theorem walkL_less : ∀ (l : List Ex) (d n h d' n' h' : Int), d' ≤ d → n' ≤ n → (walkL l d n h).1 = true → (walkL l d' n' h').1 = true ∧ (walkL l d' n' h').2.1 ≤ (walkL l d n h).2.1
  | [], d, n, h, d', n', h', hd, hn, hw => by simp only [walkL, true_and]; exact hn
  | a :: r, d, n, h, d', n', h', hd, hn, hw => by
    rcases h1 : walkE a d n h with ⟨b1, n1, h2⟩
    cases b1 with
    | false => rw [walkL, h1] at hw; cases hw
    | true =>
      have h3 := walkE_less a d n h d' n' h' hd hn (by rw [h1])
      rcases h4 : walkE a d' n' h' with ⟨b2, n2, h5⟩
      rw [h4, h1] at h3
      obtain ⟨h6, h7⟩ := h3
      simp only at h6 h7
      subst h6
      rw [walkL, h1] at hw
      rw [walkL, walkL, h1, h4]
      exact walkL_less r d n1 h2 d' n2 h5 hd h7 hw
end
theorem walkL_mem : ∀ (l : List Ex) (d n h : Int) (a : Ex), a ∈ l → (walkL l d n h).1 = true → ∃ n' h', n ≤ n' ∧ (walkE a d n' h').1 = true
  | [], d, n, h, a, ha, _ => by simp at ha
  | b :: r, d, n, h, a, ha, hw => by
    rcases h1 : walkE b d n h with ⟨b1, n1, h2⟩
    cases b1 with
    | false => rw [walkL, h1] at hw; cases hw
    | true =>
      rcases List.mem_cons.1 ha with g | g
      · subst g; exact ⟨n, h, Int.le_refl _, by rw [h1]⟩
      · rw [walkL, h1] at hw
        obtain ⟨n', h', h3, h4⟩ := walkL_mem r d n1 h2 a g hw
        have := walkE_sz b d n h _ _ h1
        exact ⟨n', h', by omega, h4⟩
/-- What is built: its node is right, and its parts are built. -/
theorem built_mk {op m : Int} {v : Val} {ar : List Ex} (h : builtM (.mk op m v ar) = true) : badE op m v ar.length = false ∧ ∀ a, a ∈ ar → builtM a = true := by
  rw [built_iff, walkE] at h
  split at h
  · cases h
  · rename_i hc
    simp only [Bool.or_eq_true, decide_eq_true_eq, not_or] at hc
    refine ⟨by simpa using hc.2, fun a ha => ?_⟩
    obtain ⟨n', h', h1, h2⟩ := walkL_mem ar _ _ _ a ha h
    rw [built_iff]
    exact (walkE_less a _ n' h' 1 0 0 (by omega) (by omega) h2).1

mutual
def partsM : Ex → List Ex
  | .mk op n v ar => if builtM (.mk op n v ar) = true ∧ op = 19 then partsL ar else [mapE id (.mk op n v ar)]
def partsL : List Ex → List Ex
  | [] => []
  | e :: r => partsM e ++ partsL r
end
mutual
theorem parts_len : ∀ e : Ex, (partsM e).length ≤ e.sz ∧ 0 < (partsM e).length ∨ (partsM e).length ≤ e.sz
  | .mk op n v ar => by
    right
    rw [partsM]
    split
    · have := partsL_len ar; simp only [Ex.sz]; omega
    · simp [Ex.sz]
theorem partsL_len : ∀ l : List Ex, (partsL l).length ≤ szL l
  | [] => by simp [partsL]
  | e :: r => by
    have h1 : (partsM e).length ≤ e.sz := by rcases parts_len e with h | h; exact h.1; exact h
    have := partsL_len r
    simp only [partsL, szL, List.length_append]; omega
end

/-! ### a copy -/
mutual
theorem walk_copy : ∀ (e : Ex) (d n h : Int), walkE (mapE id e) d n h = walkE e d n h
  | .mk op m v ar, d, n, h => by
    rw [mapE]
    show walkE (.mk op _ _ (mapL id ar)) d n h = _
    have hlen : (mapL id ar).length = ar.length := by rw [mapL_eq]; simp
    have hb : badE op (if op = 1 then m else 0) (if op = 1 then Val.zero else if op = 2 then clean v else Val.zero) (mapL id ar).length = badE op m v ar.length := by
      rw [hlen]
      unfold badE
      by_cases h1 : op = 1
      · subst h1; simp
      · by_cases h2 : op = 2
        · subst h2
          have e1 : (clean v).k = 2 ↔ v.k = 2 := by unfold clean; split <;> (try split) <;> simp_all [Val.zero]
          have e2 : v.k = 2 → (clean v).s = v.s := by intro h; unfold clean; simp [h]
          by_cases hk : v.k = 2
          · simp [e1.2 hk, hk, e2 hk]
          · have : ¬ (clean v).k = 2 := fun h => hk (e1.1 h)
            simp [hk, this]
        · simp [h1, h2]
    rw [walkE, walkE, hb, walkL_copy ar]
theorem walkL_copy : ∀ (l : List Ex) (d n h : Int), walkL (mapL id l) d n h = walkL l d n h
  | [], d, n, h => by simp [mapL]
  | a :: r, d, n, h => by
    rw [mapL, walkL, walkL, walk_copy a]
    split
    · exact walkL_copy r _ _ _
    · rfl
end
theorem built_copy (e : Ex) : builtM (mapE id e) = builtM e := by rw [built_iff, built_iff, walk_copy]
theorem clean_clean (v : Val) : clean (clean v) = clean v := by
  unfold clean; split <;> (try split) <;> simp_all [Val.zero]
mutual
theorem eval_copy (col : Int → Val) : ∀ e : Ex, evalE col (mapE id e) = evalE col e
  | .mk op m v ar => by
    rw [mapE]
    show evalE col (.mk op _ _ (mapL id ar)) = _
    rw [evalE, evalE, evalL_copy col ar]
    unfold evOp
    by_cases h1 : op = 1
    · simp [h1]
    · by_cases h2 : op = 2
      · simp [h2, clean_clean]
      · simp only [h1, h2, if_false]
theorem evalL_copy (col : Int → Val) : ∀ l : List Ex, evalL col (mapL id l) = evalL col l
  | [] => by simp [mapL]
  | a :: r => by rw [mapL, evalL, evalL, eval_copy col a, evalL_copy col r]
end

def evalM (col : Int → Val) (e : Ex) : Val := if builtM e = true then evalE col e else Val.zero
theorem true_both (a b : Val) : trueV (both 19 a b) = (trueV a && trueV b) := by
  unfold both isT trueV
  by_cases h1 : a.k = 1 <;> by_cases h2 : b.k = 1 <;> by_cases h3 : a.n = 0 <;> by_cases h4 : b.n = 0 <;> simp_all [flag, num, Val.zero]
/- All parts are true just where the whole is. -/
mutual
theorem parts_true (col : Int → Val) : ∀ e : Ex, (partsM e).all (fun p => trueV (evalM col p)) = trueV (evalM col e)
  | .mk op n v ar => by
    rw [partsM]
    split
    · rename_i h
      obtain ⟨hb, h19⟩ := h
      subst h19
      obtain ⟨hbad, hbs⟩ := built_mk hb
      have hl : ar.length = 2 := by
        simp only [badE, arityE, Bool.or_eq_false_iff, Bool.not_eq_false', decide_eq_true_eq] at hbad
        have := hbad.1.1
        simp at this; omega
      rw [partsL_true col ar hbs]
      match ar, hl with
      | [a, b], _ =>
        have ha := hbs a (by simp)
        have hb2 := hbs b (by simp)
        simp only [evalM, hb, ha, hb2, if_true, List.all_cons, List.all_nil, Bool.and_true]
        rw [evalE, evalL_eq]
        simp [evOp, true_both]
    · simp only [List.all_cons, List.all_nil, Bool.and_true, evalM, built_copy, eval_copy]
theorem partsL_true (col : Int → Val) : ∀ l : List Ex, (∀ a, a ∈ l → builtM a = true) → (partsL l).all (fun p => trueV (evalM col p)) = l.all (fun p => trueV (evalM col p))
  | [], _ => rfl
  | e :: r, h => by rw [partsL, List.all_append, List.all_cons, parts_true col e, partsL_true col r (fun a ha => h a (by simp [ha]))]
end
end Go.Proofs.Ytnhmnfokbinplaa
