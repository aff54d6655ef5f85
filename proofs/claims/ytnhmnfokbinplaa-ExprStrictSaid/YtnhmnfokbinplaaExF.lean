/- Expressions: nodes, height, what is built; what is worked out ahead. Plain Lean. Own work; no condition. -/
import Derived.Test.YtnhmnfokbinplaaExT
namespace Go.Proofs.Ytnhmnfokbinplaa
open Go Go.RowKit
set_option linter.unusedSimpArgs false
set_option linter.unusedVariables false

mutual
def Ex.ht : Ex → Nat
  | .mk _ _ _ ar => htL ar + 1
def htL : List Ex → Nat
  | [] => 0
  | e :: r => max e.ht (htL r)
end
mutual
def goodE : Ex → Bool
  | .mk op n v ar => !badE op n v ar.length && goodL ar
def goodL : List Ex → Bool
  | [] => true
  | e :: r => goodE e && goodL r
end
theorem goodL_all : ∀ l : List Ex, goodL l = l.all goodE
  | [] => rfl
  | e :: r => by simp [goodL, goodL_all r]
theorem sz_pos : ∀ e : Ex, 0 < e.sz
  | .mk _ _ _ _ => by simp [Ex.sz]
theorem ht_pos : ∀ e : Ex, 0 < e.ht
  | .mk _ _ _ _ => by simp [Ex.ht]
theorem mx_max (a b : Int) : mx a b = max a b := by unfold mx; split <;> omega

mutual
theorem walkE_eq : ∀ (e : Ex) (d n h : Int), 0 ≤ n → (((walkE e d n h).1 = true ↔ (goodE e = true ∧ n + (e.sz : Int) ≤ 400 ∧ d + (e.ht : Int) ≤ 41)) ∧ ((walkE e d n h).1 = true → walkE e d n h = (true, n + (e.sz : Int), max h (d + (e.ht : Int) - 1))))
  | .mk op m v ar, d, n, h, h0 => by
    rw [walkE]
    have hs := sz_pos (.mk op m v ar)
    have hh := ht_pos (.mk op m v ar)
    simp only [Ex.sz, Ex.ht] at hs hh
    simp only [goodE, Ex.sz, Ex.ht, Bool.and_eq_true, Bool.not_eq_true']
    split
    · rename_i hc
      simp only [Bool.or_eq_true, decide_eq_true_eq] at hc
      refine ⟨⟨fun h => (by cases h), fun h => ?_⟩, fun h => by cases h⟩
      obtain ⟨⟨h1, h2⟩, h3, h4⟩ := h
      rcases hc with (hc | hc) | hc
      · omega
      · omega
      · rw [h1] at hc; cases hc
    · rename_i hc
      simp only [Bool.or_eq_true, decide_eq_true_eq, not_or] at hc
      have hb : badE op m v ar.length = false := by simpa using hc.2
      have ih := walkL_eq ar (d + 1) (n + 1) (mx h d) (by omega) (by omega) (by omega) (by rw [mx_max]; omega)
      refine ⟨ih.1.trans ⟨fun ⟨a, b, c⟩ => ⟨⟨hb, a⟩, by omega, by omega⟩, fun ⟨⟨_, a⟩, b, c⟩ => ⟨a, by omega, by omega⟩⟩, fun ht => ?_⟩
      rw [ih.2 ht, mx_max]
      simp only [Prod.mk.injEq, true_and]
      omega
theorem walkL_eq : ∀ (l : List Ex) (d n h : Int), 0 ≤ n → n ≤ 400 → d ≤ 41 → d - 1 ≤ h → (((walkL l d n h).1 = true ↔ (goodL l = true ∧ n + (szL l : Int) ≤ 400 ∧ d + (htL l : Int) ≤ 41)) ∧ ((walkL l d n h).1 = true → walkL l d n h = (true, n + (szL l : Int), max h (d + (htL l : Int) - 1))))
  | [], d, n, h, h0, h1, h2, h3 => by
    simp only [walkL, goodL, szL, htL, true_iff, true_and, true_implies, Prod.mk.injEq]
    omega
  | a :: r, d, n, h, h0, h1, h2, h3 => by
    have ia := walkE_eq a d n h h0
    have hs := sz_pos a
    rw [walkL]
    simp only [goodL, szL, htL, Bool.and_eq_true]
    rcases h4 : walkE a d n h with ⟨b1, n1, h5⟩
    cases b1 with
    | false =>
      rw [h4] at ia
      refine ⟨⟨fun h => (by cases h), fun h => ?_⟩, fun h => by cases h⟩
      obtain ⟨⟨p, q⟩, u, v⟩ := h
      have := ia.1.2 ⟨p, by omega, by omega⟩
      cases this
    | true =>
      rw [h4] at ia
      have e := ia.2 rfl
      simp only [Prod.mk.injEq, true_and] at e
      obtain ⟨e1, e2⟩ := e
      have i1 := ia.1.1 rfl
      have ir := walkL_eq r d n1 h5 (by omega) (by omega) h2 (by omega)
      refine ⟨ir.1.trans ⟨fun ⟨p, q, u⟩ => ⟨⟨i1.1, p⟩, by omega, by omega⟩, fun ⟨⟨_, p⟩, q, u⟩ => ⟨p, by omega, by omega⟩⟩, fun ht => ?_⟩
      show walkL r d n1 h5 = _
      rw [ir.2 ht]
      simp only [Prod.mk.injEq, true_and]
      omega
end
theorem built_eq (e : Ex) : builtM e = true ↔ (goodE e = true ∧ e.sz ≤ 400 ∧ e.ht ≤ 40) := by
  rw [built_iff]
  have := (walkE_eq e 1 0 0 (by omega)).1
  rw [this]
  constructor
  · rintro ⟨a, b, c⟩; exact ⟨a, by omega, by omega⟩
  · rintro ⟨a, b, c⟩; exact ⟨a, by omega, by omega⟩
theorem size_eq {e : Ex} (h : builtM e = true) : sizeM e = ((e.sz : Int), (e.ht : Int)) := by
  rw [built_iff] at h
  unfold sizeM
  rw [if_pos h, (walkE_eq e 1 0 0 (by omega)).2 h]
  have := ht_pos e
  simp only [Prod.mk.injEq]; omega
theorem size_not {e : Ex} (h : builtM e = false) : sizeM e = (401, 41) := by
  rw [built_iff] at h
  unfold sizeM
  rw [h]; rfl

/-! ### values are clean, their texts are short -/
def cleanV (v : Val) : Prop := clean v = v
theorem clean_num (n : Int) : cleanV (num n) := by simp [cleanV, clean, num]
theorem clean_zero : cleanV Val.zero := by simp [cleanV, clean, Val.zero]
theorem clean_flag (b : Bool) : cleanV (flag b) := clean_num _
theorem clean_optNum (o : Option Int) : cleanV (optNum o) := by cases o <;> simp [optNum, clean_num, clean_zero]
theorem clean_reckon (op : Int) (a b : Val) : cleanV (reckon op a b) := by unfold reckon; split <;> simp [clean_optNum, clean_zero]
theorem clean_not (a : Val) : cleanV (vnot a) := by unfold vnot; split <;> simp [clean_flag, clean_zero]
theorem clean_len (a : Val) : cleanV (vlenV a) := by unfold vlenV; split <;> simp [clean_num, clean_zero]
theorem clean_cat (a b : Val) : cleanV (catV a b) := by unfold catV; split <;> simp [cleanV, clean, Val.zero]
theorem clean_both (op : Int) (a b : Val) : cleanV (both op a b) := by unfold both; (repeat' split) <;> simp [clean_flag, clean_zero]
theorem clean_test (op : Int) (a b : Val) : cleanV (testV op a b) := by unfold testV; split <;> simp [clean_flag, clean_zero]
theorem clean_getD {l : List Val} (h : ∀ x, x ∈ l → cleanV x) (i : Nat) : cleanV ((l[i]?).getD Val.zero) := by
  cases hi : l[i]? with
  | none => exact clean_zero
  | some x => exact h x (List.mem_of_getElem? hi)
theorem clean_evOp {col : Int → Val} (hc : ∀ i, cleanV (col i)) (op n : Int) (v : Val) {l : List Val} (h : ∀ x, x ∈ l → cleanV x) : cleanV (evOp col op n v l) := by
  unfold evOp
  repeat' split
  all_goals first | exact hc _ | exact clean_clean v | exact clean_reckon _ _ _ | exact clean_not _ | exact clean_flag _ | exact clean_len _ | exact clean_cat _ _ | exact clean_both _ _ _ | exact clean_getD h _ | exact clean_test _ _ _
mutual
theorem clean_ev {col : Int → Val} (hc : ∀ i, cleanV (col i)) : ∀ e : Ex, cleanV (evalE col e)
  | .mk op n v ar => by rw [evalE]; exact clean_evOp hc op n v (clean_evL hc ar)
theorem clean_evL {col : Int → Val} (hc : ∀ i, cleanV (col i)) : ∀ (l : List Ex) (x : Val), x ∈ evalL col l → cleanV x
  | [], x, h => by simp [evalL] at h
  | e :: r, x, h => by
    simp only [evalL, List.mem_cons] at h
    rcases h with h | h
    · rw [h]; exact clean_ev hc e
    · exact clean_evL hc r x h
end
def shortV (v : Val) : Prop := v.k = 2 → v.s.size ≤ 1000
theorem short_num (n : Int) : shortV (num n) := by intro h; simp [num] at h
theorem short_zero : shortV Val.zero := by intro h; simp [Val.zero] at h
theorem short_evOp {col : Int → Val} (hc : ∀ i, shortV (col i)) (op n : Int) (v : Val) {l : List Val} (hv : op = 2 → shortV v) (h : ∀ x, x ∈ l → shortV x) : shortV (evOp col op n v l) := by
  have hg : ∀ i : Nat, shortV ((l[i]?).getD Val.zero) := fun i => by
    cases hi : l[i]? with
    | none => exact short_zero
    | some x => exact h x (List.mem_of_getElem? hi)
  have hf : ∀ b, shortV (flag b) := fun b => short_num _
  have hr : ∀ op a b, shortV (reckon op a b) := fun op a b => by
    unfold reckon; split
    · cases reckN op a.n b.n <;> simp [optNum, short_num, short_zero]
    · exact short_zero
  unfold evOp
  split
  · exact hc _
  split
  · rename_i h2
    have := hv h2
    unfold clean; intro hk
    by_cases h1 : v.k = 1
    · simp [h1] at hk
    · by_cases h3 : v.k = 2
      · simp [h3]; exact this h3
      · simp [h1, h3, Val.zero] at hk
  split
  · exact hr _ _ _
  split
  · unfold vnot; split; exact hf _; exact short_zero
  split
  · exact hf _
  split
  · unfold vlenV; split; exact short_num _; exact short_zero
  split
  · exact hr _ _ _
  split
  · unfold catV
    split
    · exact short_zero
    · rename_i hh
      intro _
      simp only [not_or, Decidable.not_not, Int.not_lt] at hh
      simp only [ByteArray.size_append]
      omega
  split
  · unfold both; (repeat' split) <;> first | exact hf _ | exact short_zero
  split
  · split <;> exact hg _
  · unfold testV; split; exact short_zero; exact hf _

/-! ### folding -/
def knownE : Ex → Bool
  | .mk op _ _ _ => decide (op = 2)
def isE (yes : Bool) : Ex → Bool
  | .mk op _ v _ => decide (op = 2) && decide (v.k = 1) && ((!decide (v.n = 0)) == yes)
def Ex.val : Ex → Val
  | .mk _ _ v _ => v
def constE (v : Val) : Ex := .mk 2 0 v []
def zeroE : Ex := .mk 0 0 Val.zero []
def foldN : Ex → Ex
  | .mk op n v ar =>
    if ar.length = 0 then .mk op n v ar
    else if ar.all knownE = true then constE (evalE (fun _ => Val.zero) (.mk op n v ar))
    else if op = 19 ∧ ar.any (isE false) = true then constE (num 0)
    else if op = 20 ∧ ar.any (isE true) = true then constE (num 1)
    else if op = 21 ∧ knownE ((ar[0]?).getD zeroE) = true then (if trueV ((ar[0]?).getD zeroE).val = true then (ar[1]?).getD zeroE else (ar[2]?).getD zeroE)
    else .mk op n v ar
def foldM (e : Ex) : Ex := if builtM e = true then mapE foldN e else mapE id e

def nN (op n : Int) : Int := if op = 1 then n else 0
def nV (op : Int) (v : Val) : Val := if op = 1 then Val.zero else if op = 2 then clean v else Val.zero
theorem mapE_mk (g : Ex → Ex) (op n : Int) (v : Val) (ar : List Ex) : mapE g (.mk op n v ar) = g (.mk op (nN op n) (nV op v) (ar.map (mapE g))) := by rw [mapE, mapL_eq]; rfl
theorem nN_nN (op n : Int) : nN op (nN op n) = nN op n := by unfold nN; split <;> rfl
theorem nV_nV (op : Int) (v : Val) : nV op (nV op v) = nV op v := by
  unfold nV
  split
  · rfl
  · split
    · exact clean_clean v
    · rfl
theorem evOp_norm (col : Int → Val) (op n : Int) (v : Val) (l : List Val) : evOp col op (nN op n) (nV op v) l = evOp col op n v l := by
  unfold evOp nN nV
  by_cases h1 : op = 1
  · simp [h1]
  · by_cases h2 : op = 2
    · simp [h2, clean_clean]
    · simp only [h1, h2, if_false]
theorem badE_norm (op n : Int) (v : Val) (k : Nat) : badE op (nN op n) (nV op v) k = badE op n v k := by
  unfold badE nN nV
  by_cases h1 : op = 1
  · subst h1; simp
  · by_cases h2 : op = 2
    · subst h2
      by_cases hk : v.k = 2
      · simp [clean, hk]
      · by_cases hk1 : v.k = 1
        · simp [clean, hk1]
        · simp [clean, hk, hk1, Val.zero]
    · simp [h1, h2]

theorem arity_len {op : Int} {ar : List Ex} (h : arityE op = (ar.length : Int)) (h0 : ¬ ar.length = 0) : ¬ op = 1 ∧ ¬ op = 2 := by
  constructor
  · rintro rfl; simp [arityE] at h; omega
  · rintro rfl; simp [arityE] at h; omega
theorem known_ev (col col' : Int → Val) {a : Ex} (h : knownE a = true) : evalE col a = evalE col' a := by
  obtain ⟨op, n, v, ar⟩ := a
  simp only [knownE, decide_eq_true_eq] at h
  subst h
  rw [evalE, evalE]; simp [evOp]
theorem evOp_col (col col' : Int → Val) {op : Int} (h : ¬ op = 1) (n : Int) (v : Val) (l : List Val) : evOp col op n v l = evOp col' op n v l := by
  unfold evOp; simp only [h, if_false]
theorem evalL_known (col col' : Int → Val) {ar : List Ex} (h : ar.all knownE = true) : evalL col ar = evalL col' ar := by
  rw [evalL_eq, evalL_eq]
  exact List.map_congr_left fun a ha => known_ev col col' (List.all_eq_true.1 h a ha)
theorem isE_ev (col : Int → Val) (b : Bool) {a : Ex} (h : isE b a = true) : isT (evalE col a) b = true := by
  obtain ⟨op, n, v, ar⟩ := a
  simp only [isE, Bool.and_eq_true, decide_eq_true_eq] at h
  obtain ⟨⟨rfl, hk⟩, hn⟩ := h
  rw [evalE]
  simp only [evOp]
  simp [isT, clean, hk]
  simpa using hn
theorem foldN_ev {col : Int → Val} {op n : Int} {v : Val} {ar : List Ex} (ha : arityE op = (ar.length : Int)) : evalE col (foldN (.mk op n v ar)) = evalE col (.mk op n v ar) := by
  rw [foldN]
  split
  · rfl
  rename_i h0
  obtain ⟨n1, n2⟩ := arity_len ha h0
  split
  · rename_i hk
    have hc : cleanV (evalE (fun _ => Val.zero) (.mk op n v ar)) := clean_ev (fun _ => clean_zero) _
    have e : evalE col (constE (evalE (fun _ => Val.zero) (.mk op n v ar))) = clean (evalE (fun _ => Val.zero) (.mk op n v ar)) := by
      rw [constE, evalE]; simp [evOp]
    rw [e, hc]
    rw [evalE, evalE, evalL_known col (fun _ => Val.zero) hk]
    exact evOp_col _ _ n1 _ _ _
  split
  · rename_i hb
    obtain ⟨rfl, hb⟩ := hb
    have hl : ar.length = 2 := by simp [arityE] at ha; omega
    match ar, hl with
    | [a, b], _ =>
      rw [constE, evalE, evalE]
      simp only [List.any_cons, List.any_nil, Bool.or_false, Bool.or_eq_true] at hb
      have : isT (evalE col a) false = true ∨ isT (evalE col b) false = true := hb.imp (isE_ev col false) (isE_ev col false)
      simp [evOp, evalL, both, this, clean, num, flag]
  split
  · rename_i hb
    obtain ⟨rfl, hb⟩ := hb
    have hl : ar.length = 2 := by simp [arityE] at ha; omega
    match ar, hl with
    | [a, b], _ =>
      rw [constE, evalE, evalE]
      simp only [List.any_cons, List.any_nil, Bool.or_false, Bool.or_eq_true] at hb
      have : isT (evalE col a) true = true ∨ isT (evalE col b) true = true := hb.imp (isE_ev col true) (isE_ev col true)
      simp [evOp, evalL, both, this, clean, num, flag]
  split
  · rename_i hb
    obtain ⟨rfl, hb⟩ := hb
    have hl : ar.length = 3 := by simp [arityE] at ha; omega
    match ar, hl with
    | [a, b, c], _ =>
      obtain ⟨o', n', v', ar'⟩ := a
      simp only [List.getElem?_cons_zero, Option.getD_some, knownE, decide_eq_true_eq] at hb
      subst hb
      simp only [List.getElem?_cons_zero, List.getElem?_cons_succ, Option.getD_some, Ex.val]
      have e : evalE col (.mk 2 n' v' ar') = clean v' := by rw [evalE]; simp [evOp]
      have e2 : evalE col (.mk 21 n v [.mk 2 n' v' ar', b, c]) = if trueV (clean v') = true then evalE col b else evalE col c := by
        rw [evalE]; simp [evOp, evalL, e]
      rw [e2, true_clean]
      split <;> rename_i hh <;> simp [hh]
  · rfl

mutual
theorem fold_ev (col : Int → Val) : ∀ e : Ex, goodE e = true → evalE col (mapE foldN e) = evalE col e
  | .mk op n v ar, hg => by
    simp only [goodE, Bool.and_eq_true, Bool.not_eq_true'] at hg
    rw [mapE_mk, foldN_ev (by rw [List.length_map]; exact badE_arity hg.1), evalE, evalE, evOp_norm]
    have : evalL col (ar.map (mapE foldN)) = evalL col ar := by rw [← mapL_eq]; exact fold_evL col ar hg.2
    rw [this]
theorem fold_evL (col : Int → Val) : ∀ l : List Ex, goodL l = true → evalL col (mapL foldN l) = evalL col l
  | [], _ => rfl
  | e :: r, hg => by
    simp only [goodL, Bool.and_eq_true] at hg
    rw [mapL, evalL, evalL, fold_ev col e hg.1, fold_evL col r hg.2]
end

/-- What a node becomes is good, no larger, no higher. -/
theorem mem_sz {l : List Ex} {e : Ex} (h : e ∈ l) : e.ht ≤ htL l ∧ e.sz ≤ szL l := by
  refine ⟨?_, sz_mem h⟩
  induction l with
  | nil => simp at h
  | cons a r ih =>
    simp only [htL]
    rcases List.mem_cons.1 h with g | g
    · subst g; omega
    · have := ih g; omega
theorem getD_mem {l : List Ex} {i : Nat} (h : i < l.length) : (l[i]?).getD zeroE ∈ l := by
  rw [List.getElem?_eq_getElem h]; exact List.getElem_mem h
theorem const_good {v : Val} (h : shortV v) : goodE (constE v) = true := by
  have : ¬ (v.k = 2 ∧ (1000 : Int) < (v.s.size : Int)) := fun ⟨a, b⟩ => by have := h a; omega
  simp only [constE, goodE, goodL, badE, arityE]
  simp
  first
    | done
    | (intro a
       have := h a
       omega)
    | (have := h
       unfold shortV at this
       omega)
theorem short_known {a : Ex} (hg : goodE a = true) (hk : knownE a = true) (col : Int → Val) : shortV (evalE col a) := by
  obtain ⟨op, n, v, ar⟩ := a
  simp only [knownE, decide_eq_true_eq] at hk
  subst hk
  simp only [goodE, Bool.and_eq_true, Bool.not_eq_true'] at hg
  have hb := hg.1
  simp only [badE, Bool.or_eq_false_iff, Bool.and_eq_false_iff, decide_eq_false_iff_not] at hb
  rw [evalE]
  simp only [evOp]
  intro hk
  have : v.k = 2 ∧ (clean v).s = v.s := by
    have hk' : (clean v).k = 2 := by simpa using hk
    unfold clean at hk' ⊢
    by_cases h1 : v.k = 1
    · simp [h1] at hk'
    · by_cases h2 : v.k = 2
      · simp [h2]
      · simp [h1, h2, Val.zero] at hk'
  simp only [show ¬ (2 : Int) = 1 by omega, if_false, if_true, this.2]
  have h3 := hb.2
  simp only [this.1, not_true, false_or] at h3
  omega
theorem foldN_less {op n : Int} {v : Val} {ar : List Ex} (hb : badE op n v ar.length = false) (hg : goodL ar = true) : goodE (foldN (.mk op n v ar)) = true ∧ (foldN (.mk op n v ar)).sz ≤ szL ar + 1 ∧ (foldN (.mk op n v ar)).ht ≤ htL ar + 1 := by
  have ha := badE_arity hb
  have self : goodE (.mk op n v ar) = true ∧ (Ex.mk op n v ar).sz ≤ szL ar + 1 ∧ (Ex.mk op n v ar).ht ≤ htL ar + 1 := by
    simp [goodE, hb, hg, Ex.sz, Ex.ht]
  have con : ∀ v, shortV v → goodE (constE v) = true ∧ (constE v).sz ≤ szL ar + 1 ∧ (constE v).ht ≤ htL ar + 1 := fun v h => ⟨const_good h, by simp [constE, Ex.sz, szL], by simp [constE, Ex.ht, htL]⟩
  have mem : ∀ i, i < ar.length → goodE ((ar[i]?).getD zeroE) = true ∧ ((ar[i]?).getD zeroE).sz ≤ szL ar + 1 ∧ ((ar[i]?).getD zeroE).ht ≤ htL ar + 1 := fun i hi => by
    have hm := getD_mem hi
    have := mem_sz hm
    rw [goodL_all] at hg
    exact ⟨List.all_eq_true.1 hg _ hm, by omega, by omega⟩
  rw [foldN]
  split
  · exact self
  rename_i h0
  obtain ⟨n1, n2⟩ := arity_len ha h0
  split
  · rename_i hk
    refine con _ ?_
    rw [evalE]
    refine short_evOp (fun _ => short_zero) op n v (fun h => absurd h n2) fun x hx => ?_
    rw [evalL_eq, List.mem_map] at hx
    obtain ⟨a, ha', rfl⟩ := hx
    rw [goodL_all] at hg
    exact short_known (List.all_eq_true.1 hg a ha') (List.all_eq_true.1 hk a ha') _
  split
  · exact con _ (short_num _)
  split
  · exact con _ (short_num _)
  split
  · rename_i hi
    obtain ⟨rfl, _⟩ := hi
    have hl : ar.length = 3 := by simp [arityE] at ha; omega
    split
    · exact mem 1 (by omega)
    · exact mem 2 (by omega)
  · exact self
mutual
theorem fold_less : ∀ e : Ex, goodE e = true → goodE (mapE foldN e) = true ∧ (mapE foldN e).sz ≤ e.sz ∧ (mapE foldN e).ht ≤ e.ht
  | .mk op n v ar, hg => by
    simp only [goodE, Bool.and_eq_true, Bool.not_eq_true'] at hg
    rw [mapE_mk, ← mapL_eq]
    obtain ⟨i1, i2, i3⟩ := fold_lessL ar hg.2
    have := foldN_less (op := op) (n := nN op n) (v := nV op v) (ar := mapL foldN ar) (by rw [badE_norm, mapL_eq, List.length_map]; exact hg.1) i1
    simp only [Ex.sz, Ex.ht]
    exact ⟨this.1, by omega, by omega⟩
theorem fold_lessL : ∀ l : List Ex, goodL l = true → goodL (mapL foldN l) = true ∧ szL (mapL foldN l) ≤ szL l ∧ htL (mapL foldN l) ≤ htL l
  | [], _ => ⟨rfl, Nat.le_refl _, Nat.le_refl _⟩
  | e :: r, hg => by
    simp only [goodL, Bool.and_eq_true] at hg
    obtain ⟨a1, a2, a3⟩ := fold_less e hg.1
    obtain ⟨b1, b2, b3⟩ := fold_lessL r hg.2
    simp only [mapL, goodL, szL, htL, a1, b1]
    exact ⟨rfl, by omega, by omega⟩
end

/-- Nothing is left to fold. -/
theorem fix_const {v : Val} (h : cleanV v) : mapE foldN (constE v) = constE v := by
  rw [constE, mapE_mk]
  simp [foldN, nN, nV]
  exact h
theorem foldN_fix {op n : Int} {v : Val} {ar : List Ex} (hb : badE op n v ar.length = false) (hn : nN op n = n) (hv : nV op v = v) (hf : ∀ a, a ∈ ar → mapE foldN a = a) : mapE foldN (foldN (.mk op n v ar)) = foldN (.mk op n v ar) := by
  have ha := badE_arity hb
  have hm : ar.map (mapE foldN) = ar := by rw [List.map_congr_left hf]; simp
  obtain ⟨q, hq⟩ : ∃ q, foldN (.mk op n v ar) = q := ⟨_, rfl⟩
  rw [hq]
  rw [foldN] at hq
  split at hq
  · rename_i h0
    subst hq
    rw [mapE_mk, hm, hn, hv]; rw [foldN]; rw [if_pos h0]
  rename_i h0
  split at hq
  · subst hq; exact fix_const (clean_ev (fun _ => clean_zero) _)
  rename_i h1
  split at hq
  · subst hq; exact fix_const (clean_num _)
  rename_i h2
  split at hq
  · subst hq; exact fix_const (clean_num _)
  rename_i h3
  split at hq
  · rename_i h4
    obtain ⟨rfl, _⟩ := h4
    have hl : ar.length = 3 := by simp [arityE] at ha; omega
    split at hq
    · subst hq; exact hf _ (getD_mem (by omega))
    · subst hq; exact hf _ (getD_mem (by omega))
  · rename_i h4
    subst hq
    rw [mapE_mk, hm, hn, hv]; rw [foldN]
    rw [if_neg h0, if_neg h1, if_neg h2, if_neg h3, if_neg h4]
mutual
theorem fold_fix : ∀ e : Ex, goodE e = true → mapE foldN (mapE foldN e) = mapE foldN e
  | .mk op n v ar, hg => by
    simp only [goodE, Bool.and_eq_true, Bool.not_eq_true'] at hg
    rw [mapE_mk]
    refine foldN_fix (by rw [badE_norm, List.length_map]; exact hg.1) (nN_nN _ _) (nV_nV _ _) fun a ha => ?_
    rw [← mapL_eq] at ha
    exact fold_fixL ar hg.2 a ha
theorem fold_fixL : ∀ l : List Ex, goodL l = true → ∀ a, a ∈ mapL foldN l → mapE foldN a = a
  | [], _, a, h => by simp [mapL] at h
  | e :: r, hg, a, h => by
    simp only [goodL, Bool.and_eq_true] at hg
    simp only [mapL, List.mem_cons] at h
    rcases h with h | h
    · rw [h]; exact fold_fix e hg.1
    · exact fold_fixL r hg.2 a h
end
theorem good_of_built {e : Ex} (h : builtM e = true) : goodE e = true := ((built_eq e).1 h).1
theorem fold_built {e : Ex} (h : builtM e = true) : builtM (mapE foldN e) = true := by
  obtain ⟨h1, h2, h3⟩ := (built_eq e).1 h
  obtain ⟨g1, g2, g3⟩ := fold_less e h1
  exact (built_eq _).2 ⟨g1, by omega, by omega⟩

/-- THE LAW of folding. -/
theorem fold_law (col : Int → Val) (e : Ex) : evalM col (foldM e) = evalM col e ∧ (sizeM (foldM e)).1 ≤ (sizeM e).1 ∧ (sizeM (foldM e)).2 ≤ (sizeM e).2 ∧ (sizeM (foldM (foldM e))).1 = (sizeM (foldM e)).1 ∧ evalM col (foldM (foldM e)) = evalM col e := by
  cases hb : builtM e with
  | true =>
    have e1 : foldM e = mapE foldN e := by simp [foldM, hb]
    have hf := fold_built hb
    have e2 : foldM (foldM e) = foldM e := by rw [e1]; simp [foldM, hf]; exact fold_fix e (good_of_built hb)
    have ev : evalM col (foldM e) = evalM col e := by
      rw [e1]; simp only [evalM, hf, hb, if_true]; exact fold_ev col e (good_of_built hb)
    have hl := fold_less e (good_of_built hb)
    rw [e2]
    refine ⟨ev, ?_, ?_, rfl, ev⟩
    · rw [e1, size_eq hf, size_eq hb]; simp only; omega
    · rw [e1, size_eq hf, size_eq hb]; simp only; omega
  | false =>
    have e1 : foldM e = mapE id e := by simp [foldM, hb]
    have hc : builtM (foldM e) = false := by rw [e1, built_copy, hb]
    have e2 : foldM (foldM e) = mapE id (foldM e) := by unfold foldM; rw [if_neg]; unfold foldM at hc; rw [hc]; decide
    have hc2 : builtM (foldM (foldM e)) = false := by rw [e2, built_copy, hc]
    refine ⟨by simp [evalM, hc, hb], ?_, ?_, ?_, by simp [evalM, hc2, hb]⟩
    · rw [size_not hc, size_not hb]; simp
    · rw [size_not hc, size_not hb]; simp
    · rw [size_not hc2, size_not hc]
end Go.Proofs.Ytnhmnfokbinplaa
