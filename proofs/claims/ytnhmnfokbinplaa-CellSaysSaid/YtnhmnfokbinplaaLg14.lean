/- tallyref: Reckon; the law CellSays. Own work; no condition. -/
import Derived.Test.YtnhmnfokbinplaaLg13
namespace Go.Proofs.Ytnhmnfokbinplaa
open Go Go.RowKit
set_option maxRecDepth 100000
set_option linter.unusedSimpArgs false
set_option linter.unusedVariables false

abbrev In64 (n : Int) : Prop := -9223372036854775808 ≤ n ∧ n ≤ 9223372036854775807
theorem uabs4 {n : Int} (h : In64 n) : (dig (uabs n)).length ≤ 4 := dig4 (by have := uabs_le h; omega)
theorem clean_in {v : Val} (h : In64 v.n) : In64 (clean v).n := by
  unfold clean; split
  · exact h
  · split
    · show In64 0; decide
    · decide
theorem clean_k0 (v : Val) : (clean v).k = 1 ↔ v.k = 1 := by
  unfold clean; split
  · rename_i h; simp [h]
  · rename_i h; split <;> simp [h, Val.zero]
theorem clean_n {v : Val} (h : v.k = 1) : (clean v).n = v.n := by unfold clean; rw [if_pos h]
theorem reckon_clean (op : Int) (a b : Val) : reckon op (clean a) (clean b) = reckon op a b := by
  unfold reckon
  simp only [clean_k0]
  split
  · rename_i h; rw [clean_n h.1, clean_n h.2]
  · rfl
theorem uabs_small {a b c : Int} (ha : In64 a) (h : uabs c ≤ uabs a + b) (hb : b ≤ 18446744073709551616) : (dig (uabs c)).length ≤ 10 := by
  have := uabs_le ha
  exact Nat.le_trans (dig_len 5 (uabs c) (by omega)) (by decide)
theorem tmod_range {x y : Int} (hx : In64 x) : In64 (x.tmod y) := by
  have h3 : (x.tmod y).natAbs ≤ x.natAbs := by rw [Int.natAbs_tmod]; exact Nat.mod_le _ _
  have h4 : 0 ≤ x → 0 ≤ x.tmod y := fun h => Int.tmod_nonneg _ h
  have h5 : x ≤ 0 → x.tmod y ≤ 0 := fun h => by
    have := Int.tmod_nonneg y (a := -x) (by omega)
    rw [Int.neg_tmod] at this; omega
  generalize x.tmod y = d at *
  omega
theorem uabs_tdiv {x y : Int} (hx : In64 x) : (dig (uabs (x.tdiv y))).length ≤ 10 := by
  have h3 : (x.tdiv y).natAbs ≤ x.natAbs := by rw [Int.natAbs_tdiv]; exact Nat.div_le_self _ _
  have : uabs (x.tdiv y) ≤ 9223372036854775808 := by
    generalize x.tdiv y = d at *
    unfold uabs; split <;> omega
  exact Nat.le_trans (dig_len 4 _ (by omega)) (by decide)

set_option maxHeartbeats 4000000 in
theorem rreckon_l (op k n : Int) (s : ByteArray) (k' n' : Int) (s' : ByteArray) (hn : In64 n) (hn' : In64 n') : PCall Try.prog 54 [.int .i64 op, .agg [.int .i64 k, .int .i64 n, .str s], .agg [.int .i64 k', .int .i64 n', .str s']] fun r => r = [(reckon op ⟨k, n, s⟩ ⟨k', n', s'⟩).enc] := by
  have c1 := clean_l k n s
  have c2 := clean_l k' n' s'
  rw [← reckon_clean]
  have i1 := clean_in (v := ⟨k, n, s⟩) hn
  have i2 := clean_in (v := ⟨k', n', s'⟩) hn'
  obtain ⟨u, hu⟩ : ∃ u, clean ⟨k, n, s⟩ = u := ⟨_, rfl⟩
  obtain ⟨v, hv⟩ : ∃ u, clean ⟨k', n', s'⟩ = u := ⟨_, rfl⟩
  rw [hu] at c1 i1 ⊢
  rw [hv] at c2 i2 ⊢
  clear hu hv hn hn'
  obtain ⟨uk, x, us⟩ := u
  obtain ⟨vk, y, vs⟩ := v
  simp only at i1 i2
  simp only [Val.enc] at c1 c2
  have lx := uabs4 i1
  have ly := uabs4 i2
  have o1 := longOf_c x i1
  have o2 := longOf_c y i2
  have pa := plus_c x y (by omega) (by omega)
  have ps := plus_c x (-y) (by omega) (by have e : uabs (-y) = uabs y := by unfold uabs; split <;> split <;> omega
                                          rw [e]; omega)
  have pm := times_c' x y (by omega) (by omega)
  have va := value_c (x + y) (by
    have := uabs_add x y
    have := uabs_small (a := x) (b := uabs y) (c := x + y) i1 this (by have := uabs_le i2; omega)
    omega)
  have vs' := value_c (x + -y) (by
    have := uabs_add x (-y)
    have e : uabs (-y) = uabs y := by unfold uabs; split <;> split <;> omega
    rw [e] at this
    have := uabs_small (a := x) (b := uabs y) (c := x + -y) i1 this (by have := uabs_le i2; omega)
    omega)
  have vm := value_c (x * y) (by
    have e : uabs (x * y) = uabs x * uabs y := by
      have := sgn_mul x y
      rw [← this]; exact sgn_abs (Int.mul_nonneg (uabs_nn x) (uabs_nn y))
    rw [e]
    have := dig_mul (uabs_nn x) (uabs_nn y)
    omega)
  have vq := value_c (x.tdiv y) (by have := uabs_tdiv (y := y) i1; omega)
  have vr := value_c (x.tmod y) (by have := uabs4 (tmod_range (y := y) i1); omega)
  have tn : PCall Try.prog 106 [.agg [.bool (!decide (y < 0)), .sl (longD y)]] fun r => r = [.agg (longZ (-y))] := by
    have := trim_c (!decide (y < 0)) (dig (uabs y)) (okD_dig _) (longD y) rfl (by omega)
    rw [lval_dig' (uabs_nn y)] at this
    have e : sgn (!decide (y < 0)) (uabs y) = -y := by
      unfold sgn uabs
      by_cases g : y < 0 <;> simp [g]
    rw [e] at this; exact this
  have dv : decide (y = 0) = false → PCall Try.prog 108 [.agg (longZ x), .agg (longZ y)] fun r => r = [.agg (longZ (x.tdiv y)), .agg (longZ (x.tmod y))] := fun h => divided_c x y (of_decide_eq_false h) (by omega) (by omega)
  -- the answers
  have rz : (!decide (uk = 1)) = true ∨ (!decide (vk = 1)) = true → reckon op ⟨uk, x, us⟩ ⟨vk, y, vs⟩ = Val.zero := by
    intro h; unfold reckon; rw [if_neg]
    rintro ⟨a, b⟩
    simp only at a b
    simp [a, b] at h
  have rr : (!decide (uk = 1)) = false → (!decide (vk = 1)) = false → reckon op ⟨uk, x, us⟩ ⟨vk, y, vs⟩ = optNum (reckN op x y) := by
    intro a b; unfold reckon; rw [if_pos]
    simpa using And.intro a b
  have r7 : op = 7 → optNum (in64 (x + y)) = optNum (reckN op x y) := by rintro rfl; rfl
  have r8 : op = 8 → optNum (in64 (x + -y)) = optNum (reckN op x y) := by rintro rfl; rfl
  have r9 : op = 9 → optNum (in64 (x * y)) = optNum (reckN op x y) := by rintro rfl; rfl
  have r10 : op = 10 → ¬ y = 0 → optNum (in64 (x.tdiv y)) = optNum (reckN op x y) := by
    rintro rfl h; unfold reckN; simp [h]
  have r11 : op = 11 → ¬ y = 0 → optNum (in64 (x.tmod y)) = optNum (reckN op x y) := by
    rintro rfl h
    have e : in64 (x.tmod y) = some (x.tmod y) := by unfold in64; rw [if_pos (tmod_range i1)]
    unfold reckN; simp [h, e]
  have r0 : op = 10 ∨ op = 11 → y = 0 → Val.zero = optNum (reckN op x y) := by
    rintro (rfl | rfl) h <;> unfold reckN <;> simp [h, optNum]
  have rn : ¬ op = 7 → ¬ op = 8 → ¬ op = 9 → ¬ op = 10 → ¬ op = 11 → Val.zero = optNum (reckN op x y) := by
    intro a b c d e; unfold reckN; simp [a, b, c, d, e, optNum]
  -- shapes
  unfold longZ at o1 o2 pa ps pm va vs' vm vq vr tn dv
  generalize longD x = X at *
  generalize longD y = Y at *
  generalize longD (x + y) = A at *
  generalize longD (x + -y) = S at *
  generalize longD (-y) = Y' at *
  generalize longD (x * y) = M at *
  generalize longD (x.tdiv y) = D at *
  generalize longD (x.tmod y) = E at *
  generalize decide (x < 0) = bx at *
  generalize decide (y < 0) = by' at *
  generalize decide (x + y < 0) = ba at *
  generalize decide (x + -y < 0) = bs at *
  generalize decide (-y < 0) = bn at *
  generalize decide (x * y < 0) = bm at *
  generalize decide (x.tdiv y < 0) = bd at *
  generalize decide (x.tmod y < 0) = be at *
  have tn' : ∀ z : Bool, (!by') = z → PCall Try.prog 106 [.agg [.bool z, .sl Y]] fun r => r = [.agg [.bool bn, .sl Y']] := by rintro z rfl; exact tn
  clear tn lx ly i1 i2
  refine PCall.x (nt := 74) (res := [.cell 6 25]) mixed tt_ok [] Try.func54 rfl rfl rfl c54 (Nat.le_of_ble_eq_true rfl) ?_
  intro cp cc lp Q' hcp hcc hlp hQ
  repeat' (first
    | (with_reducible refine Nm.mk ?_; intro z hz)
    | (with_reducible refine IfB.mk ?_ ?_ <;> (intro h; cases h))
    | (with_reducible refine Asm.mk ?_ ?_; focus (first | kernel_rfl | decide))
    | (with_reducible refine isCP hcp ?_; first | (refine xP hcp (c1) ?_; skip) | (refine xP hcp (c2) ?_; skip) | (refine vP hcp (none_l) ?_; intro v hv) | (refine xP hcp (o1) ?_; skip) | (refine xP hcp (o2) ?_; skip) | (refine xP hcp (tn' _ (by assumption)) ?_; skip) | (refine xP hcp (pa) ?_; skip) | (refine xP hcp (ps) ?_; skip) | (refine xP hcp (pm) ?_; skip) | (refine vP hcp (va) ?_; intro v hv) | (refine vP hcp (vs') ?_; intro v hv) | (refine vP hcp (vm) ?_; intro v hv) | (refine xP hcp (dv (by assumption)) ?_; skip) | (refine vP hcp (vq) ?_; intro v hv) | (refine vP hcp (vr) ?_; intro v hv))
    | (with_reducible refine isCC hcc ?_; first | (refine xA hcc (c1) rfl ?_; skip) | (refine xA hcc (c2) rfl ?_; skip) | (refine vA hcc (none_l) rfl ?_; intro v hv) | (refine xA hcc (o1) rfl ?_; skip) | (refine xA hcc (o2) rfl ?_; skip) | (refine xA hcc (tn' _ (by assumption)) rfl ?_; skip) | (refine xA hcc (pa) rfl ?_; skip) | (refine xA hcc (ps) rfl ?_; skip) | (refine xA hcc (pm) rfl ?_; skip) | (refine vA hcc (va) rfl ?_; intro v hv) | (refine vA hcc (vs') rfl ?_; intro v hv) | (refine vA hcc (vm) rfl ?_; intro v hv) | (refine xA hcc (dv (by assumption)) rfl ?_; skip) | (refine vA hcc (vq) rfl ?_; intro v hv) | (refine vA hcc (vr) rfl ?_; intro v hv))
    | (with_reducible refine Asm.mk2 ?_ ?_)
    | ((fail_if_success (with_reducible refine hQ _ ?_)); (fail_if_success (with_reducible refine Side.mk ?_)); (fail_if_success (with_reducible refine isCP hcp ?_)); (fail_if_success (with_reducible refine isCC hcc ?_)); (fail_if_success (with_reducible refine isLP hlp ?_)); (fail_if_success (with_reducible refine Ix.mk ?_)); (fail_if_success (with_reducible refine SIx.mk ?_)); (fail_if_success (with_reducible refine SEx.mk ?_)); (fail_if_success (with_reducible refine EIx.mk ?_)); (fail_if_success (with_reducible show False)); (fail_if_success (with_reducible refine hR ?_ _ ?_ ?_ ?_ ?_ ?_)); (fail_if_success (with_reducible refine hR2 ?_ _ ?_ ?_ ?_ ?_ ?_)); cbv))
  all_goals (refine hQ _ ?_; clear hQ hcp hcc hlp c1 c2 o1 o2 pa ps pm va vs' vm dv vq vr tn')
  all_goals first
    | (rw [rz (by first | exact .inl (by assumption) | exact .inr (by assumption))]; rw [hv]; rfl)
    | (rw [rr (by assumption) (by assumption)]
       first
         | (have a : op = 7 := of_decide_eq_true (by assumption)
            rw [← r7 a]; rw [hv]; rfl)
         | (have a : op = 8 := of_decide_eq_true (by assumption)
            rw [← r8 a]; rw [hv]; rfl)
         | (have a : op = 9 := of_decide_eq_true (by assumption)
            rw [← r9 a]; rw [hv]; rfl)
         | (have a : op = 10 ∨ op = 11 := by first | exact .inl (of_decide_eq_true (by assumption)) | exact .inr (of_decide_eq_true (by assumption))
            have b : y = 0 := of_decide_eq_true (by assumption)
            rw [← r0 a b]; rw [hv]; rfl)
         | (have a : op = 10 := of_decide_eq_true (by assumption)
            have b : ¬ y = 0 := of_decide_eq_false (by assumption)
            rw [← r10 a b]; rw [hv]; rfl)
         | (have a : op = 11 := of_decide_eq_true (by assumption)
            have b : ¬ y = 0 := of_decide_eq_false (by assumption)
            rw [← r11 a b]; rw [hv]; rfl)
         | (rw [← rn (of_decide_eq_false (by assumption)) (of_decide_eq_false (by assumption)) (of_decide_eq_false (by assumption)) (of_decide_eq_false (by assumption)) (of_decide_eq_false (by assumption))]; rw [hv]; rfl)
         | exact absurd (of_decide_eq_true (show decide (op = 10) = true by assumption)) (of_decide_eq_false (by assumption)))
theorem both_clean (op : Int) (a b : Val) : both op (clean a) (clean b) = both op a b := by
  have h : ∀ v q, isT (clean v) q = isT v q := by
    intro v q
    unfold isT
    by_cases g : v.k = 1
    · rw [clean_n g]
      have := (clean_k0 v).2 g
      rw [g, this]
    · have g2 : ¬ (clean v).k = 1 := fun e => g ((clean_k0 v).1 e)
      simp [g, g2]
  unfold both
  simp only [h, clean_k0]
theorem true_clean' (v : Val) : trueV (clean v) = trueV v := by
  unfold trueV
  by_cases g : v.k = 1
  · rw [clean_n g, (clean_k0 v).2 g, g]
  · have g2 : ¬ (clean v).k = 1 := fun e => g ((clean_k0 v).1 e)
    simp [g, g2]
theorem not_clean (v : Val) : vnot (clean v) = vnot v := by
  unfold vnot
  simp only [clean_k0]
  split
  · rename_i h; rw [clean_n h]
  · rfl
set_option maxHeartbeats 4000000 in
theorem cellSays_c (op k n : Int) (s : ByteArray) (k' n' : Int) (s' : ByteArray) (hn : In64 n) (hn' : In64 n') (h : s.size ≤ 281474976710656) (h' : s'.size ≤ 281474976710656) :
    PCall Try.prog 10 [.int .i64 op, .agg [.int .i64 k, .int .i64 n, .str s], .agg [.int .i64 k', .int .i64 n', .str s']] fun r => r = [.bool true] := by
  have a1 := clean_c k n s
  have a2 := clean_l k n s
  have a3 := clean_l k' n' s'
  have b1 := order_c k n s k' n' s'
  have b2 := rorder_l k n s k' n' s'
  have t1 := test_c op k n s k' n' s'
  have t2 := rtest_l op k n s k' n' s'
  have r1 := reckon_c op k n s k' n' s' hn hn'
  have r2 := rreckon_l op k n s k' n' s' hn hn'
  have c1 := cat_c k n s k' n' s' h h'
  have c2 := rcat_l k n s k' n' s' h h'
  have u1 := true_c k n s
  have n1 := not_c k n s
  have o1 := both_c op k n s k' n' s'
  have u2 : ∀ v : Val, clean ⟨k, n, s⟩ = v → PCall Try.prog 58 [.agg [.int .i64 v.k, .int .i64 v.n, .str v.s]] fun r => r = [.bool (trueV ⟨k, n, s⟩)] := by
    rintro v rfl; rw [← true_clean' ⟨k, n, s⟩]; exact rtrue_l _ _ _
  have n2 : ∀ v : Val, clean ⟨k, n, s⟩ = v → PCall Try.prog 59 [.agg [.int .i64 v.k, .int .i64 v.n, .str v.s]] fun r => r = [(vnot ⟨k, n, s⟩).enc] := by
    rintro v rfl; rw [← not_clean ⟨k, n, s⟩]; exact rnot_l _ _ _
  have o2 : ∀ v w : Val, clean ⟨k, n, s⟩ = v → clean ⟨k', n', s'⟩ = w → PCall Try.prog 60 [.int .i64 op, .agg [.int .i64 v.k, .int .i64 v.n, .str v.s], .agg [.int .i64 w.k, .int .i64 w.n, .str w.s]] fun r => r = [(both op ⟨k, n, s⟩ ⟨k', n', s'⟩).enc] := by
    rintro v w rfl rfl; rw [← both_clean op ⟨k, n, s⟩ ⟨k', n', s'⟩]; exact rboth_l _ _ _ _ _ _ _
  generalize clean ⟨k, n, s⟩ = C at *
  generalize clean ⟨k', n', s'⟩ = D at *
  generalize orderV ⟨k, n, s⟩ ⟨k', n', s'⟩ = O at *
  generalize testV op ⟨k, n, s⟩ ⟨k', n', s'⟩ = T at *
  generalize reckon op ⟨k, n, s⟩ ⟨k', n', s'⟩ = K at *
  generalize catV ⟨k, n, s⟩ ⟨k', n', s'⟩ = A at *
  generalize trueV ⟨k, n, s⟩ = U at *
  generalize vnot ⟨k, n, s⟩ = V at *
  generalize both op ⟨k, n, s⟩ ⟨k', n', s'⟩ = B at *
  refine PCall.x (nt := 81) (res := [.tmp 6]) mixed tt_ok [] Try.func10 rfl rfl rfl c10 (Nat.le_of_ble_eq_true rfl) ?_
  intro cp cc lp Q' hcp hcc hlp hQ
  repeat' (first
    | (with_reducible refine Nm.mk ?_; intro z hz)
    | (with_reducible refine IfB.mk ?_ ?_ <;> (intro h; cases h))
    | (with_reducible refine Asm.mk ?_ ?_; focus (first | kernel_rfl | decide))
    | (with_reducible refine isCP hcp ?_; first | (refine vP hcp (a1) ?_; intro v hv) | (refine vP hcp (a2) ?_; intro v hv) | (refine vP hcp (a3) ?_; intro v hv) | (refine iP hcp (b1) ?_; intro z hz) | (refine iP hcp (b2) ?_; intro z hz) | (refine vP hcp (t1) ?_; intro v hv) | (refine vP hcp (t2) ?_; intro v hv) | (refine vP hcp (r1) ?_; intro v hv) | (refine vP hcp (r2) ?_; intro v hv) | (refine vP hcp (c1) ?_; intro v hv) | (refine vP hcp (c2) ?_; intro v hv) | (refine bP hcp (u1) ?_; intro z hz) | (refine bP hcp (u2 _ (by assumption)) ?_; intro z hz) | (refine vP hcp (n1) ?_; intro v hv) | (refine vP hcp (n2 _ (by assumption)) ?_; intro v hv) | (refine vP hcp (o1) ?_; intro v hv) | (refine vP hcp (o2 _ _ (by assumption) (by assumption)) ?_; intro v hv))
    | (with_reducible refine isCC hcc ?_; first | (refine vA hcc (a1) rfl ?_; intro v hv) | (refine vA hcc (a2) rfl ?_; intro v hv) | (refine vA hcc (a3) rfl ?_; intro v hv) | (refine iA hcc (b1) rfl ?_; intro z hz) | (refine iA hcc (b2) rfl ?_; intro z hz) | (refine vA hcc (t1) rfl ?_; intro v hv) | (refine vA hcc (t2) rfl ?_; intro v hv) | (refine vA hcc (r1) rfl ?_; intro v hv) | (refine vA hcc (r2) rfl ?_; intro v hv) | (refine vA hcc (c1) rfl ?_; intro v hv) | (refine vA hcc (c2) rfl ?_; intro v hv) | (refine bA hcc (u1) rfl ?_; intro z hz) | (refine bA hcc (u2 _ (by assumption)) rfl ?_; intro z hz) | (refine vA hcc (n1) rfl ?_; intro v hv) | (refine vA hcc (n2 _ (by assumption)) rfl ?_; intro v hv) | (refine vA hcc (o1) rfl ?_; intro v hv) | (refine vA hcc (o2 _ _ (by assumption) (by assumption)) rfl ?_; intro v hv))
    | (with_reducible refine Asm.mk2 ?_ ?_)
    | ((fail_if_success (with_reducible refine hQ _ ?_)); (fail_if_success (with_reducible refine Side.mk ?_)); (fail_if_success (with_reducible refine isCP hcp ?_)); (fail_if_success (with_reducible refine isCC hcc ?_)); (fail_if_success (with_reducible refine isLP hlp ?_)); (fail_if_success (with_reducible refine Ix.mk ?_)); (fail_if_success (with_reducible refine SIx.mk ?_)); (fail_if_success (with_reducible refine SEx.mk ?_)); (fail_if_success (with_reducible refine EIx.mk ?_)); (fail_if_success (with_reducible show False)); (fail_if_success (with_reducible refine hR ?_ _ ?_ ?_ ?_ ?_ ?_)); (fail_if_success (with_reducible refine hR2 ?_ _ ?_ ?_ ?_ ?_ ?_)); cbv))
  all_goals (clear hcp hcc hlp a1 a2 a3 b1 b2 t1 t2 r1 r2 c1 c2 u1 u2 n1 n2 o1 o2)
  all_goals first
    | exact hQ _ rfl
    | (refine hQ _ ?_; clear hQ; subst_vars; simp [eqB_val]; done)
    | (exfalso; clear hQ; subst_vars; simp_all [eqB_val]; done)
theorem cellSays_law {k0 k1 k2 : Nat} {x0 x1 x2 : PV} (f0 : FitsA Try.prog k0 3 x0) (f1 : FitsA Try.prog k1 25 x1) (f2 : FitsA Try.prog k2 25 x2) : PCall Try.prog 10 [x0, x1, x2] fun r => r = [.bool true] := by
  obtain ⟨op, rfl, _⟩ := fits3 f0
  obtain ⟨k, n, s, rfl, _, w1, w2⟩ := fits25 f1
  obtain ⟨k', n', s', rfl, _, w3, w4⟩ := fits25 f2
  have hr : reachBytes = 140737488351232 := by decide
  have wf : ∀ {n : Int}, (Lit.int .i64 n).wf = true → In64 n := by
    intro n h
    have e : (decide (IntKind.i64.min ≤ n) && decide (n ≤ IntKind.i64.max)) = true := h
    rw [show IntKind.i64.min = -9223372036854775808 from by decide, show IntKind.i64.max = 9223372036854775807 from by decide, Bool.and_eq_true, decide_eq_true_eq, decide_eq_true_eq] at e
    exact e
  exact cellSays_c op k n s k' n' s' (wf w1) (wf w3) (by omega) (by omega)
end Go.Proofs.Ytnhmnfokbinplaa
