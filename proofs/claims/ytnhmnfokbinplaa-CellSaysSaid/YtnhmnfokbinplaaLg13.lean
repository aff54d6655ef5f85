/- tallyref: values: all that CellSays asks. Own work; no condition. -/
import Derived.Test.YtnhmnfokbinplaaLg12
import Derived.Test.YtnhmnfokbinplaaCmp2
namespace Go.Proofs.Ytnhmnfokbinplaa
open Go Go.RowKit
set_option maxRecDepth 100000
set_option linter.unusedSimpArgs false
set_option linter.unusedVariables false

def strV (s : ByteArray) : Val := ⟨2, 0, s⟩
theorem str_l (s : ByteArray) : PCall Try.prog 95 [.str s] fun r => r = [(strV s).enc] := by
  refine PCall.x (nt := 5) (res := [.cell 2 25]) mixed tt_ok [] Try.func95 rfl rfl rfl c95 (Nat.le_of_ble_eq_true rfl) ?_
  intro cp cc lp Q' hcp hcc hlp hQ
  repeat' (first
    | (with_reducible refine Nm.mk ?_; intro z hz)
    | (with_reducible refine IfB.mk ?_ ?_ <;> (intro h; cases h))
    | (with_reducible refine Asm.mk ?_ ?_; focus (first | kernel_rfl | decide))
    | (with_reducible refine Asm.mk2 ?_ ?_)
    | ((fail_if_success (with_reducible refine hQ _ ?_)); (fail_if_success (with_reducible refine Side.mk ?_)); (fail_if_success (with_reducible refine isCP hcp ?_)); (fail_if_success (with_reducible refine isCC hcc ?_)); (fail_if_success (with_reducible refine isLP hlp ?_)); (fail_if_success (with_reducible refine Ix.mk ?_)); (fail_if_success (with_reducible refine SIx.mk ?_)); (fail_if_success (with_reducible refine SEx.mk ?_)); (fail_if_success (with_reducible refine EIx.mk ?_)); (fail_if_success (with_reducible show False)); (fail_if_success (with_reducible refine hR ?_ _ ?_ ?_ ?_ ?_ ?_)); (fail_if_success (with_reducible refine hR2 ?_ _ ?_ ?_ ?_ ?_ ?_)); cbv))
  all_goals (refine hQ _ ?_; clear hQ hcp hcc hlp; subst_vars; simp_all [strV, Val.enc])
theorem clean_l (k n : Int) (s : ByteArray) : PCall Try.prog 49 [.agg [.int .i64 k, .int .i64 n, .str s]] fun r => r = [(clean ⟨k, n, s⟩).enc] := by
  refine PCall.x (nt := 16) (res := [.cell 2 25]) mixed tt_ok [] Try.func49 rfl rfl rfl c49 (Nat.le_of_ble_eq_true rfl) ?_
  intro cp cc lp Q' hcp hcc hlp hQ
  repeat' (first
    | (with_reducible refine Nm.mk ?_; intro z hz)
    | (with_reducible refine IfB.mk ?_ ?_ <;> (intro h; cases h))
    | (with_reducible refine Asm.mk ?_ ?_; focus (first | kernel_rfl | decide))
    | (with_reducible refine isCP hcp ?_; first | (refine vP hcp (num_l _) ?_; intro v hv) | (refine vP hcp (str_l _) ?_; intro v hv) | (refine vP hcp (none_l) ?_; intro v hv))
    | (with_reducible refine isCC hcc ?_; first | (refine vA hcc (num_l _) rfl ?_; intro v hv) | (refine vA hcc (str_l _) rfl ?_; intro v hv) | (refine vA hcc (none_l) rfl ?_; intro v hv))
    | (with_reducible refine Asm.mk2 ?_ ?_)
    | ((fail_if_success (with_reducible refine hQ _ ?_)); (fail_if_success (with_reducible refine Side.mk ?_)); (fail_if_success (with_reducible refine isCP hcp ?_)); (fail_if_success (with_reducible refine isCC hcc ?_)); (fail_if_success (with_reducible refine isLP hlp ?_)); (fail_if_success (with_reducible refine Ix.mk ?_)); (fail_if_success (with_reducible refine SIx.mk ?_)); (fail_if_success (with_reducible refine SEx.mk ?_)); (fail_if_success (with_reducible refine EIx.mk ?_)); (fail_if_success (with_reducible show False)); (fail_if_success (with_reducible refine hR ?_ _ ?_ ?_ ?_ ?_ ?_)); (fail_if_success (with_reducible refine hR2 ?_ _ ?_ ?_ ?_ ?_ ?_)); cbv))
  all_goals (refine hQ _ ?_; clear hQ hcp hcc hlp; subst_vars; simp_all [clean, num, strV, Val.enc, Val.zero])
theorem truth_l (b : Bool) : PCall Try.prog 102 [.bool b] fun r => r = [(flag b).enc] := by
  have h1 := num_l 1
  have h0 := num_l 0
  refine PCall.x (nt := 6) (res := [.cell 2 25]) mixed tt_ok [] Try.func102 rfl rfl rfl c102 (Nat.le_of_ble_eq_true rfl) ?_
  intro cp cc lp Q' hcp hcc hlp hQ
  repeat' (first
    | (with_reducible refine Nm.mk ?_; intro z hz)
    | (with_reducible refine IfB.mk ?_ ?_ <;> (intro h; cases h))
    | (with_reducible refine Asm.mk ?_ ?_; focus (first | kernel_rfl | decide))
    | (with_reducible refine isCP hcp ?_; first | (refine vP hcp (h1) ?_; intro v hv) | (refine vP hcp (h0) ?_; intro v hv))
    | (with_reducible refine isCC hcc ?_; first | (refine vA hcc (h1) rfl ?_; intro v hv) | (refine vA hcc (h0) rfl ?_; intro v hv))
    | (with_reducible refine Asm.mk2 ?_ ?_)
    | ((fail_if_success (with_reducible refine hQ _ ?_)); (fail_if_success (with_reducible refine Side.mk ?_)); (fail_if_success (with_reducible refine isCP hcp ?_)); (fail_if_success (with_reducible refine isCC hcc ?_)); (fail_if_success (with_reducible refine isLP hlp ?_)); (fail_if_success (with_reducible refine Ix.mk ?_)); (fail_if_success (with_reducible refine SIx.mk ?_)); (fail_if_success (with_reducible refine SEx.mk ?_)); (fail_if_success (with_reducible refine EIx.mk ?_)); (fail_if_success (with_reducible show False)); (fail_if_success (with_reducible refine hR ?_ _ ?_ ?_ ?_ ?_ ?_)); (fail_if_success (with_reducible refine hR2 ?_ _ ?_ ?_ ?_ ?_ ?_)); cbv))
  all_goals (refine hQ _ ?_; clear hQ hcp hcc hlp h1 h0; subst_vars; rfl)
theorem rtrue_l (k n : Int) (s : ByteArray) : PCall Try.prog 58 [.agg [.int .i64 k, .int .i64 n, .str s]] fun r => r = [.bool (trueV ⟨k, n, s⟩)] := by
  refine PCall.x (nt := 11) (res := [.tmp 2]) mixed tt_ok [] Try.func58 rfl rfl rfl c58 (Nat.le_of_ble_eq_true rfl) ?_
  intro cp cc lp Q' hcp hcc hlp hQ
  repeat' (first
    | (with_reducible refine Nm.mk ?_; intro z hz)
    | (with_reducible refine IfB.mk ?_ ?_ <;> (intro h; cases h))
    | (with_reducible refine Asm.mk ?_ ?_; focus (first | kernel_rfl | decide))
    | (with_reducible refine Asm.mk2 ?_ ?_)
    | ((fail_if_success (with_reducible refine hQ _ ?_)); (fail_if_success (with_reducible refine Side.mk ?_)); (fail_if_success (with_reducible refine isCP hcp ?_)); (fail_if_success (with_reducible refine isCC hcc ?_)); (fail_if_success (with_reducible refine isLP hlp ?_)); (fail_if_success (with_reducible refine Ix.mk ?_)); (fail_if_success (with_reducible refine SIx.mk ?_)); (fail_if_success (with_reducible refine SEx.mk ?_)); (fail_if_success (with_reducible refine EIx.mk ?_)); (fail_if_success (with_reducible show False)); (fail_if_success (with_reducible refine hR ?_ _ ?_ ?_ ?_ ?_ ?_)); (fail_if_success (with_reducible refine hR2 ?_ _ ?_ ?_ ?_ ?_ ?_)); cbv))
  all_goals (refine hQ _ ?_; clear hQ hcp hcc hlp; subst_vars; simp_all [trueV])
theorem rnot_l (k n : Int) (s : ByteArray) : PCall Try.prog 59 [.agg [.int .i64 k, .int .i64 n, .str s]] fun r => r = [(vnot ⟨k, n, s⟩).enc] := by
  refine PCall.x (nt := 11) (res := [.cell 2 25]) mixed tt_ok [] Try.func59 rfl rfl rfl c59 (Nat.le_of_ble_eq_true rfl) ?_
  intro cp cc lp Q' hcp hcc hlp hQ
  repeat' (first
    | (with_reducible refine Nm.mk ?_; intro z hz)
    | (with_reducible refine IfB.mk ?_ ?_ <;> (intro h; cases h))
    | (with_reducible refine Asm.mk ?_ ?_; focus (first | kernel_rfl | decide))
    | (with_reducible refine isCP hcp ?_; first | (refine vP hcp (none_l) ?_; intro v hv) | (refine vP hcp (truth_l _) ?_; intro v hv))
    | (with_reducible refine isCC hcc ?_; first | (refine vA hcc (none_l) rfl ?_; intro v hv) | (refine vA hcc (truth_l _) rfl ?_; intro v hv))
    | (with_reducible refine Asm.mk2 ?_ ?_)
    | ((fail_if_success (with_reducible refine hQ _ ?_)); (fail_if_success (with_reducible refine Side.mk ?_)); (fail_if_success (with_reducible refine isCP hcp ?_)); (fail_if_success (with_reducible refine isCC hcc ?_)); (fail_if_success (with_reducible refine isLP hlp ?_)); (fail_if_success (with_reducible refine Ix.mk ?_)); (fail_if_success (with_reducible refine SIx.mk ?_)); (fail_if_success (with_reducible refine SEx.mk ?_)); (fail_if_success (with_reducible refine EIx.mk ?_)); (fail_if_success (with_reducible show False)); (fail_if_success (with_reducible refine hR ?_ _ ?_ ?_ ?_ ?_ ?_)); (fail_if_success (with_reducible refine hR2 ?_ _ ?_ ?_ ?_ ?_ ?_)); cbv))
  all_goals (refine hQ _ ?_; clear hQ hcp hcc hlp; subst_vars; simp_all [vnot, Val.enc])
theorem rcat_l (k n : Int) (s : ByteArray) (k' n' : Int) (s' : ByteArray) (h : s.size ≤ 281474976710656) (h' : s'.size ≤ 281474976710656) : PCall Try.prog 56 [.agg [.int .i64 k, .int .i64 n, .str s], .agg [.int .i64 k', .int .i64 n', .str s']] fun r => r = [(catV ⟨k, n, s⟩ ⟨k', n', s'⟩).enc] := by
  have hb : ∀ (k n : Int) (s : ByteArray), s.size ≤ 281474976710656 → (clean ⟨k, n, s⟩).s.size ≤ 281474976710656 := by
    intro k n s h; unfold clean; split
    · show (0 : Nat) ≤ _; omega
    · split
      · exact h
      · show (0 : Nat) ≤ _; omega
  have h1 := hb k n s h
  have h2 := hb k' n' s' h'
  have hcat : catV ⟨k, n, s⟩ ⟨k', n', s'⟩ = catV (clean ⟨k, n, s⟩) (clean ⟨k', n', s'⟩) := by
    unfold catV clean
    by_cases a : k = 2 <;> by_cases b : k' = 2 <;> by_cases a1 : k = 1 <;> by_cases b1 : k' = 1 <;> simp [a, b, a1, b1, Val.zero] <;> omega
  rw [hcat]
  obtain ⟨u, hu⟩ : ∃ u, clean ⟨k, n, s⟩ = u := ⟨_, rfl⟩
  obtain ⟨v, hv⟩ : ∃ u, clean ⟨k', n', s'⟩ = u := ⟨_, rfl⟩
  have c1 := clean_l k n s
  have c2 := clean_l k' n' s'
  rw [hu] at h1 c1 ⊢
  rw [hv] at h2 c2 ⊢
  obtain ⟨uk, un, us⟩ := u
  obtain ⟨vk, vn, vs⟩ := v
  have hmx : ¬ maxI < ((us.size + vs.size : Nat) : Int) := by
    have : maxI = 9223372036854775807 := by decide
    simp only at h1 h2
    omega
  have hw : ∀ a b z : Int, (us.size : Int) = a → (vs.size : Int) = b → IntKind.i64.wrap (a + b) = z → z = us.size + vs.size := by
    intro a b z g1 g2 g3; simp only at h1 h2; rw [wrap_in (by omega)] at g3; omega
  have e1 : ∀ z : Int, z = us.size + vs.size → decide (1000 < z) = true → catV ⟨uk, un, us⟩ ⟨vk, vn, vs⟩ = Val.zero := by
    intro z g h; simp only [decide_eq_true_eq] at h; unfold catV; rw [if_pos]; right; right; show (1000 : Int) < us.size + vs.size; omega
  have e2 : ∀ z : Int, z = us.size + vs.size → decide (1000 < z) = false → uk = 2 → vk = 2 → catV ⟨uk, un, us⟩ ⟨vk, vn, vs⟩ = ⟨2, 0, us ++ vs⟩ := by
    intro z g h a b; simp only [decide_eq_false_iff_not] at h; unfold catV; rw [if_neg]
    simp only [not_or, Decidable.not_not]
    exact ⟨a, b, by omega⟩
  have e3 : ¬ uk = 2 ∨ ¬ vk = 2 → catV ⟨uk, un, us⟩ ⟨vk, vn, vs⟩ = Val.zero := by
    intro h; unfold catV; rw [if_pos]; rcases h with h | h
    · exact .inl h
    · exact .inr (.inl h)
  clear hb hcat hu hv h h'
  simp only [Val.enc] at c1 c2
  refine PCall.x (nt := 34) (res := [.cell 4 25]) mixed tt_ok [] Try.func56 rfl rfl rfl c56 (Nat.le_of_ble_eq_true rfl) ?_
  intro cp cc lp Q' hcp hcc hlp hQ
  repeat' (first
    | (with_reducible refine Nm.mk ?_; intro z hz)
    | (with_reducible refine IfB.mk ?_ ?_ <;> (intro h; cases h))
    | (with_reducible refine Asm.mk ?_ ?_; focus (first | exact hmx | kernel_rfl | decide))
    | (with_reducible refine isCP hcp ?_; first | (refine xP hcp (c1) ?_; skip) | (refine xP hcp (c2) ?_; skip) | (refine vP hcp (none_l) ?_; intro v hv) | (refine vP hcp (str_l _) ?_; intro v hv))
    | (with_reducible refine isCC hcc ?_; first | (refine xA hcc (c1) rfl ?_; skip) | (refine xA hcc (c2) rfl ?_; skip) | (refine vA hcc (none_l) rfl ?_; intro v hv) | (refine vA hcc (str_l _) rfl ?_; intro v hv))
    | (with_reducible refine Asm.mk2 ?_ ?_)
    | ((fail_if_success (with_reducible refine hQ _ ?_)); (fail_if_success (with_reducible refine Side.mk ?_)); (fail_if_success (with_reducible refine isCP hcp ?_)); (fail_if_success (with_reducible refine isCC hcc ?_)); (fail_if_success (with_reducible refine isLP hlp ?_)); (fail_if_success (with_reducible refine Ix.mk ?_)); (fail_if_success (with_reducible refine SIx.mk ?_)); (fail_if_success (with_reducible refine SEx.mk ?_)); (fail_if_success (with_reducible refine EIx.mk ?_)); (fail_if_success (with_reducible show False)); (fail_if_success (with_reducible refine hR ?_ _ ?_ ?_ ?_ ?_ ?_)); (fail_if_success (with_reducible refine hR2 ?_ _ ?_ ?_ ?_ ?_ ?_)); cbv))
  · refine hQ _ ?_
    rw [e3 (.inl (by simpa using hz))]; clear hQ hcp hcc hlp c1 c2; subst_vars; rfl
  · refine hQ _ ?_
    rw [e3 (.inr (by simpa using hz))]; clear hQ hcp hcc hlp c1 c2; subst_vars; rfl
  · refine hQ _ ?_
    have g := hw _ _ _ (show (us.size : Int) = _ by assumption) (show (vs.size : Int) = _ by assumption) (by assumption)
    rw [e1 _ g (by assumption)]; clear hQ hcp hcc hlp c1 c2 hw e1 e2 e3; subst hv; rfl
  · refine hQ _ ?_
    have g := hw _ _ _ (show (us.size : Int) = _ by assumption) (show (vs.size : Int) = _ by assumption) (by assumption)
    have a : uk = 2 := by have h : (!decide (uk = 2)) = false := by assumption
                          simpa using h
    have b : vk = 2 := by have h : (!decide (vk = 2)) = false := by assumption
                          simpa using h
    rw [e2 _ g (by assumption) a b]; clear hQ hcp hcc hlp c1 c2 hw e1 e2 e3; subst hv; subst hz; rfl

theorem less_cmp : ∀ a b : List UInt8, (if (a == b) = true then (0 : Int) else if Op.bytesLess a b = true then -1 else 1) = Lib.compareBytes a b
  | [], [] => by simp [Lib.compareBytes]
  | [], _ :: _ => by simp [Lib.compareBytes, Op.bytesLess]
  | _ :: _, [] => by simp [Lib.compareBytes, Op.bytesLess]
  | x :: a, y :: b => by
    have ih := less_cmp a b
    rw [Lib.compareBytes, ← ih]
    by_cases h1 : x < y
    · have : x ≠ y := by rintro rfl; exact UInt8.lt_irrefl _ h1
      simp [Op.bytesLess, h1, this]
    · by_cases h2 : y < x
      · have : x ≠ y := by rintro rfl; exact UInt8.lt_irrefl _ h2
        simp [Op.bytesLess, h1, h2, this]
      · have : x = y := by
          rw [UInt8.lt_iff_toNat_lt] at h1 h2
          exact UInt8.toNat_inj.1 (by omega)
        subst this
        simp [Op.bytesLess, h1]
theorem cmp_str (a b : ByteArray) : cmpB (sless a b) (sbeq a b) = cmpS a b := by
  unfold cmpS
  rw [← less_cmp]
  unfold cmpB sless sbeq
  rw [ByteArray.toList_eq, ByteArray.toList_eq]
theorem cmpS_self (a : ByteArray) : cmpS a a = 0 := by unfold cmpS; rw [← less_cmp]; simp
theorem cmp_int (a b : Int) : cmpB (decide (a < b)) (decide (a = b)) = cmpI a b := by
  unfold cmpB cmpI
  by_cases h : a = b
  · subst h; simp
  · by_cases g : a < b <;> simp [h, g] <;> omega
theorem cmp_ne {a b : Int} (h : ¬ a = b) : cmpB (decide (a < b)) false = cmpI a b := by
  rw [← cmp_int, decide_eq_false h]
theorem cmpI_ne {a b : Int} (h : ¬ a = b) : ¬ cmpI a b = 0 := by unfold cmpI; split <;> (try split) <;> omega
theorem cmpI_self (a : Int) : cmpI a a = 0 := by unfold cmpI; simp
theorem clean_k1 {v : Val} (h : (clean v).k = 1) : (clean v).s = ⟨#[]⟩ := by
  unfold clean at h ⊢; split at h
  · rename_i g; rw [if_pos g]
  · split at h
    · cases h
    · cases h
theorem clean_k2 {v : Val} (h : ¬ (clean v).k = 1) : (clean v).n = 0 := by
  unfold clean at h ⊢; split at h
  · exact absurd rfl h
  · rename_i g; rw [if_neg g]; split <;> rfl
theorem rorder_l (k n : Int) (s : ByteArray) (k' n' : Int) (s' : ByteArray) : PCall Try.prog 51 [.agg [.int .i64 k, .int .i64 n, .str s], .agg [.int .i64 k', .int .i64 n', .str s']] fun r => r = [.int .i64 (orderV ⟨k, n, s⟩ ⟨k', n', s'⟩)] := by
  have c1 := clean_l k n s
  have c2 := clean_l k' n' s'
  have a1 := @clean_k1 ⟨k, n, s⟩
  have a2 := @clean_k1 ⟨k', n', s'⟩
  have b1 := @clean_k2 ⟨k, n, s⟩
  have b2 := @clean_k2 ⟨k', n', s'⟩
  unfold orderV
  obtain ⟨u, hu⟩ : ∃ u, clean ⟨k, n, s⟩ = u := ⟨_, rfl⟩
  obtain ⟨v, hv⟩ : ∃ u, clean ⟨k', n', s'⟩ = u := ⟨_, rfl⟩
  rw [hu] at c1 a1 b1 ⊢
  rw [hv] at c2 a2 b2 ⊢
  obtain ⟨uk, un, us⟩ := u
  obtain ⟨vk, vn, vs⟩ := v
  simp only [Val.enc] at c1 c2
  simp only at a1 a2 b1 b2 ⊢
  have e1 : (!decide (uk = vk)) = true → cmpB (decide (uk < vk)) false = orI [cmpI uk vk, cmpI un vn, cmpS us vs] := by
    intro h; simp only [Bool.not_eq_true', decide_eq_false_iff_not] at h
    rw [cmp_ne h]; unfold orI; rw [if_neg (cmpI_ne h)]
  have e2 : (!decide (uk = vk)) = false → decide (uk = 1) = true → cmpB (decide (un < vn)) (decide (un = vn)) = orI [cmpI uk vk, cmpI un vn, cmpS us vs] := by
    intro h g; simp only [Bool.not_eq_false', decide_eq_true_eq] at h g
    subst h
    rw [cmp_int, a1 g, a2 g, cmpS_self, cmpI_self]
    simp only [orI, if_true]; split
    · rename_i q; exact q
    · rfl
  have e3 : (!decide (uk = vk)) = false → decide (uk = 1) = false → cmpB (sless us vs) (sbeq us vs) = orI [cmpI uk vk, cmpI un vn, cmpS us vs] := by
    intro h g; simp only [Bool.not_eq_false', decide_eq_true_eq, decide_eq_false_iff_not] at h g
    subst h
    rw [cmp_str, b1 g, b2 g, cmpI_self, cmpI_self]
    simp only [orI, if_true]; split
    · rename_i q; exact q
    · rfl
  obtain ⟨Z, hZ⟩ : ∃ Z, orI [cmpI uk vk, cmpI un vn, cmpS us vs] = Z := ⟨_, rfl⟩
  rw [hZ] at e1 e2 e3 ⊢
  clear hu hv a1 a2 b1 b2 hZ
  refine PCall.x (nt := 45) (res := [.tmp 4]) mixed tt_ok [] Try.func51 rfl rfl rfl c51 (Nat.le_of_ble_eq_true rfl) ?_
  intro cp cc lp Q' hcp hcc hlp hQ
  repeat' (first
    | (with_reducible refine Nm.mk ?_; intro z hz)
    | (with_reducible refine IfB.mk ?_ ?_ <;> (intro h; cases h))
    | (with_reducible refine Asm.mk ?_ ?_; focus (first | kernel_rfl | decide))
    | (with_reducible refine isCP hcp ?_; first | (refine xP hcp (c1) ?_; skip) | (refine xP hcp (c2) ?_; skip) | (refine iP hcp (rcmp_c _ _) ?_; intro z hz))
    | (with_reducible refine isCC hcc ?_; first | (refine xA hcc (c1) rfl ?_; skip) | (refine xA hcc (c2) rfl ?_; skip) | (refine iA hcc (rcmp_c _ _) rfl ?_; intro z hz))
    | (with_reducible refine Asm.mk2 ?_ ?_)
    | ((fail_if_success (with_reducible refine hQ _ ?_)); (fail_if_success (with_reducible refine Side.mk ?_)); (fail_if_success (with_reducible refine isCP hcp ?_)); (fail_if_success (with_reducible refine isCC hcc ?_)); (fail_if_success (with_reducible refine isLP hlp ?_)); (fail_if_success (with_reducible refine Ix.mk ?_)); (fail_if_success (with_reducible refine SIx.mk ?_)); (fail_if_success (with_reducible refine SEx.mk ?_)); (fail_if_success (with_reducible refine EIx.mk ?_)); (fail_if_success (with_reducible show False)); (fail_if_success (with_reducible refine hR ?_ _ ?_ ?_ ?_ ?_ ?_)); (fail_if_success (with_reducible refine hR2 ?_ _ ?_ ?_ ?_ ?_ ?_)); cbv))
  all_goals (refine hQ _ ?_)
  · rw [← e1 (by assumption)]; clear hQ hcp hcc hlp c1 c2 e1 e2 e3; subst_vars; rfl
  · rw [← e2 (by assumption) (by assumption)]; clear hQ hcp hcc hlp c1 c2 e1 e2 e3; subst_vars; rfl
  · rw [← e3 (by assumption) (by assumption)]; clear hQ hcp hcc hlp c1 c2 e1 e2 e3; subst_vars; rfl
theorem rtest_l (op k n : Int) (s : ByteArray) (k' n' : Int) (s' : ByteArray) : PCall Try.prog 53 [.int .i64 op, .agg [.int .i64 k, .int .i64 n, .str s], .agg [.int .i64 k', .int .i64 n', .str s']] fun r => r = [(testV op ⟨k, n, s⟩ ⟨k', n', s'⟩).enc] := by
  have c1 := clean_l k n s
  have c2 := clean_l k' n' s'
  obtain ⟨q, hq⟩ : ∃ q, testV op ⟨k, n, s⟩ ⟨k', n', s'⟩ = q := ⟨_, rfl⟩
  rw [hq]
  unfold testV at hq
  obtain ⟨u, hu⟩ : ∃ u, clean ⟨k, n, s⟩ = u := ⟨_, rfl⟩
  obtain ⟨v, hv⟩ : ∃ u, clean ⟨k', n', s'⟩ = u := ⟨_, rfl⟩
  rw [hu, hv] at hq
  rw [hu] at c1
  rw [hv] at c2
  obtain ⟨uk, un, us⟩ := u
  obtain ⟨vk, vn, vs⟩ := v
  have ho := rorder_l uk un us vk vn vs
  obtain ⟨o, hoo⟩ : ∃ o, orderV ⟨uk, un, us⟩ ⟨vk, vn, vs⟩ = o := ⟨_, rfl⟩
  rw [hoo] at ho hq
  simp only [Val.enc] at c1 c2
  simp only at hq
  clear hu hv hoo
  refine PCall.x (nt := 56) (res := [.cell 6 25]) mixed tt_ok [] Try.func53 rfl rfl rfl c53 (Nat.le_of_ble_eq_true rfl) ?_
  intro cp cc lp Q' hcp hcc hlp hQ
  repeat' (first
    | (with_reducible refine Nm.mk ?_; intro z hz)
    | (with_reducible refine IfB.mk ?_ ?_ <;> (intro h; cases h))
    | (with_reducible refine Asm.mk ?_ ?_; focus (first | kernel_rfl | decide))
    | (with_reducible refine isCP hcp ?_; first | (refine xP hcp (c1) ?_; skip) | (refine xP hcp (c2) ?_; skip) | (refine xP hcp (ho) ?_; skip) | (refine vP hcp (none_l) ?_; intro v hv) | (refine vP hcp (truth_l _) ?_; intro v hv))
    | (with_reducible refine isCC hcc ?_; first | (refine xA hcc (c1) rfl ?_; skip) | (refine xA hcc (c2) rfl ?_; skip) | (refine xA hcc (ho) rfl ?_; skip) | (refine vA hcc (none_l) rfl ?_; intro v hv) | (refine vA hcc (truth_l _) rfl ?_; intro v hv))
    | (with_reducible refine Asm.mk2 ?_ ?_)
    | ((fail_if_success (with_reducible refine hQ _ ?_)); (fail_if_success (with_reducible refine Side.mk ?_)); (fail_if_success (with_reducible refine isCP hcp ?_)); (fail_if_success (with_reducible refine isCC hcc ?_)); (fail_if_success (with_reducible refine isLP hlp ?_)); (fail_if_success (with_reducible refine Ix.mk ?_)); (fail_if_success (with_reducible refine SIx.mk ?_)); (fail_if_success (with_reducible refine SEx.mk ?_)); (fail_if_success (with_reducible refine EIx.mk ?_)); (fail_if_success (with_reducible show False)); (fail_if_success (with_reducible refine hR ?_ _ ?_ ?_ ?_ ?_ ?_)); (fail_if_success (with_reducible refine hR2 ?_ _ ?_ ?_ ?_ ?_ ?_)); cbv))
  all_goals (refine hQ _ ?_; clear hQ hcp hcc hlp c1 c2 ho; rw [← hq]; clear hq)
  all_goals first
    | (have a : uk = 0 := of_decide_eq_true (by assumption)
       rw [if_pos (.inl a), hv]; rfl)
    | (have a : vk = 0 := of_decide_eq_true (by assumption)
       rw [if_pos (.inr (.inl a)), hv]; rfl)
    | (have a : ¬ uk = 0 := of_decide_eq_false (by assumption)
       have b : ¬ vk = 0 := of_decide_eq_false (by assumption)
       first
         | (have c := of_decide_eq_true (show decide (op = _) = true by assumption)
            subst c
            rw [if_neg (by omega)]
            subst_vars
            rfl)
         | (have c1 : ¬ op = 12 := of_decide_eq_false (by assumption)
            have c2 : ¬ op = 13 := of_decide_eq_false (by assumption)
            have c3 : ¬ op = 14 := of_decide_eq_false (by assumption)
            have c4 : ¬ op = 15 := of_decide_eq_false (by assumption)
            have c5 : ¬ op = 16 := of_decide_eq_false (by assumption)
            have c6 : ¬ op = 17 := of_decide_eq_false (by assumption)
            rw [if_pos (by omega), hv]; rfl))
theorem end_l (op k n : Int) (s : ByteArray) : PCall Try.prog 109 [.agg [.int .i64 k, .int .i64 n, .str s], .ip [.int .i64 op]] fun r => r = [.bool (isT ⟨k, n, s⟩ (decide (op = 20)))] := by
  refine PCall.x (nt := 15) (res := [.tmp 3]) mixed tt_ok [] Try.func109 rfl rfl rfl c109 (Nat.le_of_ble_eq_true rfl) ?_
  intro cp cc lp Q' hcp hcc hlp hQ
  repeat' (first
    | (with_reducible refine Nm.mk ?_; intro z hz)
    | (with_reducible refine IfB.mk ?_ ?_ <;> (intro h; cases h))
    | (with_reducible refine Asm.mk ?_ ?_; focus (first | kernel_rfl | decide))
    | (with_reducible refine Asm.mk2 ?_ ?_)
    | ((fail_if_success (with_reducible refine hQ _ ?_)); (fail_if_success (with_reducible refine Side.mk ?_)); (fail_if_success (with_reducible refine isCP hcp ?_)); (fail_if_success (with_reducible refine isCC hcc ?_)); (fail_if_success (with_reducible refine isLP hlp ?_)); (fail_if_success (with_reducible refine Ix.mk ?_)); (fail_if_success (with_reducible refine SIx.mk ?_)); (fail_if_success (with_reducible refine SEx.mk ?_)); (fail_if_success (with_reducible refine EIx.mk ?_)); (fail_if_success (with_reducible show False)); (fail_if_success (with_reducible refine hR ?_ _ ?_ ?_ ?_ ?_ ?_)); (fail_if_success (with_reducible refine hR2 ?_ _ ?_ ?_ ?_ ?_ ?_)); cbv))
  all_goals (refine hQ _ ?_; clear hQ hcp hcc hlp; subst_vars; simp_all [isT])
theorem rboth_l (op k n : Int) (s : ByteArray) (k' n' : Int) (s' : ByteArray) : PCall Try.prog 60 [.int .i64 op, .agg [.int .i64 k, .int .i64 n, .str s], .agg [.int .i64 k', .int .i64 n', .str s']] fun r => r = [(both op ⟨k, n, s⟩ ⟨k', n', s'⟩).enc] := by
  obtain ⟨q, hq⟩ : ∃ q, both op ⟨k, n, s⟩ ⟨k', n', s'⟩ = q := ⟨_, rfl⟩
  rw [hq]
  unfold both at hq
  have h1 := end_l op k n s
  have h2 := end_l op k' n' s'
  refine PCall.x (nt := 42) (res := [.cell 6 25]) mixed tt_ok [(109, [0])] Try.func60 rfl rfl rfl c60 (Nat.le_of_ble_eq_true rfl) ?_
  intro cp cc lp Q' hcp hcc hlp hQ
  repeat' (first
    | (with_reducible refine Nm.mk ?_; intro z hz)
    | (with_reducible refine IfB.mk ?_ ?_ <;> (intro h; cases h))
    | (with_reducible refine Asm.mk ?_ ?_; focus (first | kernel_rfl | decide))
    | (with_reducible refine isCP hcp ?_; first | (refine bP hcp (h1) ?_; intro z hz) | (refine bP hcp (h2) ?_; intro z hz) | (refine vP hcp (none_l) ?_; intro v hv) | (refine vP hcp (truth_l _) ?_; intro v hv))
    | (with_reducible refine isCC hcc ?_; first | (refine bA hcc (h1) rfl ?_; intro z hz) | (refine bA hcc (h2) rfl ?_; intro z hz) | (refine vA hcc (none_l) rfl ?_; intro v hv) | (refine vA hcc (truth_l _) rfl ?_; intro v hv))
    | (with_reducible refine Asm.mk2 ?_ ?_)
    | ((fail_if_success (with_reducible refine hQ _ ?_)); (fail_if_success (with_reducible refine Side.mk ?_)); (fail_if_success (with_reducible refine isCP hcp ?_)); (fail_if_success (with_reducible refine isCC hcc ?_)); (fail_if_success (with_reducible refine isLP hlp ?_)); (fail_if_success (with_reducible refine Ix.mk ?_)); (fail_if_success (with_reducible refine SIx.mk ?_)); (fail_if_success (with_reducible refine SEx.mk ?_)); (fail_if_success (with_reducible refine EIx.mk ?_)); (fail_if_success (with_reducible show False)); (fail_if_success (with_reducible refine hR ?_ _ ?_ ?_ ?_ ?_ ?_)); (fail_if_success (with_reducible refine hR2 ?_ _ ?_ ?_ ?_ ?_ ?_)); cbv))
  all_goals (refine hQ _ ?_; clear hQ hcp hcc hlp h1 h2; rw [← hq]; clear hq)
  all_goals (simp only [] at *)
  all_goals first
    | (have a : op = 19 := by have h : (!decide (op = 19)) = false := by assumption
                              simpa using h
       subst a
       simp_all [Val.enc]; done)
    | (have a : ¬ op = 19 := by have h : (!decide (op = 19)) = true := by assumption
                                simpa using h
       simp_all [Val.enc]; done)
end Go.Proofs.Ytnhmnfokbinplaa
