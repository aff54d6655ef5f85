/- tallyref: Good. Own work; no condition. -/
import Derived.Test.YtnhmnfokbinplaaVec4
namespace Go.Proofs.Ytnhmnfokbinplaa
open Go Go.RowKit
set_option maxRecDepth 100000
set_option linter.unusedSimpArgs false
set_option linter.unusedVariables false

def okV (a : Int) (B : List Bool) (N : List Int) (S : List ByteArray) (i : Nat) : Bool := if a = 1 then okN B N i else okS B S i
theorem goodV_up {a : Int} {B : List Bool} {N : List Int} {S : List ByteArray} (h : (a = 1 ∧ N.length = B.length ∧ S.length = 0) ∨ (a = 2 ∧ S.length = B.length ∧ N.length = 0)) : goodV ⟨a, B, N, S⟩ = allUp (okV a B N S) B.length := by
  rcases h with ⟨rfl, h1, h2⟩ | ⟨rfl, h1, h2⟩
  · have : okV 1 B N S = okN B N := by funext i; simp [okV]
    rw [this]; simp [goodV, h1, h2]
  · have : okV 2 B N S = okS B S := by funext i; simp [okV]
    rw [this]; simp [goodV, h1, h2]

set_option maxHeartbeats 4000000 in
theorem rgood_c (a : Int) (B : List Bool) (N : List Int) (S : List ByteArray) (n1 n2 n3 : List (List PV)) (h1 : B.map boolc = n1) (h2 : N.map i64c = n2) (h3 : S.map strc = n3) :
    PCall Try.prog 34 [.agg [.int .i64 a, .sl n1, .sl n2, .sl n3]] fun r => r = [.bool (goodV ⟨a, B, N, S⟩)] := by
  refine PCall.know c34 fun hkn => ?_
  have k1 : n1.length ≤ maxLen := hkn (.agg [.int .i64 a, .sl n1, .sl n2, .sl n3]) (by simp) (.sl n1) (by simp)
  clear hkn
  rw [maxLen_eq] at k1
  have b1 : n1.length = B.length := by rw [← h1]; simp
  have b2 : n2.length = N.length := by rw [← h2]; simp
  have b3 : n3.length = S.length := by rw [← h3]; simp
  refine PCall.x (nt := 91) (res := [.tmp 2]) mixed tt_ok [] Try.func34 rfl rfl rfl c34 (Nat.le_of_ble_eq_true rfl) ?_
  intro cp cc lp Q' hcp hcc hlp hQ
  repeat' (first
    | (with_reducible refine Nm.mk ?_; intro z hz)
    | (with_reducible refine IfB.mk ?_ ?_ <;> (intro h; cases h))
    | (with_reducible refine Asm.mk ?_ ?_; focus (first | kernel_rfl | decide))
    | (with_reducible refine Asm.mk2 ?_ ?_)
    | ((fail_if_success (with_reducible refine hQ _ ?_)); (fail_if_success (with_reducible refine Side.mk ?_)); (fail_if_success (with_reducible refine isCP hcp ?_)); (fail_if_success (with_reducible refine isCC hcc ?_)); (fail_if_success (with_reducible refine isLP hlp ?_)); (fail_if_success (with_reducible refine Ix.mk ?_)); (fail_if_success (with_reducible refine SIx.mk ?_)); (fail_if_success (with_reducible refine SEx.mk ?_)); (fail_if_success (with_reducible refine EIx.mk ?_)); (fail_if_success (with_reducible refine RIx.mk ?_)); (fail_if_success (with_reducible show False)); (fail_if_success (with_reducible refine hR ?_ _ ?_ ?_ ?_ ?_ ?_)); (fail_if_success (with_reducible refine hR2 ?_ _ ?_ ?_ ?_ ?_ ?_)); cbv))
  all_goals (try simp only [nc] at *)
  all_goals (try simp only [nc'] at *)
  all_goals first
    | (exfalso; clear hQ hcp hcc hlp; subst_vars; simp_all; done)
    | (refine hQ _ ?_; clear hQ hcp hcc hlp; subst_vars; simp_all [goodV, ci, ci0]; done)
    | (refine hQ _ ?_; clear hQ hcp hcc hlp; subst_vars; simp_all [goodV, ci, ci0]; omega)
    | skip
  all_goals (
    have hlen : (a = 1 ∧ N.length = B.length ∧ S.length = 0) ∨ (a = 2 ∧ S.length = B.length ∧ N.length = 0) := by clear hQ hcp hcc hlp; subst_vars; simp_all [ci, ci0]
    refine loopK (ι := Int) mixed tt_ok hcp hcc hlp [1, 39] (fun i => [(40, .p (.int .i64 i))]) (fun i => (0 ≤ i ∧ i ≤ z) ∧ allUp (okV a B N S) i.toNat = true) (fun i => (z - i).toNat) 0 (fun _ => rfl) ⟨by omega, rfl⟩ ⟨rfl, trivial⟩ ?_
    intro R i hi hR
    have hi0 : 0 ≤ i := hi.1.1
    have hi1 : i ≤ z := hi.1.2
    have hup := hi.2
    have hk1 : decide (i < z) = true → i < B.length := by simp only [decide_eq_true_eq]; omega
    have hk2 : decide (i < z) = true → decide (a = 1) = true → i < N.length := by simp only [decide_eq_true_eq]; omega
    have hk3 : decide (i < z) = true → decide (a = 1) = false → i < S.length := by simp only [decide_eq_true_eq, decide_eq_false_iff_not]; omega
    have hk3' : decide (i < z) = true → decide (a = 2) = true → i < S.length := by simp only [decide_eq_true_eq, decide_eq_false_iff_not]; omega
    have hbad : decide (i < z) = true → okV a B N S i.toNat = false → goodV ⟨a, B, N, S⟩ = false := by
      intro h g
      simp only [decide_eq_true_eq] at h
      rw [goodV_up hlen]
      exact allUp_false (by omega) g
    have hgood : decide (i < z) = false → goodV ⟨a, B, N, S⟩ = true := by
      intro h
      simp only [decide_eq_false_iff_not] at h
      rw [goodV_up hlen, ← hup]
      congr 1; omega
    have hst : decide (i < z) = true → okV a B N S i.toNat = true → IntKind.i64.wrap (i + 1) = i + 1 ∧ ((0 ≤ i + 1 ∧ i + 1 ≤ z) ∧ allUp (okV a B N S) (i + 1).toNat = true) ∧ (z - (i + 1)).toNat < (z - i).toNat := by
      intro h g
      simp only [decide_eq_true_eq] at h
      refine ⟨wrap_in (by omega), ⟨by omega, ?_⟩, by omega⟩
      rw [show (i + 1).toNat = i.toNat + 1 by omega]
      exact allUp_succ hup g
    clear hup)
  repeat' (first
    | (with_reducible refine Nm.mk ?_; intro z hz)
    | (with_reducible refine IfB.mk ?_ ?_ <;> (intro h; cases h))
    | (with_reducible refine Asm.mk ?_ ?_; focus kernel_rfl)
    | (with_reducible refine Ix.at_ h1 boolc_len (by decide) hi0 (by assumption) ?_)
    | (with_reducible refine Ix.at_ h3 strc_len (by decide) hi0 (by assumption) ?_)
    | (with_reducible refine Ix.map h1 boolc_len (by decide) hi0 (hk1 (by assumption)) ?_; intro y hy)
    | (with_reducible refine Ix.map h2 i64c_len (by decide) hi0 (hk2 (by assumption) (by assumption)) ?_; intro x hx)
    | (with_reducible refine Ix.map h3 strc_len (by decide) hi0 (hk3' (by assumption) (by assumption)) ?_; intro x hx)
    | (with_reducible refine Asm.mk2 ?_ ?_)
    | ((fail_if_success (with_reducible refine hQ _ ?_)); (fail_if_success (with_reducible refine Side.mk ?_)); (fail_if_success (with_reducible refine isCP hcp ?_)); (fail_if_success (with_reducible refine isCC hcc ?_)); (fail_if_success (with_reducible refine isLP hlp ?_)); (fail_if_success (with_reducible refine Ix.mk ?_)); (fail_if_success (with_reducible refine SIx.mk ?_)); (fail_if_success (with_reducible refine SEx.mk ?_)); (fail_if_success (with_reducible refine EIx.mk ?_)); (fail_if_success (with_reducible refine RIx.mk ?_)); (fail_if_success (with_reducible show False)); (fail_if_success (with_reducible refine hR ?_ _ ?_ ?_ ?_ ?_ ?_)); (fail_if_success (with_reducible refine hR2 ?_ _ ?_ ?_ ?_ ?_ ?_)); cbv))
  all_goals (try simp only [nc] at *)
  all_goals (try simp only [nc'] at *)
  all_goals first
    | (refine hQ _ ?_; rw [hgood (by assumption)]; done)
    | (refine hQ _ ?_
       rw [hbad (by assumption) (by simp only [okV, okN, okS]; clear hQ hcp hcc hlp hR hst hbad hgood hi hk1 hk2 hk3 hk3'; simp_all [sbeq_eq])]; done)
    | (obtain ⟨e1, e2, e3⟩ := hst (by assumption) (by simp only [okV, okN, okS]; clear hQ hcp hcc hlp hR hst hbad hgood hi hk1 hk2 hk3 hk3'; simp_all [sbeq_eq])
       clear hst hbad hgood hk1 hk2 hk3 hk3'
       subst_vars
       exact hR (i + 1) _ e2 e3 ⟨congrArg (fun z => some (AV.p (PV.int IntKind.i64 z))) e1, trivial⟩ ⟨rfl, rfl, trivial⟩ rfl)
    | (exfalso; clear hQ hcp hcc hlp hR hst hbad hgood hi; simp_all; done)
    | skip

end Go.Proofs.Ytnhmnfokbinplaa
