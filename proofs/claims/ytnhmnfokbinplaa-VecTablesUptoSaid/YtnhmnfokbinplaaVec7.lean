/- vec: Values. Own work; no condition. -/
import Derived.Test.YtnhmnfokbinplaaVec6
namespace Go.Proofs.Ytnhmnfokbinplaa
open Go Go.RowKit
set_option maxRecDepth 100000
set_option linter.unusedSimpArgs false
set_option linter.unusedVariables false

def valuesM (v : Vec) : List Val := if goodV v = true then (List.range v.null.length).map (atV v.kind v.null v.ns v.ss) else []

theorem vvalues_c (a : Int) (B : List Bool) (N : List Int) (S : List ByteArray) (n1 n2 n3 : List (List PV)) (h1 : B.map boolc = n1) (h2 : N.map i64c = n2) (h3 : S.map strc = n3) (hsz : B.length ≤ 1048577) :
    PCall Try.prog 40 [.agg [.int .i64 a, .sl n1, .sl n2, .sl n3]] fun r => r = [.sl ((valuesM ⟨a, B, N, S⟩).map Val.cells)] := by
  have b1 : n1.length = B.length := by rw [← h1]; simp
  refine PCall.x (nt := 24) (res := [.tmp 2]) mixed tt_ok [] Try.func40 rfl rfl rfl c40 (Nat.le_of_ble_eq_true rfl) ?_
  intro cp cc lp Q' hcp hcc hlp hQ
  repeat' (first
    | (with_reducible refine Nm.mk ?_; intro z hz)
    | (with_reducible refine IfB.mk ?_ ?_ <;> (intro h; cases h))
    | (with_reducible refine Asm.mk ?_ ?_; focus (first | kernel_rfl | decide | (refine ⟨?_, rfl, ?_, ?_⟩ <;> (clear hQ hcp hcc hlp; simp only [nc] at *; simp only [nc'] at *; (try simp only [maxLen]); omega))))
    | (with_reducible refine isCP hcp ?_; first | (refine bP hcp (good_c a B N S n1 n2 n3 h1 h2 h3) ?_; intro z hz))
    | (with_reducible refine isCC hcc ?_; first | (refine bA hcc (good_c a B N S n1 n2 n3 h1 h2 h3) rfl ?_; intro z hz) | (refine bR hcc (good_c a B N S n1 n2 n3 h1 h2 h3) rfl ?_; intro z hz))
    | (with_reducible refine Asm.mk2 ?_ ?_)
    | ((fail_if_success (with_reducible refine hQ _ ?_)); (fail_if_success (with_reducible refine Side.mk ?_)); (fail_if_success (with_reducible refine isCP hcp ?_)); (fail_if_success (with_reducible refine isCC hcc ?_)); (fail_if_success (with_reducible refine isLP hlp ?_)); (fail_if_success (with_reducible refine Ix.mk ?_)); (fail_if_success (with_reducible refine SIx.mk ?_)); (fail_if_success (with_reducible refine SEx.mk ?_)); (fail_if_success (with_reducible refine EIx.mk ?_)); (fail_if_success (with_reducible refine RIx.mk ?_)); (fail_if_success (with_reducible show False)); (fail_if_success (with_reducible refine hR ?_ _ ?_ ?_ ?_ ?_ ?_)); (fail_if_success (with_reducible refine hR2 ?_ _ ?_ ?_ ?_ ?_ ?_)); cbv))
  all_goals (try simp only [nc] at *)
  all_goals (try simp only [nc'] at *)
  all_goals first
    | (refine hQ _ ?_; clear hQ hcp hcc hlp; simp_all [valuesM]; done)
    | skip
  rename_i g hg0 hg1 zz hzz m hm L hL
  have hg : goodV ⟨a, B, N, S⟩ = true := by clear hQ hcp hcc hlp; simp_all
  have hmB : m = B.length := by omega
  have hzB : z = (B.length : Int) := by omega
  have hLl : L.length = B.length := by rw [← hL, List.length_replicate, hmB]
  clear hg0 hg1 hzz hm hz
  generalize z = zn at *
  have hzN : zn.toNat = B.length ∧ 0 ≤ zn := by omega
  obtain ⟨hzN, hz0⟩ := hzN
  refine loopT (ι := Int × List (List PV)) mixed tt_ok hcp hcc hlp [1, 3, 13] (fun p => [(14, .p (.int .i64 p.1))])
    (fun p => [.cells [.p (.int .i64 a), .p (.sl n1), .p (.sl n2), .p (.sl n3)], .elts p.2 3])
    (fun p => (0 ≤ p.1 ∧ p.1 ≤ zn) ∧ p.2.length = B.length ∧ ∀ j : Nat, j < p.1.toNat → p.2[j]? = some (atV a B N S j).cells) (fun p => (zn - p.1).toNat)
    (0, L) 2 (fun _ => rfl) ⟨⟨by omega, by omega⟩, hLl, fun j hj => by simp at hj⟩ ⟨rfl, trivial⟩ rfl ?_
  rintro R ⟨i, L⟩ ⟨⟨hi0, hi1⟩, hl, hat⟩ hR
  have hi0 : 0 ≤ i := hi0
  have hi1 : i ≤ zn := hi1
  have hl : L.length = B.length := hl
  have hat : ∀ j : Nat, j < i.toNat → L[j]? = some (atV a B N S j).cells := hat
  have hcall : decide (i < zn) = true → PCall Try.prog 89 [.ip [.int .i64 a, .sl n1, .sl n2, .sl n3], .int .i64 i] fun r => r = [(atV a B N S i.toNat).enc] := by
    intro h
    simp only [decide_eq_true_eq] at h
    exact atP_c a B N S n1 n2 n3 h1 h2 h3 i hi0 (by omega) hg
  have him : decide (i < zn) = true → i < (m : Int) := by intro h; simp only [decide_eq_true_eq] at h; omega
  have hiL : decide (i < zn) = true → i.toNat < L.length := by intro h; simp only [decide_eq_true_eq] at h; omega
  have hmL : m = L.length := by omega
  repeat' (first
    | (with_reducible refine Nm.mk ?_; intro z hz)
    | (with_reducible refine IfB.mk ?_ ?_ <;> (intro h; cases h))
    | (with_reducible refine Asm.mk ?_ ?_; focus (first | exact hmL | (refine ⟨hi0, him (by assumption), by decide⟩) | kernel_rfl))
    | (with_reducible refine isCP hcp ?_; first | (refine vP hcp (hcall (by assumption)) ?_; intro v hv))
    | (with_reducible refine isCC hcc ?_; first | (refine vA hcc (hcall (by assumption)) rfl ?_; intro v hv) | (refine vR hcc (hcall (by assumption)) rfl ?_; intro v hv))
    | (with_reducible refine SEx.at_ i.toNat (by assumption) (hiL (by assumption)) rfl ?_; intro L2 hL2)
    | (with_reducible refine Asm.mk2 ?_ ?_)
    | ((fail_if_success (with_reducible refine hQ _ ?_)); (fail_if_success (with_reducible refine Side.mk ?_)); (fail_if_success (with_reducible refine isCP hcp ?_)); (fail_if_success (with_reducible refine isCC hcc ?_)); (fail_if_success (with_reducible refine isLP hlp ?_)); (fail_if_success (with_reducible refine Ix.mk ?_)); (fail_if_success (with_reducible refine SIx.mk ?_)); (fail_if_success (with_reducible refine SEx.mk ?_)); (fail_if_success (with_reducible refine EIx.mk ?_)); (fail_if_success (with_reducible refine RIx.mk ?_)); (fail_if_success (with_reducible show False)); (fail_if_success (with_reducible refine hR ?_ _ ?_ ?_ ?_ ?_ ?_)); (fail_if_success (with_reducible refine hR2 ?_ _ ?_ ?_ ?_ ?_ ?_)); cbv))
  · have hlt : decide (i < zn) = true := by assumption
    simp only [decide_eq_true_eq] at hlt
    have e1 : IntKind.i64.wrap (i + 1) = i + 1 := wrap_in (by omega)
    rw [e1] at hz
    have hv : atV a B N S i.toNat = v := by assumption
    refine hR (i + 1, L2) _ ⟨⟨by show 0 ≤ i + 1; omega, by show i + 1 ≤ zn; omega⟩, by show L2.length = _; rw [← hL2, List.length_set]; exact hl, fun j hj => ?_⟩ (by show (zn - (i + 1)).toNat < (zn - i).toNat; omega) ⟨hz ▸ rfl, trivial⟩ ⟨rfl, rfl, rfl, trivial⟩ rfl
    have hj : j < (i + 1).toNat := hj
    show L2[j]? = _
    rw [← hL2]
    by_cases e : i.toNat = j
    · subst e
      rw [List.getElem?_set_self (hiL (by simp only [decide_eq_true_eq]; exact hlt)), hv]; rfl
    · rw [getElem?_set_ne' e]
      exact hat j (by omega)
  · refine hQ _ ?_
    have hge : decide (i < zn) = false := by assumption
    simp only [decide_eq_false_iff_not] at hge
    have : L = (valuesM ⟨a, B, N, S⟩).map Val.cells := by
      apply List.ext_getElem?
      intro j
      simp only [valuesM, hg, if_true]
      by_cases hj : j < B.length
      · rw [hat j (by omega)]; simp [hj]
      · rw [List.getElem?_eq_none (by omega)]; simp [hj]
    rw [this]

end Go.Proofs.Ytnhmnfokbinplaa
