/- tallyref: Values. Own work; no condition. -/
import Derived.Test.YtnhmnfokbinplaaVec5
import Derived.Test.YtnhmnfokbinplaaVec8
namespace Go.Proofs.Ytnhmnfokbinplaa
open Go Go.RowKit
set_option maxRecDepth 100000
set_option linter.unusedSimpArgs false
set_option linter.unusedVariables false

set_option maxHeartbeats 1000000 in
theorem rvalues_c (a : Int) (B : List Bool) (N : List Int) (S : List ByteArray) (n1 n2 n3 : List (List PV)) (h1 : B.map boolc = n1) (h2 : N.map i64c = n2) (h3 : S.map strc = n3) (hsz : B.length ≤ 1048577) :
    PCall Try.prog 35 [.agg [.int .i64 a, .sl n1, .sl n2, .sl n3]] fun r => r = [.sl ((valuesM ⟨a, B, N, S⟩).map Val.cells)] := by
  have b1 : n1.length = B.length := by rw [← h1]; simp
  refine PCall.x (nt := 49) (res := [.tmp 2]) mixed tt_ok [] Try.func35 rfl rfl rfl c35 (Nat.le_of_ble_eq_true rfl) ?_
  intro cp cc lp Q' hcp hcc hlp hQ
  repeat' (first
    | (with_reducible refine Nm.mk ?_; intro z hz)
    | (with_reducible refine IfB.mk ?_ ?_ <;> (intro h; cases h))
    | (with_reducible refine Asm.mk ?_ ?_; focus (first | kernel_rfl | decide))
    | (with_reducible refine Asm.mk2 ?_ ?_)
    | ((fail_if_success (with_reducible refine hQ _ ?_)); (fail_if_success (with_reducible refine Side.mk ?_)); (fail_if_success (with_reducible refine isCP hcp ?_)); (fail_if_success (with_reducible refine isCC hcc ?_)); (fail_if_success (with_reducible refine isLP hlp ?_)); (fail_if_success (with_reducible refine Ix.mk ?_)); (fail_if_success (with_reducible refine SIx.mk ?_)); (fail_if_success (with_reducible refine SEx.mk ?_)); (fail_if_success (with_reducible refine EIx.mk ?_)); (fail_if_success (with_reducible refine RIx.mk ?_)); (fail_if_success (with_reducible show False)); (fail_if_success (with_reducible refine hR ?_ _ ?_ ?_ ?_ ?_ ?_)); (fail_if_success (with_reducible refine hR2 ?_ _ ?_ ?_ ?_ ?_ ?_)); cbv))
  refine mintT hlp 3 3 rfl ?_
  refine loopT (ι := Int × List (List PV) × Nat) mixed tt_ok hcp hcc hlp [1] (fun p => [(3, .tok 1 p.2.1), (4, .p (.int .i64 p.1))])
    (fun p => [.cells [.p (.int .i64 a), .p (.sl n1), .p (.sl n2), .p (.sl n3)], .spare p.2.2 3])
    (fun p => 0 ≤ p.1 ∧ p.1.toNat ≤ B.length ∧ (goodV ⟨a, B, N, S⟩ = false → p.1.toNat = 0) ∧ (List.range p.1.toNat).map (fun j => (atV a B N S j).cells) = p.2.1 ∧ p.2.1.length = p.2.2) (fun p => B.length - p.1.toNat)
    (0, [], 0) 2 (fun _ => rfl) ⟨by omega, by simp, fun _ => rfl, rfl, rfl⟩ ⟨rfl, rfl, trivial⟩ rfl ?_
  rintro R ⟨i, L, m⟩ ⟨hi0, hi1, hgf, hl, hm⟩ hR
  have hi0 : 0 ≤ i := hi0
  have hi1 : i.toNat ≤ B.length := hi1
  have hgf : goodV ⟨a, B, N, S⟩ = false → i.toNat = 0 := hgf
  have hl : (List.range i.toNat).map (fun j => (atV a B N S j).cells) = L := hl
  have hm : L.length = m := hm
  have hll : L.length = i.toNat := by rw [← hl]; simp
  have hok : okEs 3 L = true := by rw [← hl]; simp [okEs, Val.cells, PV.one]
  have hk1 : ∀ z : Int, (n1.length : Int) = z → decide (i < z) = true → i < B.length := by intro z h g; simp only [decide_eq_true_eq] at g; omega
  have hk2 : ∀ z : Int, (n1.length : Int) = z → decide (i < z) = true → goodV ⟨a, B, N, S⟩ = true → decide (a = 1) = true → i < N.length := by
    intro z h g hu ha; rw [goodV_1 hu (of_decide_eq_true ha)]; exact hk1 z h g
  have hk3 : ∀ z : Int, (n1.length : Int) = z → decide (i < z) = true → goodV ⟨a, B, N, S⟩ = true → decide (a = 1) = false → i < S.length := by
    intro z h g hu ha; rw [goodV_2 hu (of_decide_eq_false ha)]; exact hk1 z h g
  repeat' (first
    | (with_reducible refine Nm.mk ?_; intro z hz)
    | (with_reducible refine IfB.mk ?_ ?_ <;> (intro h; cases h))
    | (with_reducible refine Asm.mk ?_ ?_; focus (first | (refine ⟨hm.symm, rfl, hok, rfl, ?_, ?_⟩ <;> (clear hR hQ hk1 hk2 hk3; simp only [List.length_cons, List.length_nil, maxLen]; omega)) | kernel_rfl))
    | (with_reducible refine isCP hcp ?_; first | (refine bP hcp (rgood_c a B N S n1 n2 n3 h1 h2 h3) ?_; intro z hz) | (refine vP hcp (none_r) ?_; intro v hv) | (refine vP hcp (num_r _) ?_; intro v hv) | (refine vP hcp (str_r _) ?_; intro v hv))
    | (with_reducible refine isCC hcc ?_; first | (refine bA hcc (rgood_c a B N S n1 n2 n3 h1 h2 h3) rfl ?_; intro z hz) | (refine vA hcc (none_r) rfl ?_; intro v hv) | (refine vA hcc (num_r _) rfl ?_; intro v hv) | (refine vA hcc (str_r _) rfl ?_; intro v hv))
    | (with_reducible refine Ix.map h1 boolc_len (by decide) hi0 (hk1 _ (by assumption) (by assumption)) ?_; intro y hy)
    | (with_reducible refine Ix.map h2 i64c_len (by decide) hi0 (hk2 _ (by assumption) (by assumption) (by assumption) (by assumption)) ?_; intro x hx)
    | (with_reducible refine Ix.map h3 strc_len (by decide) hi0 (hk3 _ (by assumption) (by assumption) (by assumption) (by assumption)) ?_; intro x hx)
    | (with_reducible refine Asm.mk2 ?_ ?_)
    | ((fail_if_success (with_reducible refine hQ _ ?_)); (fail_if_success (with_reducible refine Side.mk ?_)); (fail_if_success (with_reducible refine isCP hcp ?_)); (fail_if_success (with_reducible refine isCC hcc ?_)); (fail_if_success (with_reducible refine isLP hlp ?_)); (fail_if_success (with_reducible refine Ix.mk ?_)); (fail_if_success (with_reducible refine SIx.mk ?_)); (fail_if_success (with_reducible refine SEx.mk ?_)); (fail_if_success (with_reducible refine EIx.mk ?_)); (fail_if_success (with_reducible refine RIx.mk ?_)); (fail_if_success (with_reducible show False)); (fail_if_success (with_reducible refine hR ?_ _ ?_ ?_ ?_ ?_ ?_)); (fail_if_success (with_reducible refine hR2 ?_ _ ?_ ?_ ?_ ?_ ?_)); cbv))
  all_goals first
    | (have hlt : i < B.length := hk1 _ (by assumption) (by assumption)
       have hgood : goodV ⟨a, B, N, S⟩ = true := by assumption
       have e1 : IntKind.i64.wrap (i + 1) = i + 1 := wrap_in (by omega)
       rw [e1] at hz
       rename_i v hv L2 hL2 m2 hm2
       have hv2 : atV a B N S i.toNat = v := by rw [← hv]; clear hR hQ hcp hcc hlp hk1 hk2 hk3 hgf; simp_all [atV]
       refine hR (i + 1, L2, m2) _ ⟨by show 0 ≤ i + 1; omega, by show (i + 1).toNat ≤ B.length; omega, fun h => (by rw [hgood] at h; cases h), ?_, by show L2.length = m2; rw [← hL2, ← hm2, List.length_append]⟩ (by show B.length - (i + 1).toNat < B.length - i.toNat; omega) ⟨rfl, hz ▸ rfl, trivial⟩ ⟨rfl, trivial⟩ rfl
       show (List.range (i + 1).toNat).map (fun j => (atV a B N S j).cells) = L2
       rw [show (i + 1).toNat = i.toNat + 1 by omega, List.range_succ, List.map_append, hl, ← hL2]
       simp only [List.map_cons, List.map_nil, hv2]
       rfl)
    | (have hgood : goodV ⟨a, B, N, S⟩ = false := by assumption
       refine hQ _ ?_
       have : L = [] := List.eq_nil_of_length_eq_zero (by rw [hll, hgf hgood])
       rw [this]; simp [valuesM, hgood])
    | (have hgood : goodV ⟨a, B, N, S⟩ = true := by assumption
       have hge : B.length ≤ i.toNat := by
         rename_i hz1
         have hz2 : decide (i < _) = false := hz
         simp only [decide_eq_false_iff_not] at hz2
         simp only [nc] at hz1
         simp only [nc'] at hz1
         omega
       refine hQ _ ?_
       rw [← hl, show i.toNat = B.length by omega]
       simp [valuesM, hgood])

end Go.Proofs.Ytnhmnfokbinplaa
