/- vec: Places. Own work; no condition. -/
import Derived.Test.YtnhmnfokbinplaaVec7
import Derived.Test.YtnhmnfokbinplaaAbs25
namespace Go.Proofs.Ytnhmnfokbinplaa
open Go Go.RowKit
set_option maxRecDepth 100000
set_option linter.unusedSimpArgs false
set_option linter.unusedVariables false

/-- The places below n whose number is not 0. -/
def placesUp (N : List Int) : Nat → List Int
  | 0 => []
  | n + 1 => placesUp N n ++ (if (N[n]?).getD 0 = 0 then [] else [(n : Int)])
theorem placesUp_len (N : List Int) : ∀ n, (placesUp N n).length ≤ n
  | 0 => by simp [placesUp]
  | n + 1 => by
    have := placesUp_len N n
    simp only [placesUp, List.length_append]
    split <;> simp <;> omega
def placesM (v : Vec) : List Int := if goodV v = true ∧ v.kind = 1 then placesUp v.ns v.ns.length else []

theorem vplaces_c (a : Int) (B : List Bool) (N : List Int) (S : List ByteArray) (n1 n2 n3 : List (List PV)) (h1 : B.map boolc = n1) (h2 : N.map i64c = n2) (h3 : S.map strc = n3) (hsz : N.length ≤ 1048577) :
    PCall Try.prog 42 [.agg [.int .i64 a, .sl n1, .sl n2, .sl n3]] fun r => r = [.sl ((placesM ⟨a, B, N, S⟩).map i64c)] := by
  have b2 : n2.length = N.length := by rw [← h2]; simp
  refine PCall.x (nt := 30) (res := [.tmp 2]) mixed tt_ok [] Try.func42 rfl rfl rfl c42 (Nat.le_of_ble_eq_true rfl) ?_
  intro cp cc lp Q' hcp hcc hlp hQ
  repeat' (first
    | (with_reducible refine Nm.mk ?_; intro z hz)
    | (with_reducible refine IfB.mk ?_ ?_ <;> (intro h; cases h))
    | (with_reducible refine Asm.mk ?_ ?_; focus (first | kernel_rfl | decide))
    | (with_reducible refine isCP hcp ?_; first | (refine bP hcp (good_c a B N S n1 n2 n3 h1 h2 h3) ?_; intro z hz))
    | (with_reducible refine isCC hcc ?_; first | (refine bA hcc (good_c a B N S n1 n2 n3 h1 h2 h3) rfl ?_; intro z hz))
    | (with_reducible refine Asm.mk2 ?_ ?_)
    | ((fail_if_success (with_reducible refine hQ _ ?_)); (fail_if_success (with_reducible refine Side.mk ?_)); (fail_if_success (with_reducible refine isCP hcp ?_)); (fail_if_success (with_reducible refine isCC hcc ?_)); (fail_if_success (with_reducible refine isLP hlp ?_)); (fail_if_success (with_reducible refine Ix.mk ?_)); (fail_if_success (with_reducible refine SIx.mk ?_)); (fail_if_success (with_reducible refine SEx.mk ?_)); (fail_if_success (with_reducible refine EIx.mk ?_)); (fail_if_success (with_reducible refine RIx.mk ?_)); (fail_if_success (with_reducible show False)); (fail_if_success (with_reducible refine hR ?_ _ ?_ ?_ ?_ ?_ ?_)); (fail_if_success (with_reducible refine hR2 ?_ _ ?_ ?_ ?_ ?_ ?_)); cbv))
  all_goals (try simp only [nc] at *)
  all_goals (try simp only [nc'] at *)
  all_goals first
    | (refine hQ _ ?_; clear hQ hcp hcc hlp; simp_all [placesM]; done)
    | skip
  have hp : placesM ⟨a, B, N, S⟩ = placesUp N N.length := by clear hQ hcp hcc hlp; simp_all [placesM]
  have hzN : z.toNat = N.length ∧ 0 ≤ z := by omega
  obtain ⟨hzN, hz0⟩ := hzN
  clear hz
  generalize z = zn at *
  refine mintT hlp 1 3 rfl ?_
  refine loopT (ι := Int × List (List PV) × Nat) mixed tt_ok hcp hcc hlp [15, 16] (fun p => [(3, .tok 1 p.2.1), (17, .p (.int .i64 p.1))])
    (fun p => [.cells [.p (.int .i64 a), .p (.sl n1), .p (.sl n2), .p (.sl n3)], .spare p.2.2 1])
    (fun p => (0 ≤ p.1 ∧ p.1 ≤ zn) ∧ (placesUp N p.1.toNat).map i64c = p.2.1 ∧ p.2.1.length = p.2.2) (fun p => (zn - p.1).toNat)
    (0, [], 0) 2 (fun _ => rfl) ⟨⟨by omega, by omega⟩, rfl, rfl⟩ ⟨rfl, rfl, trivial⟩ rfl ?_
  rintro R ⟨i, L, m⟩ ⟨⟨hi0, hi1⟩, hl, hm⟩ hR
  have hi0 : 0 ≤ i := hi0
  have hi1 : i ≤ zn := hi1
  have hl : (placesUp N i.toNat).map i64c = L := hl
  have hm : L.length = m := hm
  have hll : L.length ≤ i.toNat := by rw [← hl, List.length_map]; exact placesUp_len N _
  have hok : okEs 1 L = true := by rw [← hl]; simp [okEs, i64c, PV.one]
  have hk2 : decide (i < zn) = true → i < N.length := by intro h; simp only [decide_eq_true_eq] at h; omega
  repeat' (first
    | (with_reducible refine Nm.mk ?_; intro z hz)
    | (with_reducible refine IfB.mk ?_ ?_ <;> (intro h; cases h))
    | (with_reducible refine Asm.mk ?_ ?_; focus (first | (refine ⟨hm.symm, rfl, hok, rfl, ?_, ?_⟩ <;> (clear hR hQ hk2; simp only [List.length_cons, List.length_nil, maxLen]; omega)) | kernel_rfl))
    | (with_reducible refine Ix.map h2 i64c_len (by decide) hi0 (hk2 (by assumption)) ?_; intro x hx)
    | (with_reducible refine Asm.mk2 ?_ ?_)
    | ((fail_if_success (with_reducible refine hQ _ ?_)); (fail_if_success (with_reducible refine Side.mk ?_)); (fail_if_success (with_reducible refine isCP hcp ?_)); (fail_if_success (with_reducible refine isCC hcc ?_)); (fail_if_success (with_reducible refine isLP hlp ?_)); (fail_if_success (with_reducible refine Ix.mk ?_)); (fail_if_success (with_reducible refine SIx.mk ?_)); (fail_if_success (with_reducible refine SEx.mk ?_)); (fail_if_success (with_reducible refine EIx.mk ?_)); (fail_if_success (with_reducible refine RIx.mk ?_)); (fail_if_success (with_reducible show False)); (fail_if_success (with_reducible refine hR ?_ _ ?_ ?_ ?_ ?_ ?_)); (fail_if_success (with_reducible refine hR2 ?_ _ ?_ ?_ ?_ ?_ ?_)); cbv))
  · have hlt : decide (i < zn) = true := by assumption
    simp only [decide_eq_true_eq] at hlt
    have e1 : IntKind.i64.wrap (i + 1) = i + 1 := wrap_in (by omega)
    rw [e1] at hz
    have hx0 : ¬ x = 0 := by clear hR hQ hcp hcc hlp; simp_all
    rename_i L2 hL2 m2 hm2
    refine hR (i + 1, L2, m2) _ ⟨⟨by show 0 ≤ i + 1; omega, by show i + 1 ≤ zn; omega⟩, ?_, by show L2.length = m2; rw [← hL2, ← hm2, List.length_append]⟩ (by show (zn - (i + 1)).toNat < (zn - i).toNat; omega) ⟨rfl, hz ▸ rfl, trivial⟩ ⟨rfl, rfl, trivial⟩ rfl
    show (placesUp N (i + 1).toNat).map i64c = L2
    rw [show (i + 1).toNat = i.toNat + 1 by omega, placesUp, hx, List.map_append, hl, ← hL2]
    simp only [Option.getD_some, if_neg hx0, List.map_cons, List.map_nil, i64c, Int.toNat_of_nonneg hi0]
  · have hlt : decide (i < zn) = true := by assumption
    simp only [decide_eq_true_eq] at hlt
    have e1 : IntKind.i64.wrap (i + 1) = i + 1 := wrap_in (by omega)
    rw [e1] at hz
    have hx0 : x = 0 := by clear hR hQ hcp hcc hlp; simp_all
    refine hR (i + 1, L, m) _ ⟨⟨by show 0 ≤ i + 1; omega, by show i + 1 ≤ zn; omega⟩, ?_, hm⟩ (by show (zn - (i + 1)).toNat < (zn - i).toNat; omega) ⟨rfl, hz ▸ rfl, trivial⟩ ⟨rfl, rfl, trivial⟩ rfl
    show (placesUp N (i + 1).toNat).map i64c = L
    rw [show (i + 1).toNat = i.toNat + 1 by omega, placesUp, hx, List.map_append, hl]
    simp only [Option.getD_some, if_pos hx0, List.map_nil, List.append_nil]
  · refine hQ _ ?_
    have hge : decide (i < zn) = false := by assumption
    simp only [decide_eq_false_iff_not] at hge
    rw [hp, ← hl, show i.toNat = N.length by omega]

theorem rtrue_c (k n : Int) (s : ByteArray) : PCall Try.prog 58 [.agg [.int .i64 k, .int .i64 n, .str s]] fun r => r = [.bool (decide (k = 1) && !decide (n = 0))] := by
  refine PCall.x (nt := 11) (res := [.tmp 2]) mixed tt_ok [] Try.func58 rfl rfl rfl c58 (Nat.le_of_ble_eq_true rfl) ?_
  intro cp cc lp Q' hcp hcc hlp hQ
  repeat' (first
    | (with_reducible refine Nm.mk ?_; intro z hz)
    | (with_reducible refine IfB.mk ?_ ?_ <;> (intro h; cases h))
    | (with_reducible refine Asm.mk ?_ ?_; focus (first | kernel_rfl | decide))
    | (with_reducible refine Asm.mk2 ?_ ?_)
    | ((fail_if_success (with_reducible refine hQ _ ?_)); (fail_if_success (with_reducible refine Side.mk ?_)); (fail_if_success (with_reducible refine isCP hcp ?_)); (fail_if_success (with_reducible refine isCC hcc ?_)); (fail_if_success (with_reducible refine isLP hlp ?_)); (fail_if_success (with_reducible refine Ix.mk ?_)); (fail_if_success (with_reducible refine SIx.mk ?_)); (fail_if_success (with_reducible refine SEx.mk ?_)); (fail_if_success (with_reducible refine EIx.mk ?_)); (fail_if_success (with_reducible refine RIx.mk ?_)); (fail_if_success (with_reducible show False)); (fail_if_success (with_reducible refine hR ?_ _ ?_ ?_ ?_ ?_ ?_)); (fail_if_success (with_reducible refine hR2 ?_ _ ?_ ?_ ?_ ?_ ?_)); cbv))
  all_goals (refine hQ _ ?_; clear hQ hcp hcc hlp; subst_vars; simp_all [])

end Go.Proofs.Ytnhmnfokbinplaa
