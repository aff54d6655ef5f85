/- vec: Len, At, Values. Own work; no condition. -/
import Derived.Test.YtnhmnfokbinplaaVec4
namespace Go.Proofs.Ytnhmnfokbinplaa
open Go Go.RowKit
set_option maxRecDepth 100000
set_option linter.unusedSimpArgs false
set_option linter.unusedVariables false

def atV (a : Int) (B : List Bool) (N : List Int) (S : List ByteArray) (i : Nat) : Val :=
  if (B[i]?).getD false = true then Val.zero else if a = 1 then num ((N[i]?).getD 0) else str ((S[i]?).getD ⟨⟨[]⟩⟩)

theorem goodV_1 {a : Int} {B : List Bool} {N : List Int} {S : List ByteArray} (h : goodV ⟨a, B, N, S⟩ = true) (ha : a = 1) : N.length = B.length := by
  subst ha; simp [goodV] at h; exact h.1.1
theorem goodV_2 {a : Int} {B : List Bool} {N : List Int} {S : List ByteArray} (h : goodV ⟨a, B, N, S⟩ = true) (ha : ¬ a = 1) : S.length = B.length := by
  by_cases h2 : a = 2
  · subst h2; simp [goodV] at h; exact h.1.1
  · simp [goodV, ha, h2] at h

theorem vlen_c (a : Int) (B : List Bool) (N : List Int) (S : List ByteArray) (n1 n2 n3 : List (List PV)) (h1 : B.map boolc = n1) (h2 : N.map i64c = n2) (h3 : S.map strc = n3) :
    PCall Try.prog 38 [.agg [.int .i64 a, .sl n1, .sl n2, .sl n3]] fun r => r = [.int .i64 (if goodV ⟨a, B, N, S⟩ = true then (B.length : Int) else 0)] := by
  have b1 : n1.length = B.length := by rw [← h1]; simp
  refine PCall.x (nt := 9) (res := [.tmp 2]) mixed tt_ok [] Try.func38 rfl rfl rfl c38 (Nat.le_of_ble_eq_true rfl) ?_
  intro cp cc lp Q' hcp hcc hlp hQ
  repeat' (first
    | (with_reducible refine Nm.mk ?_; intro z hz)
    | (with_reducible refine IfB.mk ?_ ?_ <;> (intro h; cases h))
    | (with_reducible refine Asm.mk ?_ ?_; focus (first | kernel_rfl | decide))
    | (with_reducible refine isCP hcp ?_; first | (refine bP hcp (good_c a B N S n1 n2 n3 h1 h2 h3) ?_; intro z hz))
    | (with_reducible refine isCC hcc ?_; first | (refine bA hcc (good_c a B N S n1 n2 n3 h1 h2 h3) rfl ?_; intro z hz) | (refine bR hcc (good_c a B N S n1 n2 n3 h1 h2 h3) rfl ?_; intro z hz))
    | (with_reducible refine Asm.mk2 ?_ ?_)
    | ((fail_if_success (with_reducible refine hQ _ ?_)); (fail_if_success (with_reducible refine Side.mk ?_)); (fail_if_success (with_reducible refine isCP hcp ?_)); (fail_if_success (with_reducible refine isCC hcc ?_)); (fail_if_success (with_reducible refine isLP hlp ?_)); (fail_if_success (with_reducible refine Ix.mk ?_)); (fail_if_success (with_reducible refine SIx.mk ?_)); (fail_if_success (with_reducible refine SEx.mk ?_)); (fail_if_success (with_reducible refine EIx.mk ?_)); (fail_if_success (with_reducible refine RIx.mk ?_)); (fail_if_success (with_reducible show False)); (fail_if_success (with_reducible refine hR ?_ _ ?_ ?_ ?_ ?_ ?_)); (fail_if_success (with_reducible refine hR2 ?_ _ ?_ ?_ ?_ ?_ ?_)); cbv))
  all_goals (try simp only [nc] at *)
  all_goals (try simp only [nc'] at *)
  all_goals (refine hQ _ ?_; clear hQ hcp hcc hlp; subst_vars; simp_all)

/-- A value at a place that is there. -/
theorem atP_c (a : Int) (B : List Bool) (N : List Int) (S : List ByteArray) (n1 n2 n3 : List (List PV)) (h1 : B.map boolc = n1) (h2 : N.map i64c = n2) (h3 : S.map strc = n3) (i : Int) (hi0 : 0 ≤ i) (hi : i < B.length) (hg : goodV ⟨a, B, N, S⟩ = true) :
    PCall Try.prog 89 [.ip [.int .i64 a, .sl n1, .sl n2, .sl n3], .int .i64 i] fun r => r = [(atV a B N S i.toNat).enc] := by
  have hk2 : decide (a = 1) = true → i < N.length := by intro h; rw [goodV_1 hg (of_decide_eq_true h)]; exact hi
  have hk3 : decide (a = 1) = false → i < S.length := by intro h; rw [goodV_2 hg (of_decide_eq_false h)]; exact hi
  clear hg
  refine PCall.x (nt := 36) (res := [.cell 4 25]) mixed tt_ok [] Try.func89 rfl rfl rfl c89 (Nat.le_of_ble_eq_true rfl) ?_
  intro cp cc lp Q' hcp hcc hlp hQ
  repeat' (first
    | (with_reducible refine Nm.mk ?_; intro z hz)
    | (with_reducible refine IfB.mk ?_ ?_ <;> (intro h; cases h))
    | (with_reducible refine Asm.mk ?_ ?_; focus kernel_rfl)
    | (with_reducible refine Ix.map h1 boolc_len (by decide) hi0 hi ?_; intro y hy)
    | (with_reducible refine Ix.map h2 i64c_len (by decide) hi0 (hk2 (by assumption)) ?_; intro x hx)
    | (with_reducible refine Ix.map h3 strc_len (by decide) hi0 (hk3 (by assumption)) ?_; intro x hx)
    | (with_reducible refine Asm.mk2 ?_ ?_)
    | ((fail_if_success (with_reducible refine hQ _ ?_)); (fail_if_success (with_reducible refine Side.mk ?_)); (fail_if_success (with_reducible refine isCP hcp ?_)); (fail_if_success (with_reducible refine isCC hcc ?_)); (fail_if_success (with_reducible refine isLP hlp ?_)); (fail_if_success (with_reducible refine Ix.mk ?_)); (fail_if_success (with_reducible refine SIx.mk ?_)); (fail_if_success (with_reducible refine SEx.mk ?_)); (fail_if_success (with_reducible refine EIx.mk ?_)); (fail_if_success (with_reducible refine RIx.mk ?_)); (fail_if_success (with_reducible show False)); (fail_if_success (with_reducible refine hR ?_ _ ?_ ?_ ?_ ?_ ?_)); (fail_if_success (with_reducible refine hR2 ?_ _ ?_ ?_ ?_ ?_ ?_)); cbv))
  all_goals (refine hQ _ ?_; clear hQ hcp hcc hlp hk2 hk3 hi hi0 h1 h2 h3; simp_all [atV, num, str, Val.zero, Val.enc])

def atM (v : Vec) (i : Int) : Val := if goodV v = true ∧ 0 ≤ i ∧ i < v.null.length then atV v.kind v.null v.ns v.ss i.toNat else Val.zero
theorem vat_c (a : Int) (B : List Bool) (N : List Int) (S : List ByteArray) (n1 n2 n3 : List (List PV)) (h1 : B.map boolc = n1) (h2 : N.map i64c = n2) (h3 : S.map strc = n3) (i : Int) :
    PCall Try.prog 39 [.agg [.int .i64 a, .sl n1, .sl n2, .sl n3], .int .i64 i] fun r => r = [(atM ⟨a, B, N, S⟩ i).enc] := by
  have b1 : n1.length = B.length := by rw [← h1]; simp
  refine PCall.x (nt := 22) (res := [.cell 4 25]) mixed tt_ok [] Try.func39 rfl rfl rfl c39 (Nat.le_of_ble_eq_true rfl) ?_
  intro cp cc lp Q' hcp hcc hlp hQ
  repeat' (first
    | (with_reducible refine Nm.mk ?_; intro z hz)
    | (with_reducible refine IfB.mk ?_ ?_ <;> (intro h; cases h))
    | (with_reducible refine Asm.mk ?_ ?_; focus (first | kernel_rfl | decide))
    | (with_reducible refine isCP hcp ?_; first | (refine bP hcp (good_c a B N S n1 n2 n3 h1 h2 h3) ?_; intro z hz))
    | (with_reducible refine isCC hcc ?_; first | (refine bA hcc (good_c a B N S n1 n2 n3 h1 h2 h3) rfl ?_; intro z hz) | (refine bR hcc (good_c a B N S n1 n2 n3 h1 h2 h3) rfl ?_; intro z hz))
    | (with_reducible refine Asm.mk2 ?_ ?_)
    | ((fail_if_success (with_reducible refine hQ _ ?_)); (fail_if_success (with_reducible refine Side.mk ?_)); (fail_if_success (with_reducible refine isCP hcp ?_)); (fail_if_success (with_reducible refine isCC hcc ?_)); (fail_if_success (with_reducible refine isLP hlp ?_)); (fail_if_success (with_reducible refine Ix.mk ?_)); (fail_if_success (with_reducible refine SIx.mk ?_)); (fail_if_success (with_reducible refine SEx.mk ?_)); (fail_if_success (with_reducible refine EIx.mk ?_)); (fail_if_success (with_reducible refine RIx.mk ?_)); (fail_if_success (with_reducible show False)); (fail_if_success (with_reducible refine hR ?_ _ ?_ ?_ ?_ ?_ ?_)); (fail_if_success (with_reducible refine hR2 ?_ _ ?_ ?_ ?_ ?_ ?_)); cbv))
  all_goals (try simp only [nc] at *)
  all_goals (try simp only [nc'] at *)
  all_goals first
    | (refine hQ _ ?_; clear hQ hcp hcc hlp; simp_all [atM, Val.zero, Val.enc]; done)
    | (refine hQ _ ?_
       have : ¬ (0 ≤ i ∧ i < (B.length : Int)) := by clear hQ hcp hcc hlp; simp_all; try omega
       simp only [atM]; rw [if_neg (fun h => this h.2)]; rfl)
    | skip
  have hg : goodV ⟨a, B, N, S⟩ = true := by clear hQ hcp hcc hlp; simp_all
  have hi0 : 0 ≤ i := by clear hQ hcp hcc hlp; simp_all
  have hi : i < (B.length : Int) := by clear hQ hcp hcc hlp; simp_all; try omega
  refine vR hcc (atP_c a B N S n1 n2 n3 h1 h2 h3 i hi0 hi hg) rfl ?_
  intro v hv
  repeat' (first
    | (with_reducible refine Nm.mk ?_; intro z hz)
    | (with_reducible refine IfB.mk ?_ ?_ <;> (intro h; cases h))
    | (with_reducible refine Asm.mk ?_ ?_; focus (first | kernel_rfl | decide))
    | (with_reducible refine Asm.mk2 ?_ ?_)
    | ((fail_if_success (with_reducible refine hQ _ ?_)); (fail_if_success (with_reducible refine Side.mk ?_)); (fail_if_success (with_reducible refine isCP hcp ?_)); (fail_if_success (with_reducible refine isCC hcc ?_)); (fail_if_success (with_reducible refine isLP hlp ?_)); (fail_if_success (with_reducible refine Ix.mk ?_)); (fail_if_success (with_reducible refine SIx.mk ?_)); (fail_if_success (with_reducible refine SEx.mk ?_)); (fail_if_success (with_reducible refine EIx.mk ?_)); (fail_if_success (with_reducible refine RIx.mk ?_)); (fail_if_success (with_reducible show False)); (fail_if_success (with_reducible refine hR ?_ _ ?_ ?_ ?_ ?_ ?_)); (fail_if_success (with_reducible refine hR2 ?_ _ ?_ ?_ ?_ ?_ ?_)); cbv))
  refine hQ _ ?_
  simp only [atM]
  rw [if_pos ⟨hg, hi0, hi⟩, hv]; rfl

end Go.Proofs.Ytnhmnfokbinplaa
