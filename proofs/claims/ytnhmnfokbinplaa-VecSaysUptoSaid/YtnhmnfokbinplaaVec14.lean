/- Joined, in both texts. Own work; no condition. -/
import Derived.Test.YtnhmnfokbinplaaVec13
namespace Go.Proofs.Ytnhmnfokbinplaa
open Go Go.RowKit
set_option maxRecDepth 100000
set_option linter.unusedSimpArgs false
set_option linter.unusedVariables false

theorem ok_bool {B : List Bool} {n1 : List (List PV)} (h : B.map boolc = n1) : okEs 1 n1 = true := by rw [← h]; simp [okEs, boolc, PV.one]
theorem ok_i64 {B : List Int} {n1 : List (List PV)} (h : B.map i64c = n1) : okEs 1 n1 = true := by rw [← h]; simp [okEs, i64c, PV.one]
theorem ok_str {B : List ByteArray} {n1 : List (List PV)} (h : B.map strc = n1) : okEs 1 n1 = true := by rw [← h]; simp [okEs, strc, PV.one]
theorem ok_val {B : List Val} {n1 : List (List PV)} (h : B.map Val.cells = n1) : okEs 3 n1 = true := by rw [← h]; simp [okEs, Val.cells, PV.one]

set_option maxHeartbeats 1000000 in
theorem joined_c (a : Int) (B : List Bool) (N : List Int) (S : List ByteArray) (n1 n2 n3 : List (List PV)) (h1 : B.map boolc = n1) (h2 : N.map i64c = n2) (h3 : S.map strc = n3)
    (a' : Int) (B' : List Bool) (N' : List Int) (S' : List ByteArray) (m1 m2 m3 : List (List PV)) (g1 : B'.map boolc = m1) (g2 : N'.map i64c = m2) (g3 : S'.map strc = m3)
    (l1 : B.length ≤ 1048577) (l2 : N.length ≤ 1048577) (l3 : S.length ≤ 1048577) (l1' : B'.length ≤ 1048577) (l2' : N'.length ≤ 1048577) (l3' : S'.length ≤ 1048577) :
    PCall Try.prog 46 [.agg [.int .i64 a, .sl n1, .sl n2, .sl n3], .agg [.int .i64 a', .sl m1, .sl m2, .sl m3]] fun r => r = [(joinM ⟨a, B, N, S⟩ ⟨a', B', N', S'⟩).1.enc, .int .i64 (joinM ⟨a, B, N, S⟩ ⟨a', B', N', S'⟩).2] := by
  have b1 : n1.length = B.length := by rw [← h1]; simp
  have b2 : n2.length = N.length := by rw [← h2]; simp
  have b3 : n3.length = S.length := by rw [← h3]; simp
  have c1 : m1.length = B'.length := by rw [← g1]; simp
  have c2 : m2.length = N'.length := by rw [← g2]; simp
  have c3 : m3.length = S'.length := by rw [← g3]; simp
  have o1 := ok_bool h1
  have o2 := ok_i64 h2
  have o3 := ok_str h3
  have q1 := ok_bool g1
  have q2 := ok_i64 g2
  have q3 := ok_str g3
  refine PCall.x (nt := 45) (res := [.cell 4 34, .tmp 5]) mixed tt_ok [] Try.func46 rfl rfl rfl c46 (Nat.le_of_ble_eq_true rfl) ?_
  intro cp cc lp Q' hcp hcc hlp hQ
  repeat' (first
    | (with_reducible refine Nm.mk ?_; intro z hz)
    | (with_reducible refine IfB.mk ?_ ?_ <;> (intro h; cases h))
    | (with_reducible refine Asm.mk ?_ ?_; focus (first | kernel_rfl | (subst_vars; clear hQ; refine ⟨rfl, ?_, ?_, ?_⟩ <;> first | assumption | (simp only [List.length_nil, maxLen]; omega)) | (subst_vars; clear hQ; refine ⟨?_, rfl, ?_, ?_, ?_, ?_⟩ <;> first | (simp only [List.nil_append, List.length_nil, Nat.zero_add]; done) | (simp only [List.nil_append]; assumption) | assumption | (simp only [List.nil_append, maxLen]; omega))))
    | (with_reducible refine isCP hcp ?_; first | (refine bP hcp (good_c a B N S n1 n2 n3 h1 h2 h3) ?_; intro z hz) | (refine bP hcp (good_c a' B' N' S' m1 m2 m3 g1 g2 g3) ?_; intro z hz))
    | (with_reducible refine isCC hcc ?_; first | (refine bA hcc (good_c a B N S n1 n2 n3 h1 h2 h3) rfl ?_; intro z hz) | (refine bA hcc (good_c a' B' N' S' m1 m2 m3 g1 g2 g3) rfl ?_; intro z hz))
    | (with_reducible refine Asm.mk2 ?_ ?_)
    | ((fail_if_success (with_reducible refine hQ _ ?_)); (fail_if_success (with_reducible refine Side.mk ?_)); (fail_if_success (with_reducible refine isCP hcp ?_)); (fail_if_success (with_reducible refine isCC hcc ?_)); (fail_if_success (with_reducible refine isLP hlp ?_)); (fail_if_success (with_reducible refine Ix.mk ?_)); (fail_if_success (with_reducible refine SIx.mk ?_)); (fail_if_success (with_reducible refine SEx.mk ?_)); (fail_if_success (with_reducible refine EIx.mk ?_)); (fail_if_success (with_reducible show False)); (fail_if_success (with_reducible refine hR ?_ _ ?_ ?_ ?_ ?_ ?_)); (fail_if_success (with_reducible refine hR2 ?_ _ ?_ ?_ ?_ ?_ ?_)); cbv))
  all_goals (refine hQ _ ?_; clear hQ hcp hcc hlp)
  all_goals (subst_vars; simp_all [joinM, Vec.enc, Vec.zero])

theorem rjoined_c (a : Int) (B : List Bool) (N : List Int) (S : List ByteArray) (n1 n2 n3 : List (List PV)) (h1 : B.map boolc = n1) (h2 : N.map i64c = n2) (h3 : S.map strc = n3)
    (a' : Int) (B' : List Bool) (N' : List Int) (S' : List ByteArray) (m1 m2 m3 : List (List PV)) (g1 : B'.map boolc = m1) (g2 : N'.map i64c = m2) (g3 : S'.map strc = m3)
    (l1 : B.length ≤ 1048577) (l1' : B'.length ≤ 1048577) :
    PCall Try.prog 47 [.agg [.int .i64 a, .sl n1, .sl n2, .sl n3], .agg [.int .i64 a', .sl m1, .sl m2, .sl m3]] fun r => r = [(joinM ⟨a, B, N, S⟩ ⟨a', B', N', S'⟩).1.enc, .int .i64 (joinM ⟨a, B, N, S⟩ ⟨a', B', N', S'⟩).2] := by
  have len1 : ((valuesM ⟨a, B, N, S⟩).map Val.cells).length ≤ 1048577 := by rw [List.length_map]; exact Nat.le_trans (valuesM_len _) l1
  have len2 : ((valuesM ⟨a', B', N', S'⟩).map Val.cells).length ≤ 1048577 := by rw [List.length_map]; exact Nat.le_trans (valuesM_len _) l1'
  have o1 := ok_val (B := valuesM ⟨a, B, N, S⟩) rfl
  have o2 := ok_val (B := valuesM ⟨a', B', N', S'⟩) rfl
  have hcall : ∀ L, (valuesM ⟨a, B, N, S⟩).map Val.cells ++ (valuesM ⟨a', B', N', S'⟩).map Val.cells = L → PCall Try.prog 22 [.int .i64 a, .sl L] fun r => r = [(vfrom a (valuesM ⟨a, B, N, S⟩ ++ valuesM ⟨a', B', N', S'⟩)).1.enc, .int .i64 (vfrom a (valuesM ⟨a, B, N, S⟩ ++ valuesM ⟨a', B', N', S'⟩)).2] := by
    intro L hL
    refine rfrom_c a _ L (by rw [List.map_append]; exact hL) ?_
    rw [List.length_map] at len1 len2
    rw [List.length_append]; omega
  have hj : goodV ⟨a, B, N, S⟩ = true → goodV ⟨a', B', N', S'⟩ = true → a = a' → vfrom a (valuesM ⟨a, B, N, S⟩ ++ valuesM ⟨a', B', N', S'⟩) = joinM ⟨a, B, N, S⟩ ⟨a', B', N', S'⟩ := by
    intro x y z
    rw [vfrom_join (v := ⟨a, B, N, S⟩) (w := ⟨a', B', N', S'⟩) x y z, joinM, if_neg (by simp [x, y]), if_neg (by simp [z])]
  have t1 : TCall Try.prog 35 [.agg [.int .i64 a, .sl n1, .sl n2, .sl n3]] (fun l => l = (valuesM ⟨a, B, N, S⟩).map Val.cells) 3 := rvalues_t a B N S n1 n2 n3 h1 h2 h3 l1
  have t2 : TCall Try.prog 35 [.agg [.int .i64 a', .sl m1, .sl m2, .sl m3]] (fun l => l = (valuesM ⟨a', B', N', S'⟩).map Val.cells) 3 := rvalues_t a' B' N' S' m1 m2 m3 g1 g2 g3 l1'
  generalize (valuesM ⟨a, B, N, S⟩).map Val.cells = V1 at *
  generalize (valuesM ⟨a', B', N', S'⟩).map Val.cells = V2 at *
  refine PCall.x (nt := 33) (res := [.cell 4 34, .tmp 5]) mixed tt_ok [] Try.func47 rfl rfl rfl c47 (Nat.le_of_ble_eq_true rfl) ?_
  intro cp cc lp Q' hcp hcc hlp hQ
  repeat' (first
    | (with_reducible refine Nm.mk ?_; intro z hz)
    | (with_reducible refine IfB.mk ?_ ?_ <;> (intro h; cases h))
    | (with_reducible refine Asm.mk ?_ ?_; focus (first | kernel_rfl | (subst_vars; clear hQ hcall hj; refine ⟨rfl, rfl, o1, o2, ?_, ?_⟩ <;> (try simp only [maxLen]) <;> omega)))
    | (with_reducible refine isCP hcp ?_; first | (refine bP hcp (rgood_c a B N S n1 n2 n3 h1 h2 h3) ?_; intro z hz) | (refine bP hcp (rgood_c a' B' N' S' m1 m2 m3 g1 g2 g3) ?_; intro z hz) | (refine tP hcp (t1) ?_; intro z hz) | (refine tP hcp (t2) ?_; intro z hz) | (refine veP hcp (hcall _ (by subst_vars; rfl)) ?_; intro a2 p1 p2 p3 e2 ha2 k1 k2 k3 ke))
    | (with_reducible refine isCC hcc ?_; first | (refine bA hcc (rgood_c a B N S n1 n2 n3 h1 h2 h3) rfl ?_; intro z hz) | (refine bA hcc (rgood_c a' B' N' S' m1 m2 m3 g1 g2 g3) rfl ?_; intro z hz) | (refine tA hcc (t1) rfl ?_; intro z mz hz hmz) | (refine tA hcc (t2) rfl ?_; intro z mz hz hmz) | (refine veA hcc (hcall _ (by subst_vars; rfl)) rfl ?_; intro a2 p1 p2 p3 e2 ha2 k1 k2 k3 ke))
    | (with_reducible refine Asm.mk2 ?_ ?_)
    | ((fail_if_success (with_reducible refine hQ _ ?_)); (fail_if_success (with_reducible refine Side.mk ?_)); (fail_if_success (with_reducible refine isCP hcp ?_)); (fail_if_success (with_reducible refine isCC hcc ?_)); (fail_if_success (with_reducible refine isLP hlp ?_)); (fail_if_success (with_reducible refine Ix.mk ?_)); (fail_if_success (with_reducible refine SIx.mk ?_)); (fail_if_success (with_reducible refine SEx.mk ?_)); (fail_if_success (with_reducible refine EIx.mk ?_)); (fail_if_success (with_reducible show False)); (fail_if_success (with_reducible refine hR ?_ _ ?_ ?_ ?_ ?_ ?_)); (fail_if_success (with_reducible refine hR2 ?_ _ ?_ ?_ ?_ ?_ ?_)); cbv))
  all_goals (refine hQ _ ?_; clear hQ hcp hcc hlp hcall t1 t2)
  all_goals first
    | (subst_vars; simp_all [joinM, Vec.enc, Vec.zero]; done)
    | skip
end Go.Proofs.Ytnhmnfokbinplaa
