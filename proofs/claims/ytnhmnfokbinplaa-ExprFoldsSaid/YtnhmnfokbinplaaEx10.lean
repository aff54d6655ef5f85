/- Expressions: Fold; the law ExprFolds. Own work; no condition. -/
import Derived.Test.YtnhmnfokbinplaaEx9
namespace Go.Proofs.Ytnhmnfokbinplaa
open Go Go.RowKit
set_option maxRecDepth 100000
set_option linter.unusedSimpArgs false
set_option linter.unusedVariables false

theorem efold_c (op n vk vn : Int) (vs : ByteArray) (ar : List Ex) (es : List (List PV)) (hes : ar.map Ex.cells = es) (hw : (Ex.mk op n ⟨vk, vn, vs⟩ ar).wide) (ho : (Ex.mk op n ⟨vk, vn, vs⟩ ar).okc) :
    PCall Try.prog 66 [.agg [.int .i64 op, .int .i64 n, .int .i64 vk, .int .i64 vn, .str vs, .sl es]] fun r => r = [.agg (foldM (.mk op n ⟨vk, vn, vs⟩ ar)).cells] := by
  have hbt := ebuilt_c op n vk vn vs ar es hes
  have hcp' := copy_c op n vk vn vs ar es hes hw
  have hf : builtM (.mk op n ⟨vk, vn, vs⟩ ar) = true → PCall Try.prog 116 [.agg [.int .i64 op, .int .i64 n, .int .i64 vk, .int .i64 vn, .str vs, .sl es], .fn 124 []] fun r => r = [.agg (mapE foldN (.mk op n ⟨vk, vn, vs⟩ ar)).cells] := by
    intro hb
    have hg := good_of_built hb
    have := mapped_all foldN 124 [] FoldC (fun op n vk vn vs ar es hC h => fold1_c op n vk vn vs ar es hC h) _ _ (Nat.le_refl _) hw (fold_cond _ hg ho)
    rw [cells_mk, hes] at this
    exact this
  obtain ⟨E, hE⟩ : ∃ E, Ex.mk op n ⟨vk, vn, vs⟩ ar = E := ⟨_, rfl⟩
  rw [hE] at hbt hcp' hf ⊢
  have hf' : ∀ z, builtM E = z → (!z) = false → PCall Try.prog 116 [.agg [.int .i64 op, .int .i64 n, .int .i64 vk, .int .i64 vn, .str vs, .sl es], .fn 124 []] fun r => r = [.agg (mapE foldN E).cells] := by
    rintro z rfl h; exact hf (by simpa using h)
  have e1 : ∀ z, builtM E = z → (!z) = true → foldM E = mapE id E := by
    rintro z rfl h; unfold foldM; rw [if_neg (by simp at h; rw [h]; decide)]
  have e2 : ∀ z, builtM E = z → (!z) = false → foldM E = mapE foldN E := by
    rintro z rfl h; unfold foldM; rw [if_pos (by simpa using h)]
  clear hf
  refine PCall.x (nt := 10) (res := [.cell 2 80]) mixed tt_ok [] Try.func66 rfl rfl rfl c66 (Nat.le_of_ble_eq_true rfl) ?_
  intro cp cc lp Q' hcp hcc hlp hQ
  repeat' (first
    | (with_reducible refine Nm.mk ?_; intro z hz)
    | (with_reducible refine IfB.mk ?_ ?_ <;> (intro h; cases h))
    | (with_reducible refine Asm.mk ?_ ?_; focus (first | kernel_rfl | decide))
    | (with_reducible refine isCP hcp ?_; first | (refine bP hcp (hbt) ?_; intro z hz) | (refine exP hcp (hcp') ?_; intro op2 n2 vk2 vn2 vs2 ar2 es2 hX hes2) | (refine exP hcp (hf' _ (by assumption) (by assumption)) ?_; intro op2 n2 vk2 vn2 vs2 ar2 es2 hX hes2))
    | (with_reducible refine isCC hcc ?_; first | (refine bA hcc (hbt) rfl ?_; intro z hz) | (refine exA hcc (hcp') rfl ?_; intro op2 n2 vk2 vn2 vs2 ar2 es2 hX hes2) | (refine exA hcc (hf' _ (by assumption) (by assumption)) rfl ?_; intro op2 n2 vk2 vn2 vs2 ar2 es2 hX hes2))
    | (with_reducible refine Asm.mk2 ?_ ?_)
    | ((fail_if_success (with_reducible refine hQ _ ?_)); (fail_if_success (with_reducible refine Side.mk ?_)); (fail_if_success (with_reducible refine isCP hcp ?_)); (fail_if_success (with_reducible refine isCC hcc ?_)); (fail_if_success (with_reducible refine isLP hlp ?_)); (fail_if_success (with_reducible refine Ix.mk ?_)); (fail_if_success (with_reducible refine SIx.mk ?_)); (fail_if_success (with_reducible refine SEx.mk ?_)); (fail_if_success (with_reducible refine EIx.mk ?_)); (fail_if_success (with_reducible show False)); (fail_if_success (with_reducible refine hR ?_ _ ?_ ?_ ?_ ?_ ?_)); (fail_if_success (with_reducible refine hR2 ?_ _ ?_ ?_ ?_ ?_ ?_)); cbv))
  · refine hQ _ ?_
    rw [e1 _ (by assumption) (by assumption), hX, cells_mk, hes2]
  · refine hQ _ ?_
    rw [e2 _ (by assumption) (by assumption), hX, cells_mk, hes2]

def oneX : Ex := .mk 2 0 ⟨1, 1, ⟨⟨[]⟩⟩⟩ []
def twoX : Ex := .mk 7 0 ⟨0, 0, ⟨⟨[]⟩⟩⟩ [oneX, oneX]
theorem two_fold : foldM twoX = .mk 2 0 ⟨1, 2, ⟨⟨[]⟩⟩⟩ [] := by kernel_rfl
theorem two_c' : PCall Try.prog 66 [.agg [.int .i64 7, .int .i64 0, .int .i64 0, .int .i64 0, .str ⟨⟨[]⟩⟩, .sl [[.int .i64 2, .int .i64 0, .int .i64 1, .int .i64 1, .str ⟨⟨[]⟩⟩, .sl []], [.int .i64 2, .int .i64 0, .int .i64 1, .int .i64 1, .str ⟨⟨[]⟩⟩, .sl []]]]] fun r => r = [.agg [.int .i64 2, .int .i64 0, .int .i64 1, .int .i64 2, .str ⟨⟨[]⟩⟩, .sl []]] := by
  have hz : okV ⟨0, 0, ⟨⟨[]⟩⟩⟩ := okV_zero
  have h1 : okV ⟨1, 1, ⟨⟨[]⟩⟩⟩ := okV_num (by decide)
  have h := efold_c 7 0 0 0 ⟨⟨[]⟩⟩ [oneX, oneX] _ rfl (good_wide _ (by decide)) ⟨hz, ⟨h1, trivial⟩, ⟨h1, trivial⟩, trivial⟩
  rw [show Ex.mk 7 0 ⟨0, 0, ⟨⟨[]⟩⟩⟩ [oneX, oneX] = twoX from rfl, two_fold] at h
  exact h

set_option maxHeartbeats 4000000 in
theorem exprFolds_c (op n vk vn : Int) (vs : ByteArray) (ar : List Ex) (es : List (List PV)) (hes : ar.map Ex.cells = es) (hw : (Ex.mk op n ⟨vk, vn, vs⟩ ar).wide) (ho : (Ex.mk op n ⟨vk, vn, vs⟩ ar).okc) (row : List Val) (L : List (List PV)) (hrw : row.map Val.cells = L) (hr : rowOk row) :
    PCall Try.prog 14 [.agg [.int .i64 op, .int .i64 n, .int .i64 vk, .int .i64 vn, .str vs, .sl es], .sl L] fun r => r = [.bool true] := by
  have f1 := efold_c op n vk vn vs ar es hes hw ho
  have s0 := esize_c op n vk vn vs ar es hes
  have v0 := eval_c op n vk vn vs ar es hes hw ho row L hrw hr
  have law := fold_law (colOf row) (.mk op n ⟨vk, vn, vs⟩ ar)
  obtain ⟨w1, o1⟩ := foldM_ok hw ho
  obtain ⟨w2, o2⟩ := foldM_ok w1 o1
  obtain ⟨E, hE⟩ : ∃ E, Ex.mk op n ⟨vk, vn, vs⟩ ar = E := ⟨_, rfl⟩
  rw [hE] at f1 s0 v0 law w1 o1 w2 o2
  obtain ⟨F, hF⟩ : ∃ F, foldM E = F := ⟨_, rfl⟩
  rw [hF] at f1 law w1 o1 w2 o2
  obtain ⟨op1, n1, ⟨vk1, vn1, vs1⟩, ar1⟩ := F
  obtain ⟨es1, hes1⟩ : ∃ x, ar1.map Ex.cells = x := ⟨_, rfl⟩
  have f2 := efold_c op1 n1 vk1 vn1 vs1 ar1 es1 hes1 w1 o1
  have s1 := esize_c op1 n1 vk1 vn1 vs1 ar1 es1 hes1
  have v1 := eval_c op1 n1 vk1 vn1 vs1 ar1 es1 hes1 w1 o1 row L hrw hr
  rw [cells_mk, hes1] at f1
  obtain ⟨E1, hE1⟩ : ∃ E, Ex.mk op1 n1 ⟨vk1, vn1, vs1⟩ ar1 = E := ⟨_, rfl⟩
  rw [hE1] at f2 s1 v1 law w2 o2
  obtain ⟨G, hG⟩ : ∃ G, foldM E1 = G := ⟨_, rfl⟩
  rw [hG] at f2 law w2 o2
  obtain ⟨op2, n2, ⟨vk2, vn2, vs2⟩, ar2⟩ := G
  obtain ⟨es2, hes2⟩ : ∃ x, ar2.map Ex.cells = x := ⟨_, rfl⟩
  have s2 := esize_c op2 n2 vk2 vn2 vs2 ar2 es2 hes2
  have v2 := eval_c op2 n2 vk2 vn2 vs2 ar2 es2 hes2 w2 o2 row L hrw hr
  rw [cells_mk, hes2] at f2
  obtain ⟨E2, hE2⟩ : ∃ E, Ex.mk op2 n2 ⟨vk2, vn2, vs2⟩ ar2 = E := ⟨_, rfl⟩
  rw [hE2] at s2 v2 law
  obtain ⟨law1, law2, law3, law4, law5⟩ := law
  rw [law1] at v1
  rw [law5] at v2
  rw [law4] at s2
  obtain ⟨V, hV⟩ : ∃ V, evalM (colOf row) E = V := ⟨_, rfl⟩
  rw [hV] at v0 v1 v2
  obtain ⟨⟨a0, b0⟩, hs0⟩ : ∃ s, sizeM E = s := ⟨_, rfl⟩
  obtain ⟨⟨a1, b1⟩, hs1⟩ : ∃ s, sizeM E1 = s := ⟨_, rfl⟩
  obtain ⟨b2, hb2⟩ : ∃ s, (sizeM E2).2 = s := ⟨_, rfl⟩
  rw [hs0] at s0 law2 law3
  rw [hs1] at s1 s2 law2 law3
  rw [hb2] at s2
  simp only at s0 s1 s2 law2 law3
  have c1 : decide (a0 < a1) = true → False := by simp only [decide_eq_true_eq]; omega
  have c2 : decide (b0 < b1) = true → False := by simp only [decide_eq_true_eq]; omega
  refine PCall.x (nt := 81) (res := [.tmp 4]) mixed tt_ok [] Try.func14 rfl rfl rfl c14 (Nat.le_of_ble_eq_true rfl) ?_
  intro cp cc lp Q' hcp hcc hlp hQ
  repeat' (first
    | (with_reducible refine Nm.mk ?_; intro z hz)
    | (with_reducible refine IfB.mk ?_ ?_ <;> (intro h; cases h))
    | (with_reducible refine Asm.mk ?_ ?_; focus (first | kernel_rfl | decide))
    | (with_reducible refine isCP hcp ?_; first | (refine xP hcp (f1) ?_; skip) | (refine xP hcp (s0) ?_; skip) | (refine xP hcp (s1) ?_; skip) | (refine xP hcp (f2) ?_; skip) | (refine xP hcp (s2) ?_; skip) | (refine xP hcp (two_c') ?_; skip) | (refine vP hcp (v0) ?_; intro v hv) | (refine vP hcp (v1) ?_; intro v hv) | (refine vP hcp (v2) ?_; intro v hv))
    | (with_reducible refine isCC hcc ?_; first | (refine xA hcc (f1) rfl ?_; skip) | (refine xA hcc (s0) rfl ?_; skip) | (refine xA hcc (s1) rfl ?_; skip) | (refine xA hcc (f2) rfl ?_; skip) | (refine xA hcc (s2) rfl ?_; skip) | (refine xA hcc (two_c') rfl ?_; skip) | (refine vA hcc (v0) rfl ?_; intro v hv) | (refine vA hcc (v1) rfl ?_; intro v hv) | (refine vA hcc (v2) rfl ?_; intro v hv))
    | (with_reducible refine Asm.mk2 ?_ ?_)
    | ((fail_if_success (with_reducible refine hQ _ ?_)); (fail_if_success (with_reducible refine Side.mk ?_)); (fail_if_success (with_reducible refine isCP hcp ?_)); (fail_if_success (with_reducible refine isCC hcc ?_)); (fail_if_success (with_reducible refine isLP hlp ?_)); (fail_if_success (with_reducible refine Ix.mk ?_)); (fail_if_success (with_reducible refine SIx.mk ?_)); (fail_if_success (with_reducible refine SEx.mk ?_)); (fail_if_success (with_reducible refine EIx.mk ?_)); (fail_if_success (with_reducible show False)); (fail_if_success (with_reducible refine hR ?_ _ ?_ ?_ ?_ ?_ ?_)); (fail_if_success (with_reducible refine hR2 ?_ _ ?_ ?_ ?_ ?_ ?_)); cbv))
  all_goals first
    | exact (c1 (by assumption)).elim
    | exact (c2 (by assumption)).elim
    | (exfalso
       clear hQ hcp hcc hlp f1 f2 s0 s1 s2 v0 v1 v2 c1 c2 law1 law2 law3 law4 law5 hs0 hs1 hb2 hV hE hE1 hE2 hF hG w1 w2 o1 o2 hw ho hes hes1 hes2 hrw hr
       subst_vars
       simp_all [eqB_val]
       done)
    | (refine hQ _ ?_
       clear hQ hcp hcc hlp f1 f2 s0 s1 s2 v0 v1 v2 c1 c2 law1 law2 law3 law4 law5 hs0 hs1 hb2 hV hE hE1 hE2 hF hG w1 w2 o1 o2 hw ho hes hes1 hes2 hrw hr
       subst_vars
       simp)
theorem exprFolds_law {k0 k1 : Nat} {x0 x1 : PV} (f0 : FitsA Try.prog k0 80 x0) (f1 : FitsA Try.prog k1 29 x1) : PCall Try.prog 14 [x0, x1] fun r => r = [.bool true] := by
  obtain ⟨op, m, vk, vn, vs, ar, rfl, hw, ho⟩ := fits80 f0
  obtain ⟨l, rfl, _, hl⟩ := fits29 f1
  exact exprFolds_c op m vk vn vs ar _ rfl hw ho l _ rfl (row_ok hl)
end Go.Proofs.Ytnhmnfokbinplaa
