/- Moved, of both; the law ExprPuts; The law ExprPuts. Own work; no condition. -/
import Derived.Test.YtnhmnfokbinplaaMu47
import Derived.Test.YtnhmnfokbinplaaMu51
import Derived.Test.YtnhmnfokbinplaaMuVec17
import Derived.Test.YtnhmnfokbinplaaMu46
namespace Go.Proofs.Ytnhmnfokbinplaa
open Go Go.RowKit
set_option maxRecDepth 100000
set_option linter.unusedSimpArgs false
set_option linter.unusedVariables false

def colX (n : Int) : Ex := .mk 1 n Val.zero []
def colC (n : Int) : List PV := [.int .i64 1, .int .i64 n, .int .i64 0, .int .i64 0, .str ⟨⟨[]⟩⟩, .sl []]
theorem colX_cells (n : Int) : (colX n).cells = colC n := by rw [colX, Val.zero, cells_mk]; rfl
theorem colsX (l : List Int) : (l.map colX).map Ex.cells = l.map colC := by
  rw [List.map_map]; exact List.map_congr_left fun n _ => colX_cells n
theorem okEs_colC (l : List Int) : okEs 6 (l.map colC) = true := by
  simp only [okEs, List.all_map, List.all_eq_true]
  intro e _
  simp [colC, PV.one]
theorem colX_wide (n : Int) : (colX n).wide := ⟨by unfold wideN; decide, trivial⟩
theorem colsX_wide : ∀ l : List Int, wideL (l.map colX)
  | [] => trivial
  | n :: r => ⟨colX_wide n, colsX_wide r⟩
theorem colX_built {n : Int} (h : n < 0) : builtM (colX n) = false := by
  cases hb : builtM (colX n) with
  | false => rfl
  | true =>
    have := good_of_built hb
    rw [colX, goodE, Bool.and_eq_true, Bool.not_eq_true'] at this
    have h1 := this.1
    simp only [badE, Bool.or_eq_false_iff, Bool.and_eq_false_iff, decide_eq_false_iff_not] at h1
    rcases h1.1.2 with h2 | h2
    · exact absurd trivial h2
    · omega
theorem putM_neg {e : Ex} {l : List Int} {i : Nat} {n : Int} (hx : l[i]? = some n) (h : n < 0) : putM e (l.map colX) = (zeroX, 1) := by
  have hk : putOk e (l.map colX) = false := by
    cases hk : putOk e (l.map colX) with
    | false => rfl
    | true =>
      unfold putOk at hk
      simp only [Bool.and_eq_true] at hk
      have := List.all_eq_true.1 hk.1.2 (colX n) (List.mem_map_of_mem (List.mem_of_getElem? hx))
      rw [colX_built h] at this; cases this
  rw [putM, hk, if_neg (by decide)]
theorem rcol_c (n : Int) : PCall Try.prog 135 [.int .i64 n] fun r => r = [.agg (colC n)] := by
  show PCall Try.prog 135 [.int .i64 n] fun r => r = [.agg [.int .i64 1, .int .i64 n, .int .i64 0, .int .i64 0, .str ⟨⟨[]⟩⟩, .sl []]]
  refine PCall.x (nt := 5) (res := [.cell 2 80]) mixed tt_ok [] Try.func135 rfl rfl rfl c135 (Nat.le_of_ble_eq_true rfl) ?_
  intro cp cc lp Q' hcp hcc hlp hQ
  repeat' (first
    | (with_reducible refine Nm.mk ?_; intro z hz)
    | (with_reducible refine IfB.mk ?_ ?_ <;> (intro h; cases h))
    | (with_reducible refine Two.l ?_; refine Asm.mk ?_ ?_; focus (decide +kernel))
    | (with_reducible refine Two.r ?_)
    | (with_reducible refine Asm.mk ?_ ?_; focus (first | kernel_rfl | decide))
    | (with_reducible refine Asm.mk2 ?_ ?_)
    | ((fail_if_success (with_reducible first | refine hQ _ ?_ | refine Side.mk ?_ | refine isCP hcp ?_ | refine isCC hcc ?_ | refine isLP hlp ?_ | refine Ix.mk ?_ | refine SIx.mk ?_ | refine SEx.mk ?_ | refine EIx.mk ?_ | refine RIx.mk ?_ | show False | refine hR ?_ _ ?_ ?_ ?_ ?_ ?_ | refine hR2 ?_ _ ?_ ?_ ?_ ?_ ?_)); cbv))
  all_goals (refine hQ _ ?_; clear hQ hcp hcc hlp; subst_vars; simp_all [])

set_option maxHeartbeats 4000000 in
theorem moved_c (op m vk vn : Int) (vs : ByteArray) (ar : List Ex) (es : List (List PV)) (hes : ar.map Ex.cells = es) (hw : (Ex.mk op m ⟨vk, vn, vs⟩ ar).wide) (to' : List Int) (TC : List (List PV)) (hT : to'.map i64c = TC) (hn : to'.length ≤ 1048577) (E : Ex) (err : Int) (hM : putM (.mk op m ⟨vk, vn, vs⟩ ar) (to'.map colX) = (E, err)) :
    PCall Try.prog 70 [.agg [.int .i64 op, .int .i64 m, .int .i64 vk, .int .i64 vn, .str vs, .sl es], .sl TC] fun r => r = [.agg E.cells, .int .i64 err] := by
  have hTl : TC.length = to'.length := by rw [← hT]; simp
  have hput := put_c op m vk vn vs ar es hes hw (to'.map colX) _ (colsX to') (colsX_wide to') (by rw [List.length_map]; unfold wideN; omega) E err hM
  have hneg : ∀ (i : Nat) (n : Int), to'[i]? = some n → decide (n < 0) = true → E = zeroX ∧ err = 1 := by
    intro i n hx h
    rw [putM_neg hx (of_decide_eq_true h)] at hM
    simp only [Prod.mk.injEq] at hM
    exact ⟨hM.1.symm, hM.2.symm⟩
  obtain ⟨op2, m2, ⟨vk2, vn2, vs2⟩, ar2⟩ := E
  obtain ⟨es2, hes2⟩ : ∃ l, ar2.map Ex.cells = l := ⟨_, rfl⟩
  rw [cells_mk, hes2] at hput ⊢
  clear hM
  refine PCall.x (nt := 26) (res := [.cell 4 80, .tmp 5]) mixed tt_ok [] Try.func70 rfl rfl rfl c70 (Nat.le_of_ble_eq_true rfl) ?_
  intro cp cc lp Q' hcp hcc hlp hQ
  repeat' (first
    | (with_reducible refine Nm.mk ?_; intro z hz)
    | (with_reducible refine IfB.mk ?_ ?_ <;> (intro h; cases h))
    | (with_reducible refine Two.l ?_; refine Asm.mk ?_ ?_; focus (decide +kernel))
    | (with_reducible refine Two.r ?_)
    | (with_reducible refine Asm.mk ?_ ?_; focus (first | kernel_rfl | decide))
    | (with_reducible refine Asm.mk2 ?_ ?_)
    | ((fail_if_success (with_reducible first | refine hQ _ ?_ | refine Side.mk ?_ | refine isCP hcp ?_ | refine isCC hcc ?_ | refine isLP hlp ?_ | refine Ix.mk ?_ | refine SIx.mk ?_ | refine SEx.mk ?_ | refine EIx.mk ?_ | refine RIx.mk ?_ | show False | refine hR ?_ _ ?_ ?_ ?_ ?_ ?_ | refine hR2 ?_ _ ?_ ?_ ?_ ?_ ?_)); cbv))
  simp only [nc] at hz
  simp only [nc'] at hz
  have hzl := lenZ (n := to'.length) hTl hz
  clear hz
  generalize z = zl at *
  refine mintT hlp 6 6 rfl ?_
  refine loopT (ι := Int × List (List PV) × Nat) mixed tt_ok hcp hcc hlp [2, 4, 9, 10] (fun p => [(6, .tok 2 p.2.1), (11, .p (.int .i64 p.1))])
    (fun p => [.cells [.p (.int .i64 op), .p (.int .i64 m), .p (.int .i64 vk), .p (.int .i64 vn), .p (.str vs), .p (.sl es)], .cells [.p (.int .i64 0), .p (.int .i64 0), .p (.int .i64 0), .p (.int .i64 0), .p (.str ⟨⟨[]⟩⟩), .full []], .spare p.2.2 6])
    (fun p => Rng to'.length zl p.1 ∧ (to'.take p.1.toNat).map colC = p.2.1 ∧ p.2.1.length = p.2.2) (fun p => (zl - p.1).toNat)
    (0, [], 0) 3 (fun _ => rfl) ⟨Rng.start hzl (by omega), rfl, rfl⟩ ⟨rfl, rfl, trivial⟩ rfl ?_
  rintro R ⟨i, BL, n1⟩ ⟨rg, hBL, hn1⟩ hR
  replace rg : Rng to'.length zl i := rg
  replace hBL : (to'.take i.toNat).map colC = BL := hBL
  replace hn1 : BL.length = n1 := hn1
  have hBl : BL.length ≤ 1048577 := by rw [← hBL, List.length_map, List.length_take]; omega
  have ok1 : okEs 6 BL = true := by rw [← hBL]; exact okEs_colC _
  have sd1 : BL.length + 1 ≤ maxLen ∧ (BL.length + 1) * 72 ≤ 140737488355328 := by rw [maxLen_eq]; omega
  have hfin : decide (i < zl) = false → PCall Try.prog 73 [.agg [.int .i64 op, .int .i64 m, .int .i64 vk, .int .i64 vn, .str vs, .sl es], .sl BL] fun r => r = [.agg [.int .i64 op2, .int .i64 m2, .int .i64 vk2, .int .i64 vn2, .str vs2, .sl es2], .int .i64 err] := fun h => by
    rw [rg.take_ rfl h] at hBL
    rw [← hBL]; exact hput
  have hcol : ∀ n : Int, PCall Try.prog 135 [.int .i64 n] fun r => r = [.agg [.int .i64 1, .int .i64 n, .int .i64 0, .int .i64 0, .str ⟨⟨[]⟩⟩, .sl []]] := fun n => rcol_c n
  repeat' (first
    | (with_reducible refine Nm.mk ?_; intro z hz)
    | (with_reducible refine IfB.mk ?_ ?_ <;> (intro h; cases h))
    | (with_reducible refine Two.l ?_; refine Asm.mk ?_ ?_; focus (decide +kernel))
    | (with_reducible refine Two.r ?_)
    | (with_reducible refine Asm.mk ?_ ?_; focus kernel_rfl)
    | (with_reducible refine isCP hcp ?_; first | (refine xP hcp (hfin (by assumption)) ?_; skip) | (refine xP hcp (hcol _) ?_; skip))
    | (with_reducible refine isCC hcc ?_; first | (refine xA hcc (hfin (by assumption)) rfl ?_; skip) | (refine xA hcc (hcol _) rfl ?_; skip))
    | (with_reducible refine Ix.map hT i64c_len (by decide) rg.lo (rg.lt (by assumption)) ?_; intro y hy)
    | (with_reducible refine Asm.mk2 ?_ ?_)
    | ((fail_if_success (with_reducible first | refine hQ _ ?_ | refine Side.mk ?_ | refine isCP hcp ?_ | refine isCC hcc ?_ | refine isLP hlp ?_ | refine Ix.mk ?_ | refine SIx.mk ?_ | refine SEx.mk ?_ | refine EIx.mk ?_ | refine RIx.mk ?_ | show False | refine hR ?_ _ ?_ ?_ ?_ ?_ ?_ | refine hR2 ?_ _ ?_ ?_ ?_ ?_ ?_)); cbv))
  all_goals first
    | exact Side.mk ⟨hn1.symm, rfl, ok1, rfl, sd1.1, sd1.2⟩
    | exact hQ _ rfl
    | (obtain ⟨e1, e2⟩ := hneg _ _ hy (by assumption)
       refine hQ _ ?_
       rw [zeroX, Val.zero] at e1
       simp only [Ex.mk.injEq, Val.mk.injEq] at e1
       obtain ⟨rfl, rfl, ⟨rfl, rfl, rfl⟩, rfl⟩ := e1
       subst e2
       rw [← hes2]; rfl)
    | (have hlt : decide (i < zl) = true := by assumption
       rw [rg.wrap hlt] at hz
       rename_i BL2 hBL2 n2 hn2
       refine hR (i + 1, BL2, n2) _ ⟨rg.next hlt, ?_, ?_⟩ (rg.less hlt) ⟨rfl, hz ▸ rfl, trivial⟩ ⟨rfl, rfl, rfl, rfl, trivial⟩ rfl
       · show (to'.take (i + 1).toNat).map colC = BL2
         rw [rg.take hy, List.map_append, hBL, ← hBL2]; rfl
       · show BL2.length = n2
         rw [← hBL2, ← hn2, List.length_append])
    | skip
set_option maxHeartbeats 4000000 in
theorem rmoved_c (op m vk vn : Int) (vs : ByteArray) (ar : List Ex) (es : List (List PV)) (hes : ar.map Ex.cells = es) (hw : (Ex.mk op m ⟨vk, vn, vs⟩ ar).wide) (to' : List Int) (TC : List (List PV)) (hT : to'.map i64c = TC) (hn : to'.length ≤ 1048577) (E : Ex) (err : Int) (hM : putM (.mk op m ⟨vk, vn, vs⟩ ar) (to'.map colX) = (E, err)) :
    PCall Try.prog 71 [.agg [.int .i64 op, .int .i64 m, .int .i64 vk, .int .i64 vn, .str vs, .sl es], .sl TC] fun r => r = [.agg E.cells, .int .i64 err] := by
  have hTl : TC.length = to'.length := by rw [← hT]; simp
  have hput := rput_c op m vk vn vs ar es hes hw (to'.map colX) _ (colsX to') (colsX_wide to') (by rw [List.length_map]; unfold wideN; omega) E err hM
  have hneg : ∀ (i : Nat) (n : Int), to'[i]? = some n → decide (n < 0) = true → E = zeroX ∧ err = 1 := by
    intro i n hx h
    rw [putM_neg hx (of_decide_eq_true h)] at hM
    simp only [Prod.mk.injEq] at hM
    exact ⟨hM.1.symm, hM.2.symm⟩
  obtain ⟨op2, m2, ⟨vk2, vn2, vs2⟩, ar2⟩ := E
  obtain ⟨es2, hes2⟩ : ∃ l, ar2.map Ex.cells = l := ⟨_, rfl⟩
  rw [cells_mk, hes2] at hput ⊢
  clear hM
  refine PCall.x (nt := 29) (res := [.cell 4 80, .tmp 5]) mixed tt_ok [] Try.func71 rfl rfl rfl c71 (Nat.le_of_ble_eq_true rfl) ?_
  intro cp cc lp Q' hcp hcc hlp hQ
  repeat' (first
    | (with_reducible refine Nm.mk ?_; intro z hz)
    | (with_reducible refine IfB.mk ?_ ?_ <;> (intro h; cases h))
    | (with_reducible refine Two.l ?_; refine Asm.mk ?_ ?_; focus (decide +kernel))
    | (with_reducible refine Two.r ?_)
    | (with_reducible refine Asm.mk ?_ ?_; focus (first | kernel_rfl | decide))
    | (with_reducible refine Asm.mk2 ?_ ?_)
    | ((fail_if_success (with_reducible first | refine hQ _ ?_ | refine Side.mk ?_ | refine isCP hcp ?_ | refine isCC hcc ?_ | refine isLP hlp ?_ | refine Ix.mk ?_ | refine SIx.mk ?_ | refine SEx.mk ?_ | refine EIx.mk ?_ | refine RIx.mk ?_ | show False | refine hR ?_ _ ?_ ?_ ?_ ?_ ?_ | refine hR2 ?_ _ ?_ ?_ ?_ ?_ ?_)); cbv))
  simp only [nc] at hz
  simp only [nc'] at hz
  have hzl := lenZ (n := to'.length) hTl hz
  clear hz
  generalize z = zl at *
  refine mintT hlp 6 6 rfl ?_
  refine loopT (ι := Int × List (List PV) × Nat) mixed tt_ok hcp hcc hlp [2, 4, 9, 10] (fun p => [(6, .tok 2 p.2.1), (11, .p (.int .i64 p.1))])
    (fun p => [.cells [.p (.int .i64 op), .p (.int .i64 m), .p (.int .i64 vk), .p (.int .i64 vn), .p (.str vs), .p (.sl es)], .cells [.p (.int .i64 0), .p (.int .i64 0), .p (.int .i64 0), .p (.int .i64 0), .p (.str ⟨⟨[]⟩⟩), .full []], .spare p.2.2 6])
    (fun p => Rng to'.length zl p.1 ∧ (to'.take p.1.toNat).map colC = p.2.1 ∧ p.2.1.length = p.2.2) (fun p => (zl - p.1).toNat)
    (0, [], 0) 3 (fun _ => rfl) ⟨Rng.start hzl (by omega), rfl, rfl⟩ ⟨rfl, rfl, trivial⟩ rfl ?_
  rintro R ⟨i, BL, n1⟩ ⟨rg, hBL, hn1⟩ hR
  replace rg : Rng to'.length zl i := rg
  replace hBL : (to'.take i.toNat).map colC = BL := hBL
  replace hn1 : BL.length = n1 := hn1
  have hBl : BL.length ≤ 1048577 := by rw [← hBL, List.length_map, List.length_take]; omega
  have ok1 : okEs 6 BL = true := by rw [← hBL]; exact okEs_colC _
  have sd1 : BL.length + 1 ≤ maxLen ∧ (BL.length + 1) * 72 ≤ 140737488355328 := by rw [maxLen_eq]; omega
  have hfin : decide (i < zl) = false → PCall Try.prog 74 [.agg [.int .i64 op, .int .i64 m, .int .i64 vk, .int .i64 vn, .str vs, .sl es], .sl BL] fun r => r = [.agg [.int .i64 op2, .int .i64 m2, .int .i64 vk2, .int .i64 vn2, .str vs2, .sl es2], .int .i64 err] := fun h => by
    rw [rg.take_ rfl h] at hBL
    rw [← hBL]; exact hput
  have hcol : ∀ n : Int, PCall Try.prog 135 [.int .i64 n] fun r => r = [.agg [.int .i64 1, .int .i64 n, .int .i64 0, .int .i64 0, .str ⟨⟨[]⟩⟩, .sl []]] := fun n => rcol_c n
  repeat' (first
    | (with_reducible refine Nm.mk ?_; intro z hz)
    | (with_reducible refine IfB.mk ?_ ?_ <;> (intro h; cases h))
    | (with_reducible refine Two.l ?_; refine Asm.mk ?_ ?_; focus (decide +kernel))
    | (with_reducible refine Two.r ?_)
    | (with_reducible refine Asm.mk ?_ ?_; focus kernel_rfl)
    | (with_reducible refine isCP hcp ?_; first | (refine xP hcp (hfin (by assumption)) ?_; skip) | (refine xP hcp (hcol _) ?_; skip))
    | (with_reducible refine isCC hcc ?_; first | (refine xA hcc (hfin (by assumption)) rfl ?_; skip) | (refine xA hcc (hcol _) rfl ?_; skip))
    | (with_reducible refine Ix.map hT i64c_len (by decide) rg.lo (rg.lt (by assumption)) ?_; intro y hy)
    | (with_reducible refine Asm.mk2 ?_ ?_)
    | ((fail_if_success (with_reducible first | refine hQ _ ?_ | refine Side.mk ?_ | refine isCP hcp ?_ | refine isCC hcc ?_ | refine isLP hlp ?_ | refine Ix.mk ?_ | refine SIx.mk ?_ | refine SEx.mk ?_ | refine EIx.mk ?_ | refine RIx.mk ?_ | show False | refine hR ?_ _ ?_ ?_ ?_ ?_ ?_ | refine hR2 ?_ _ ?_ ?_ ?_ ?_ ?_)); cbv))
  all_goals first
    | exact Side.mk ⟨hn1.symm, rfl, ok1, rfl, sd1.1, sd1.2⟩
    | exact hQ _ rfl
    | (obtain ⟨e1, e2⟩ := hneg _ _ hy (by assumption)
       refine hQ _ ?_
       rw [zeroX, Val.zero] at e1
       simp only [Ex.mk.injEq, Val.mk.injEq] at e1
       obtain ⟨rfl, rfl, ⟨rfl, rfl, rfl⟩, rfl⟩ := e1
       subst e2
       rw [← hes2]; rfl)
    | (have hlt : decide (i < zl) = true := by assumption
       rw [rg.wrap hlt] at hz
       rename_i BL2 hBL2 n2 hn2
       refine hR (i + 1, BL2, n2) _ ⟨rg.next hlt, ?_, ?_⟩ (rg.less hlt) ⟨rfl, hz ▸ rfl, trivial⟩ ⟨rfl, rfl, rfl, rfl, trivial⟩ rfl
       · show (to'.take (i + 1).toNat).map colC = BL2
         rw [rg.take hy, List.map_append, hBL, ← hBL2]; rfl
       · show BL2.length = n2
         rw [← hBL2, ← hn2, List.length_append])
    | skip
end Go.Proofs.Ytnhmnfokbinplaa

namespace Go.Proofs.Ytnhmnfokbinplaa
open Go Go.RowKit
set_option maxRecDepth 100000
set_option linter.unusedSimpArgs false
set_option linter.unusedVariables false

theorem putM_wide {e : Ex} {by' : List Ex} (hw : e.wide) (hb : wideL by') {E : Ex} {err : Int} (h : putM e by' = (E, err)) : E.wide := by
  unfold putM at h
  split at h
  · split at h
    · simp only [Prod.mk.injEq] at h
      rw [← h.1]; exact put_wide by' hb e hw
    · simp only [Prod.mk.injEq] at h
      rw [← h.1]; exact ⟨by unfold wideN; decide, trivial⟩
  · simp only [Prod.mk.injEq] at h
    rw [← h.1]; exact ⟨by unfold wideN; decide, trivial⟩
theorem sameE_c {op m vk vn : Int} {vs : ByteArray} {ar : List Ex} {es : List (List PV)} (hes : ar.map Ex.cells = es) (hw : (Ex.mk op m ⟨vk, vn, vs⟩ ar).wide) : PCall Try.prog 72 [.agg [.int .i64 op, .int .i64 m, .int .i64 vk, .int .i64 vn, .str vs, .sl es], .agg [.int .i64 op, .int .i64 m, .int .i64 vk, .int .i64 vn, .str vs, .sl es]] fun r => r = [.bool true] := by
  have := same_all _ _ (Nat.le_refl _) hw
  rw [SameC, cells_mk, hes] at this
  exact this
set_option maxHeartbeats 4000000 in
theorem exprPuts_c (op m vk vn : Int) (vs : ByteArray) (ar : List Ex) (es : List (List PV)) (hes : ar.map Ex.cells = es) (hw : (Ex.mk op m ⟨vk, vn, vs⟩ ar).wide) (to' : List Int) (TC : List (List PV)) (hT : to'.map i64c = TC) (hn : to'.length ≤ 1048577) (by' : List Ex) (BY : List (List PV)) (hBY : by'.map Ex.cells = BY) (hwb : wideL by') (hwn : wideN by'.length) :
    PCall Try.prog 16 [.agg [.int .i64 op, .int .i64 m, .int .i64 vk, .int .i64 vn, .str vs, .sl es], .sl TC, .sl BY] fun r => r = [.bool true] := by
  obtain ⟨⟨E1, err1⟩, hM1⟩ : ∃ p, putM (.mk op m ⟨vk, vn, vs⟩ ar) (to'.map colX) = p := ⟨_, rfl⟩
  obtain ⟨⟨E2, err2⟩, hM2⟩ : ∃ p, putM (.mk op m ⟨vk, vn, vs⟩ ar) by' = p := ⟨_, rfl⟩
  have h70 := moved_c op m vk vn vs ar es hes hw to' TC hT hn E1 err1 hM1
  have h71 := rmoved_c op m vk vn vs ar es hes hw to' TC hT hn E1 err1 hM1
  have h73 := put_c op m vk vn vs ar es hes hw by' BY hBY hwb hwn E2 err2 hM2
  have h74 := rput_c op m vk vn vs ar es hes hw by' BY hBY hwb hwn E2 err2 hM2
  have h75 := all_c by' BY hBY hwb hwn
  have h76 := rall_c by' BY hBY hwb hwn
  have w1 := putM_wide hw (colsX_wide to') hM1
  have w2 := putM_wide hw hwb hM2
  have w3 := all_wide by' hwb
  generalize allM by' = E3 at h75 h76 w3
  obtain ⟨p1, q1, ⟨k1, n1, s1⟩, a1⟩ := E1
  obtain ⟨e1, he1⟩ : ∃ l, a1.map Ex.cells = l := ⟨_, rfl⟩
  have hs1 := sameE_c he1 w1
  obtain ⟨p2, q2, ⟨k2, n2, s2⟩, a2⟩ := E2
  obtain ⟨e2, he2⟩ : ∃ l, a2.map Ex.cells = l := ⟨_, rfl⟩
  have hs2 := sameE_c he2 w2
  obtain ⟨p3, q3, ⟨k3, n3, s3⟩, a3⟩ := E3
  obtain ⟨e3, he3⟩ : ∃ l, a3.map Ex.cells = l := ⟨_, rfl⟩
  have hs3 := sameE_c he3 w3
  rw [cells_mk, he1] at h70 h71
  rw [cells_mk, he2] at h73 h74
  rw [cells_mk, he3] at h75 h76
  have hn1 := num_c err1
  have hn2 := num_c err2
  clear hM1 hM2 w1 w2 w3 hes hw hT hBY hwb hwn hn he1 he2 he3
  refine PCall.x (nt := 61) (res := [.tmp 6]) mixed tt_ok [] Try.func16 rfl rfl rfl c16 (Nat.le_of_ble_eq_true rfl) ?_
  intro cp cc lp Q' hcp hcc hlp hQ
  repeat' (first
    | (with_reducible refine Nm.mk ?_; intro z hz)
    | (with_reducible refine IfB.mk ?_ ?_ <;> (intro h; cases h))
    | (with_reducible refine Two.l ?_; refine Asm.mk ?_ ?_; focus (decide +kernel))
    | (with_reducible refine Two.r ?_)
    | (with_reducible refine Asm.mk ?_ ?_; focus (first | kernel_rfl | decide))
    | (with_reducible refine isCP hcp ?_; first | (refine xP hcp (h70) ?_; skip) | (refine xP hcp (h71) ?_; skip) | (refine xP hcp (hs1) ?_; skip) | (refine xP hcp (h73) ?_; skip) | (refine xP hcp (h74) ?_; skip) | (refine xP hcp (hs2) ?_; skip) | (refine xP hcp (h75) ?_; skip) | (refine xP hcp (h76) ?_; skip) | (refine xP hcp (hs3) ?_; skip) | (refine xP hcp (hn1) ?_; skip) | (refine xP hcp (hn2) ?_; skip))
    | (with_reducible refine isCC hcc ?_; first | (refine xA hcc (h70) rfl ?_; skip) | (refine xA hcc (h71) rfl ?_; skip) | (refine xA hcc (hs1) rfl ?_; skip) | (refine xA hcc (h73) rfl ?_; skip) | (refine xA hcc (h74) rfl ?_; skip) | (refine xA hcc (hs2) rfl ?_; skip) | (refine xA hcc (h75) rfl ?_; skip) | (refine xA hcc (h76) rfl ?_; skip) | (refine xA hcc (hs3) rfl ?_; skip) | (refine xA hcc (hn1) rfl ?_; skip) | (refine xA hcc (hn2) rfl ?_; skip))
    | (with_reducible refine Asm.mk2 ?_ ?_)
    | ((fail_if_success (with_reducible first | refine hQ _ ?_ | refine Side.mk ?_ | refine isCP hcp ?_ | refine isCC hcc ?_ | refine isLP hlp ?_ | refine Ix.mk ?_ | refine SIx.mk ?_ | refine SEx.mk ?_ | refine EIx.mk ?_ | refine RIx.mk ?_ | show False | refine hR ?_ _ ?_ ?_ ?_ ?_ ?_ | refine hR2 ?_ _ ?_ ?_ ?_ ?_ ?_)); cbv))
  all_goals first
    | exact hQ _ rfl
    | (exfalso; clear hQ h70 h71 h73 h74 h75 h76 hs1 hs2 hs3 hn1 hn2 hcp hcc hlp; simp_all; done)
    | skip
theorem fits78P {n : Nat} {x : PV} (h : FitsA Try.prog n 78 x) : ∃ l : List Ex, x = .sl (l.map Ex.cells) ∧ wideL l ∧ wideN l.length := by
  obtain ⟨m, es, rfl, h1, ⟨_, hb⟩, h4⟩ := (h.one Try.underlying78 rfl).slice Try.underlying78
  simp only [List.cons.injEq, and_true] at h1
  subst h1
  obtain ⟨l, rfl, hl⟩ := elems_of (enc := Ex.cells) (ok := fun e => e.wide) (fun x hx => by
    obtain ⟨y, hy, h1, h2⟩ := exOf _ _ (h4 x hx).2
    exact ⟨y, hy, h1⟩)
  rw [bytes80, List.length_map] at hb
  have : reachBytes = 140737488351232 := by decide
  exact ⟨l, rfl, wideL_of fun x hx => hl x hx, by unfold wideN; omega⟩
theorem exprPuts_lawU {k0 k1 k2 : Nat} {x0 x1 x2 : PV} (f0 : FitsA Try.prog k0 80 x0) (f1 : FitsA Try.prog k1 22 x1) (f2 : FitsA Try.prog k2 78 x2) (b0 : bk x0 ≤ 1048577) (b1 : bk x1 ≤ 1048577) (b2 : bk x2 ≤ 1048577) : PCall Try.prog 16 [x0, x1, x2] fun r => r = [.bool true] := by
  obtain ⟨op, m, vk, vn, vs, ar, rfl, hw, ho⟩ := fits80 f0
  obtain ⟨l, rfl⟩ := fits22 f1
  obtain ⟨by', rfl, hwb, hwn⟩ := fits78P f2
  have hb : bkLL (l.map i64c) + 1 ≤ 1048577 := b1
  have hl := bk_len (enc := i64c) (fun x => by simp [i64c]) l
  exact exprPuts_c op m vk vn vs ar _ rfl hw l _ rfl (by omega) by' _ rfl hwb hwn
end Go.Proofs.Ytnhmnfokbinplaa
