/- Expressions: Fold. Own work; no condition. -/
import Derived.Test.YtnhmnfokbinplaaExR
import Derived.Test.YtnhmnfokbinplaaEx6
namespace Go.Proofs.Ytnhmnfokbinplaa
open Go Go.RowKit
set_option maxRecDepth 100000
set_option linter.unusedSimpArgs false
set_option linter.unusedVariables false

/-! ### plain -/
theorem arity_le (op : Int) : arityE op ≤ 3 := by unfold arityE; (repeat' split) <;> omega
mutual
theorem good_wide : ∀ e : Ex, goodE e = true → e.wide
  | .mk op n v ar, hg => by
    simp only [goodE, Bool.and_eq_true, Bool.not_eq_true'] at hg
    have h1 := badE_arity hg.1
    have h2 := arity_le op
    exact ⟨by unfold wideN; omega, good_wideL ar hg.2⟩
theorem good_wideL : ∀ l : List Ex, goodL l = true → wideL l
  | [], _ => trivial
  | e :: r, hg => by
    simp only [goodL, Bool.and_eq_true] at hg
    exact ⟨good_wide e hg.1, good_wideL r hg.2⟩
end
mutual
theorem okV_eval {col : Int → Val} (hc : ∀ n, okV (col n)) : ∀ e : Ex, e.okc → okV (evalE col e)
  | .mk op n v ar, h => by
    rw [evalE]
    exact okV_evOp (fun _ => hc n) h.1 (okV_evalL hc ar h.2)
theorem okV_evalL {col : Int → Val} (hc : ∀ n, okV (col n)) : ∀ l : List Ex, okcL l → ∀ x, x ∈ evalL col l → okV x
  | [], _, x, hx => by simp [evalL] at hx
  | e :: r, h, x, hx => by
    simp only [evalL, List.mem_cons] at hx
    rcases hx with rfl | hx
    · exact okV_eval hc e h.1
    · exact okV_evalL hc r h.2 x hx
end
theorem okc_const {v : Val} (h : okV v) : (constE v).okc := ⟨h, trivial⟩
theorem okc_getD {l : List Ex} (h : okcL l) (i : Nat) : ((l[i]?).getD zeroE).okc := by
  cases hi : l[i]? with
  | none => exact ⟨okV_zero, trivial⟩
  | some x => exact okc_mem h (List.mem_of_getElem? hi)
theorem foldN_okc {op n : Int} {v : Val} {ar : List Ex} (hv : okV v) (ha : okcL ar) : (foldN (.mk op n v ar)).okc := by
  rw [foldN]
  split
  · exact ⟨hv, ha⟩
  split
  · exact okc_const (okV_eval (fun _ => okV_zero) _ ⟨hv, ha⟩)
  split
  · exact okc_const (okV_num (by decide))
  split
  · exact okc_const (okV_num (by decide))
  split
  · split
    · exact okc_getD ha 1
    · exact okc_getD ha 2
  · exact ⟨hv, ha⟩
mutual
theorem fold_okc : ∀ e : Ex, e.okc → (mapE foldN e).okc
  | .mk op n v ar, h => by
    rw [mapE_mk, ← mapL_eq]
    exact foldN_okc (okV_nV h.1) (fold_okcL ar h.2)
theorem fold_okcL : ∀ l : List Ex, okcL l → okcL (mapL foldN l)
  | [], _ => trivial
  | e :: r, h => ⟨fold_okc e h.1, fold_okcL r h.2⟩
end
def FoldC (e : Ex) : Prop := goodE e = true ∧ e.okc
mutual
theorem fold_cond : ∀ e : Ex, goodE e = true → e.okc → CondE FoldC foldN e
  | .mk op n v ar, hg, ho => by
    simp only [goodE, Bool.and_eq_true, Bool.not_eq_true'] at hg
    obtain ⟨i1, _, _⟩ := fold_lessL ar hg.2
    refine ⟨⟨?_, ?_⟩, fold_condL ar hg.2 ho.2⟩
    · have hb := badE_norm op n v (mapL foldN ar).length
      have hb2 := hg.1
      rw [show ar.length = (mapL foldN ar).length by rw [mapL_eq, List.length_map], ← hb] at hb2
      rw [goodE]
      have e : badE op (if op = 1 then n else 0) (if op = 1 then Val.zero else if op = 2 then clean v else Val.zero) (mapL foldN ar).length = false := hb2
      rw [e, i1]; rfl
    · exact ⟨okV_nV ho.1, fold_okcL ar ho.2⟩
theorem fold_condL : ∀ l : List Ex, goodL l = true → okcL l → CondL FoldC foldN l
  | [], _, _ => trivial
  | e :: r, hg, ho => by
    simp only [goodL, Bool.and_eq_true] at hg
    exact ⟨fold_cond e hg.1 ho.1, fold_condL r hg.2 ho.2⟩
end
theorem foldM_ok {e : Ex} (hw : e.wide) (ho : e.okc) : (foldM e).wide ∧ (foldM e).okc := by
  unfold foldM
  split
  · rename_i h
    exact ⟨good_wide _ (fold_less e (good_of_built h)).1, fold_okc e ho⟩
  · exact ⟨wide_copy e hw, okc_copy e ho⟩

/-! ### the walk -/
def idxI {α : Type} (p : α → Bool) : List α → Int → Int
  | [], _ => -1
  | x :: r, i => if p x = true then i else idxI p r (i + 1)
theorem idxI_any {α : Type} (p : α → Bool) : ∀ (l : List α) (i : Int), 0 ≤ i → (0 ≤ idxI p l i ↔ l.any p = true)
  | [], i, h => by simp [idxI]
  | x :: r, i, h => by
    rw [idxI, List.any_cons]
    cases hx : p x with
    | true => simp [h]
    | false => simp [idxI_any p r (i + 1) (by omega)]
theorem indexFunc_c (k : Nat) (caps : List PV) (p : Ex → Bool) (ar : List Ex) (es : List (List PV)) (hes : ar.map Ex.cells = es) (hs : wideN ar.length)
    (hp : ∀ e, e ∈ ar → PCall Try.prog k (.agg e.cells :: caps) fun r => r = [.bool (p e)]) : PCall Try.prog 181 [.sl es, .fn k caps] fun r => r = [.int .i64 (idxI p ar 0)] := by
  have hel : es.length = ar.length := by rw [← hes]; simp
  unfold wideN at hs
  obtain ⟨q, hq⟩ : ∃ q, idxI p ar 0 = q := ⟨_, rfl⟩
  rw [hq]
  have hpc : ∀ (op' m' vk' vn' : Int) (vs' : ByteArray) (ar' : List Ex) (es' : List (List PV)) (i : Nat), ar[i]? = some (.mk op' m' ⟨vk', vn', vs'⟩ ar') → ar'.map Ex.cells = es' →
      PCall Try.prog k (.agg [.int .i64 op', .int .i64 m', .int .i64 vk', .int .i64 vn', .str vs', .sl es'] :: caps) fun r => r = [.bool (p (.mk op' m' ⟨vk', vn', vs'⟩ ar'))] := by
    intro op' m' vk' vn' vs' ar' es' i hx he
    have := hp _ (List.mem_of_getElem? hx)
    rw [cells_mk, he] at this
    exact this
  refine PCall.x (nt := 19) (res := [.tmp 4]) mixed tt_ok [] Try.func181 rfl rfl rfl c181 (Nat.le_of_ble_eq_true rfl) ?_
  intro cp cc lp Q' hcp hcc hlp hQ
  repeat' (first
    | (with_reducible refine Nm.mk ?_; intro z hz)
    | (with_reducible refine IfB.mk ?_ ?_ <;> (intro h; cases h))
    | (with_reducible refine Asm.mk ?_ ?_; focus (first | kernel_rfl | decide))
    | (with_reducible refine Asm.mk2 ?_ ?_)
    | ((fail_if_success (with_reducible refine hQ _ ?_)); (fail_if_success (with_reducible refine Side.mk ?_)); (fail_if_success (with_reducible refine isCP hcp ?_)); (fail_if_success (with_reducible refine isCC hcc ?_)); (fail_if_success (with_reducible refine isLP hlp ?_)); (fail_if_success (with_reducible refine Ix.mk ?_)); (fail_if_success (with_reducible refine SIx.mk ?_)); (fail_if_success (with_reducible refine SEx.mk ?_)); (fail_if_success (with_reducible refine EIx.mk ?_)); (fail_if_success (with_reducible show False)); (fail_if_success (with_reducible refine hR ?_ _ ?_ ?_ ?_ ?_ ?_)); (fail_if_success (with_reducible refine hR2 ?_ _ ?_ ?_ ?_ ?_ ?_)); cbv))
  simp only [nc] at hz
  simp only [nc'] at hz
  have hzl := hz
  clear hz
  rename Int => zl
  refine loopK (ι := Int) mixed tt_ok hcp hcc hlp [0, 1, 7] (fun i => [(8, .p (.int .i64 i))]) (fun i => 0 ≤ i ∧ i ≤ zl ∧ idxI p (ar.drop i.toNat) i = q) (fun i => (zl - i).toNat) 0 (fun _ => rfl) ⟨by omega, by omega, hq⟩ ⟨rfl, trivial⟩ ?_
  rintro R i ⟨hi0, hi1, hiq⟩ hR
  have hk : decide (i < zl) = true → i < ar.length := by simp only [decide_eq_true_eq]; omega
  have hst : decide (i < zl) = true → IntKind.i64.wrap (i + 1) = i + 1 ∧ (0 ≤ i + 1 ∧ i + 1 ≤ zl) ∧ (zl - (i + 1)).toNat < (zl - i).toNat := by
    intro h
    have hlt := hk h
    simp only [decide_eq_true_eq] at h
    exact ⟨wrap_in (by omega), by omega, by omega⟩
  have hstep : ∀ x, ar[i.toNat]? = some x → q = if p x = true then i else idxI p (ar.drop (i + 1).toNat) (i + 1) := by
    intro x hx
    have hlt := (List.getElem?_eq_some_iff.1 hx).1
    rw [← hiq, List.drop_eq_getElem_cons hlt, show (i + 1).toNat = i.toNat + 1 by omega, idxI]
    rw [(List.getElem?_eq_some_iff.1 hx).2]
  have hfin : decide (i < zl) = false → q = -1 := by
    simp only [decide_eq_false_iff_not]; intro h
    rw [← hiq, List.drop_eq_nil_of_le (by omega)]; rfl
  repeat' (first
    | (with_reducible refine Nm.mk ?_; intro z hz)
    | (with_reducible refine IfB.mk ?_ ?_ <;> (intro h; cases h))
    | (with_reducible refine Asm.mk ?_ ?_; focus kernel_rfl)
    | (with_reducible refine Ix.ex hes hi0 (hk (by assumption)) ?_; intro op' m' vk' vn' vs' ar' es' hx hes')
    | (with_reducible refine isCC hcc ?_; refine bA hcc (hpc _ _ _ _ _ _ _ i.toNat (by assumption) (by assumption)) (hb1 rfl) ?_; intro z hz)
    | (with_reducible refine Asm.mk2 ?_ ?_)
    | ((fail_if_success (with_reducible refine hQ _ ?_)); (fail_if_success (with_reducible refine Side.mk ?_)); (fail_if_success (with_reducible refine isCP hcp ?_)); (fail_if_success (with_reducible refine isCC hcc ?_)); (fail_if_success (with_reducible refine isLP hlp ?_)); (fail_if_success (with_reducible refine Ix.mk ?_)); (fail_if_success (with_reducible refine SIx.mk ?_)); (fail_if_success (with_reducible refine SEx.mk ?_)); (fail_if_success (with_reducible refine EIx.mk ?_)); (fail_if_success (with_reducible show False)); (fail_if_success (with_reducible refine hR ?_ _ ?_ ?_ ?_ ?_ ?_)); (fail_if_success (with_reducible refine hR2 ?_ _ ?_ ?_ ?_ ?_ ?_)); cbv))
  all_goals first
    | (have e := hstep _ hx
       obtain ⟨e1, u, mu⟩ := hst (by assumption)
       first
         | (refine hQ _ ?_
            rw [e, if_pos (by assumption)])
         | (rw [e1] at hz
            have hp0 : p (.mk op' m' ⟨vk', vn', vs'⟩ ar') = false := by assumption
            rw [hp0, if_neg (by decide)] at e
            exact hR (i + 1) _ ⟨u.1, u.2, e.symm⟩ mu ⟨hz ▸ rfl, trivial⟩ ⟨rfl, rfl, rfl, trivial⟩ rfl))
    | (refine hQ _ ?_
       rw [hfin (by assumption)])
theorem containsFunc_c (k : Nat) (caps : List PV) (p : Ex → Bool) (ar : List Ex) (es : List (List PV)) (hes : ar.map Ex.cells = es) (hs : wideN ar.length)
    (hp : ∀ e, e ∈ ar → PCall Try.prog k (.agg e.cells :: caps) fun r => r = [.bool (p e)]) : PCall Try.prog 122 [.sl es, .fn k caps] fun r => r = [.bool (ar.any p)] := by
  have h := indexFunc_c k caps p ar es hes hs hp
  have ha := idxI_any p ar 0 (by decide)
  refine PCall.x (nt := 9) (res := [.tmp 4]) mixed tt_ok [] Try.func122 rfl rfl rfl c122 (Nat.le_of_ble_eq_true rfl) ?_
  intro cp cc lp Q' hcp hcc hlp hQ
  repeat' (first
    | (with_reducible refine Nm.mk ?_; intro z hz)
    | (with_reducible refine IfB.mk ?_ ?_ <;> (intro h; cases h))
    | (with_reducible refine Asm.mk ?_ ?_; focus (first | kernel_rfl | decide))
    | (with_reducible refine isCP hcp ?_; first | (refine iP hcp (h) ?_; intro z hz))
    | (with_reducible refine isCC hcc ?_; first | (refine iA hcc (h) rfl ?_; intro z hz))
    | (with_reducible refine Asm.mk2 ?_ ?_)
    | ((fail_if_success (with_reducible refine hQ _ ?_)); (fail_if_success (with_reducible refine Side.mk ?_)); (fail_if_success (with_reducible refine isCP hcp ?_)); (fail_if_success (with_reducible refine isCC hcc ?_)); (fail_if_success (with_reducible refine isLP hlp ?_)); (fail_if_success (with_reducible refine Ix.mk ?_)); (fail_if_success (with_reducible refine SIx.mk ?_)); (fail_if_success (with_reducible refine SEx.mk ?_)); (fail_if_success (with_reducible refine EIx.mk ?_)); (fail_if_success (with_reducible show False)); (fail_if_success (with_reducible refine hR ?_ _ ?_ ?_ ?_ ?_ ?_)); (fail_if_success (with_reducible refine hR2 ?_ _ ?_ ?_ ?_ ?_ ?_)); cbv))
  all_goals (refine hQ _ ?_; clear hQ hcp hcc hlp h hp; congr 2; subst_vars; rw [Bool.eq_iff_iff, ← ha]; simp)
end Go.Proofs.Ytnhmnfokbinplaa
