/- Expressions: Eval. Own work; no condition. -/
import Derived.Test.YtnhmnfokbinplaaEx4
import Derived.Test.YtnhmnfokbinplaaExP
namespace Go.Proofs.Ytnhmnfokbinplaa
open Go Go.RowKit
set_option maxRecDepth 100000
set_option linter.unusedSimpArgs false
set_option linter.unusedVariables false

/-- What the model's numbers and texts are bounded by. -/
def okV (v : Val) : Prop := (-9223372036854775808 ≤ v.n ∧ v.n ≤ 9223372036854775807) ∧ v.s.size ≤ 140737488355328
theorem okV_zero : okV Val.zero := ⟨by decide, by decide⟩
theorem okV_num {n : Int} (h : -9223372036854775808 ≤ n ∧ n ≤ 9223372036854775807) : okV (num n) := ⟨h, by show (0 : Nat) ≤ _; omega⟩
theorem okV_flag (b : Bool) : okV (flag b) := okV_num (by split <;> decide)
theorem okV_clean {v : Val} (h : okV v) : okV (clean v) := by
  unfold clean
  split
  · exact ⟨h.1, by show (0 : Nat) ≤ _; omega⟩
  · split
    · exact ⟨by show _ ≤ (0 : Int) ∧ (0 : Int) ≤ _; omega, h.2⟩
    · exact okV_zero
theorem okV_opt (o : Option Int) (h : ∀ n, o = some n → -9223372036854775808 ≤ n ∧ n ≤ 9223372036854775807) : okV (optNum o) := by
  cases o with
  | none => exact okV_zero
  | some n => exact okV_num (h n rfl)
theorem in64_some {x n : Int} (h : in64 x = some n) : -9223372036854775808 ≤ n ∧ n ≤ 9223372036854775807 := by
  unfold in64 at h
  split at h
  · rename_i g; simp only [Option.some.injEq] at h; subst h; exact g
  · cases h
theorem okV_vlen {v : Val} (h : okV v) : okV (vlenV v) := by
  unfold vlenV
  split
  · refine okV_num ?_; have := h.2; omega
  · exact okV_zero
theorem okV_cat (a b : Val) : okV (catV a b) := by
  unfold catV
  split
  · exact okV_zero
  · rename_i h
    simp only [not_or, Decidable.not_not, Int.not_lt] at h
    refine ⟨by show _ ≤ (0 : Int) ∧ (0 : Int) ≤ _; omega, ?_⟩
    show (a.s ++ b.s).size ≤ _
    rw [ByteArray.size_append]; omega
theorem okV_not (a : Val) : okV (vnot a) := by unfold vnot; split; exact okV_flag _; exact okV_zero
theorem okV_both (op : Int) (a b : Val) : okV (both op a b) := by unfold both; (repeat' split) <;> first | exact okV_flag _ | exact okV_zero
theorem okV_test (op : Int) (a b : Val) : okV (testV op a b) := by unfold testV; split; exact okV_zero; exact okV_flag _
theorem okV_reckon (op : Int) {a b : Val} (ha : okV a) (hb : okV b) : okV (reckon op a b) := by
  unfold reckon
  split
  · refine okV_opt _ fun n hn => ?_
    have h1 := ha.1
    have h2 := hb.1
    unfold reckN at hn
    split at hn
    · exact in64_some hn
    split at hn
    · exact in64_some hn
    split at hn
    · exact in64_some hn
    split at hn
    · split at hn
      · cases hn
      · exact in64_some hn
    split at hn
    · split at hn
      · cases hn
      · rename_i h0
        simp only [Option.some.injEq] at hn
        subst hn
        have h3 : (a.n.tmod b.n).natAbs ≤ a.n.natAbs := by rw [Int.natAbs_tmod]; exact Nat.mod_le _ _
        have h4 : 0 ≤ a.n → 0 ≤ a.n.tmod b.n := fun h => Int.tmod_nonneg _ h
        have h5 : a.n ≤ 0 → a.n.tmod b.n ≤ 0 := fun h => by
          have := Int.tmod_nonneg b.n (a := -a.n) (by omega)
          rw [Int.neg_tmod] at this; omega
        omega
    · cases hn
  · exact okV_zero

mutual
def Ex.okc : Ex → Prop
  | .mk _ _ v ar => okV v ∧ okcL ar
def okcL : List Ex → Prop
  | [] => True
  | e :: r => e.okc ∧ okcL r
end
theorem okc_mem : ∀ {l : List Ex} {e : Ex}, okcL l → e ∈ l → e.okc
  | [], _, _, h => by simp at h
  | a :: r, e, hw, h => by
    rcases List.mem_cons.1 h with g | g
    · subst g; exact hw.1
    · exact okc_mem hw.2 g
theorem good_mem {l : List Ex} (h : goodL l = true) {e : Ex} (he : e ∈ l) : goodE e = true := by
  rw [goodL_all] at h; exact List.all_eq_true.1 h e he

theorem okV_evOp {col : Int → Val} {op n : Int} {v : Val} {l : List Val} (hc : op = 1 → okV (col n)) (hv : okV v) (hl : ∀ x, x ∈ l → okV x) : okV (evOp col op n v l) := by
  have g : ∀ i : Nat, okV ((l[i]?).getD Val.zero) := by
    intro i
    cases h : l[i]? with
    | none => exact okV_zero
    | some x => exact hl x (List.mem_of_getElem? h)
  unfold evOp
  split
  · rename_i h; exact hc h
  split
  · exact okV_clean hv
  split
  · exact okV_reckon _ (okV_num (by decide)) (g 0)
  split
  · exact okV_not _
  split
  · exact okV_flag _
  split
  · exact okV_vlen (g 0)
  split
  · exact okV_reckon _ (g 0) (g 1)
  split
  · exact okV_cat _ _
  split
  · exact okV_both _ _ _
  split
  · split
    · exact g 1
    · exact g 2
  · exact okV_test _ _ _

/-- What a worker is to give for an expression. -/
def Works (kc : Nat) (cc0 : List PV) (col : Int → Val) (e : Ex) : Prop :=
  okV (evalE col e) ∧ PCall Try.prog (wk e).1 (.fn kc cc0 :: (wk e).2) fun r => r = [(evalE col e).enc]
theorem work_c {kc : Nat} {cc0 : List PV} {col : Int → Val} (hcol : ∀ n, 0 ≤ n → okV (col n) ∧ PCall Try.prog kc (.int .i64 n :: cc0) fun r => r = [(col n).enc])
    (op n : Int) (v : Val) (ar : List Ex) (hb : badE op n v ar.length = false) (hv : okV v) (IH : ∀ x, x ∈ ar → Works kc cc0 col x) : Works kc cc0 col (.mk op n v ar) := by
  have ha := badE_arity hb
  have hop := arity_ops ha
  have hn : op = 1 → 0 ≤ n := by
    intro h
    subst h
    simp only [badE, Bool.or_eq_false_iff, Bool.and_eq_false_iff, decide_eq_false_iff_not] at hb
    rcases hb.1.2 with h | h
    · exact absurd trivial h
    · omega
  refine ⟨?_, ?_⟩
  · rw [evalE, evalL_eq]
    refine okV_evOp (fun h => (hcol n (hn h)).1) hv fun x hx => ?_
    obtain ⟨a, ha', rfl⟩ := List.mem_map.1 hx
    exact (IH a ha').1
  rw [wk, cells_mk, wkL_eq, evalE, evalL_eq]
  have l0 : ∀ a r, (wkc a :: r)[0]? = some [PV.fn (wk a).1 (wk a).2] := fun _ _ => rfl
  by_cases a0 : op = 1 ∨ op = 2
  · rcases a0 with rfl | rfl
    · exact colW_c kc cc0 _ n _ _ _ _ _ (hcol n (hn rfl)).2
    · exact constW_c kc cc0 (clean v)
  by_cases a1 : op = 3 ∨ op = 4 ∨ op = 5 ∨ op = 6
  · have hl : ar.length = 1 := by
      rcases a1 with rfl | rfl | rfl | rfl <;> (simp [arityE] at ha; omega)
    match ar, hl, IH with
    | [a], _, IH =>
      obtain ⟨ia, wa⟩ := IH a (by simp)
      rcases a1 with rfl | rfl | rfl | rfl
      · exact run1_c 175 [] _ _ kc cc0 _ rfl _ _ wa (negW_c _ ia.1)
      · exact run1_c 20 [] _ _ kc cc0 _ rfl _ _ wa (not_c _ _ _)
      · exact run1_c 176 _ _ _ kc cc0 _ rfl _ _ wa (nullW_c _)
      · exact run1_c 177 [] _ _ kc cc0 _ rfl _ _ wa (lenW_c _ ia.2)
  by_cases a3 : op = 21
  · have hl : ar.length = 3 := by subst a3; simp [arityE] at ha; omega
    match ar, hl, IH with
    | [a, b, c], _, IH =>
      obtain ⟨ia, wa⟩ := IH a (by simp)
      obtain ⟨ib, wb⟩ := IH b (by simp)
      obtain ⟨ic, wc⟩ := IH c (by simp)
      subst a3
      exact run3_c _ _ _ _ _ _ kc cc0 _ rfl rfl rfl _ _ _ wa wb wc
  have hl : ar.length = 2 := by
    have : arityE op = 2 := by unfold arityE; rw [if_neg a0, if_neg a1, if_neg a3, if_pos (by omega)]
    rw [this] at ha; omega
  match ar, hl, IH with
  | [a, b], _, IH =>
    obtain ⟨ia, wa⟩ := IH a (by simp)
    obtain ⟨ib, wb⟩ := IH b (by simp)
    have two : ∀ (kf : Nat) (cf : List PV) (c : Val), (PCall Try.prog kf ((evalE col a).enc :: (evalE col b).enc :: cf) fun r => r = [c.enc]) → PCall Try.prog 169 [.fn kc cc0, .ip [.fn kf cf], .ip [.sl ([a, b].map wkc)]] fun r => r = [c.enc] :=
      fun kf cf c h => run2_c kf cf _ _ _ _ kc cc0 _ rfl rfl _ _ c wa wb h
    have by' : ∀ (kf : Nat) (c : Val), (PCall Try.prog kf [.int .i64 op, (evalE col a).enc, (evalE col b).enc] fun r => r = [c.enc]) →
        PCall Try.prog 169 [.fn kc cc0, .ip [.fn 171 [.ip [.fn kf []], .ip [.int .i64 op, .int .i64 n, .int .i64 v.k, .int .i64 v.n, .str v.s, .sl ([a, b].map Ex.cells)]]], .ip [.sl ([a, b].map wkc)]] fun r => r = [c.enc] :=
      fun kf c h => two 171 _ c (runBy_c kf [] op n _ _ _ _ _ _ c h)
    by_cases b1 : op = 7 ∨ op = 8 ∨ op = 9 ∨ op = 10 ∨ op = 11
    · have h := by' 29 _ (reckon_c op _ _ _ _ _ _ ia.1 ib.1)
      rcases b1 with rfl | rfl | rfl | rfl | rfl <;> exact h
    by_cases b2 : op = 18
    · subst b2
      exact two 55 [] _ (cat_c _ _ _ _ _ _ (by have := ia.2; omega) (by have := ib.2; omega))
    by_cases b3 : op = 19 ∨ op = 20
    · have h := by' 19 _ (both_c op _ _ _ _ _ _)
      rcases b3 with rfl | rfl <;> exact h
    · have h := by' 52 _ (test_c op _ _ _ _ _ _)
      have : op = 12 ∨ op = 13 ∨ op = 14 ∨ op = 15 ∨ op = 16 ∨ op = 17 := by omega
      rcases this with rfl | rfl | rfl | rfl | rfl | rfl <;> exact h
theorem work_all {kc : Nat} {cc0 : List PV} {col : Int → Val} (hcol : ∀ n, 0 ≤ n → okV (col n) ∧ PCall Try.prog kc (.int .i64 n :: cc0) fun r => r = [(col n).enc]) :
    ∀ (m : Nat) (e : Ex), e.sz ≤ m → goodE e = true → e.okc → Works kc cc0 col e
  | 0, .mk op n v ar, h, _, _ => by simp [Ex.sz] at h
  | m + 1, .mk op n v ar, h, hg, ho => by
    simp only [goodE, Bool.and_eq_true, Bool.not_eq_true'] at hg
    refine work_c hcol op n v ar hg.1 ho.1 fun x hx => work_all hcol m x ?_ (good_mem hg.2 hx) (okc_mem ho.2 hx)
    have := sz_mem hx
    simp only [Ex.sz] at h; omega

/-- The columns of a row. -/
theorem rowOf_c (R : List (List PV)) : PCall Try.prog 119 [.sl R] fun r => r = [.fn 179 [.ip [.sl R]]] := by
  refine PCall.x (nt := 4) (res := [.tmp 2]) mixed tt_ok [] Try.func119 rfl rfl rfl c119 (Nat.le_of_ble_eq_true rfl) ?_
  intro cp cc lp Q' hcp hcc hlp hQ
  repeat' (first
    | (with_reducible refine Nm.mk ?_; intro z hz)
    | (with_reducible refine IfB.mk ?_ ?_ <;> (intro h; cases h))
    | (with_reducible refine Asm.mk ?_ ?_; focus (first | kernel_rfl | decide))
    | (with_reducible refine Asm.mk2 ?_ ?_)
    | ((fail_if_success (with_reducible refine hQ _ ?_)); (fail_if_success (with_reducible refine Side.mk ?_)); (fail_if_success (with_reducible refine isCP hcp ?_)); (fail_if_success (with_reducible refine isCC hcc ?_)); (fail_if_success (with_reducible refine isLP hlp ?_)); (fail_if_success (with_reducible refine Ix.mk ?_)); (fail_if_success (with_reducible refine SIx.mk ?_)); (fail_if_success (with_reducible refine SEx.mk ?_)); (fail_if_success (with_reducible refine EIx.mk ?_)); (fail_if_success (with_reducible show False)); (fail_if_success (with_reducible refine hR ?_ _ ?_ ?_ ?_ ?_ ?_)); (fail_if_success (with_reducible refine hR2 ?_ _ ?_ ?_ ?_ ?_ ?_)); cbv))
  all_goals (refine hQ _ ?_; clear hQ hcp hcc hlp; subst_vars; simp_all [])
theorem rowCol_c (row : List Val) (R : List (List PV)) (hR : row.map Val.cells = R) (n : Int) (h0 : 0 ≤ n) : PCall Try.prog 179 [.int .i64 n, .ip [.sl R]] fun r => r = [(colOf row n).enc] := by
  have hl : R.length = row.length := by rw [← hR]; simp
  have hk : ∀ z : Int, (R.length : Int) = z → decide (z ≤ n) = false → n < row.length := by intro z h g; simp only [decide_eq_false_iff_not] at g; omega
  have hc1 : ∀ z : Int, (R.length : Int) = z → decide (z ≤ n) = true → colOf row n = Val.zero := by
    intro z h g; simp only [decide_eq_true_eq] at g; unfold colOf; rw [if_pos (by omega)]
  have hc2 : ∀ (z : Int) (x : Val), (R.length : Int) = z → decide (z ≤ n) = false → row[n.toNat]? = some x → colOf row n = clean x := by
    intro z x h g hx; simp only [decide_eq_false_iff_not] at g; unfold colOf; rw [if_neg (by omega), hx]; rfl
  refine PCall.x (nt := 14) (res := [.cell 3 25]) mixed tt_ok [] Try.func179 rfl rfl rfl c179 (Nat.le_of_ble_eq_true rfl) ?_
  intro cp cc lp Q' hcp hcc hlp hQ
  repeat' (first
    | (with_reducible refine Nm.mk ?_; intro z hz)
    | (with_reducible refine IfB.mk ?_ ?_ <;> (intro h; cases h))
    | (with_reducible refine Asm.mk ?_ ?_; focus kernel_rfl)
    | (with_reducible refine isCP hcp ?_; first | (refine vP hcp (clean_c _ _ _) ?_; intro v hv))
    | (with_reducible refine isCC hcc ?_; first | (refine vA hcc (clean_c _ _ _) rfl ?_; intro v hv))
    | (with_reducible refine Ix.map hR cells_len (by decide) h0 (hk _ (by assumption) (by assumption)) ?_; intro x hx)
    | (with_reducible refine Asm.mk2 ?_ ?_)
    | ((fail_if_success (with_reducible refine hQ _ ?_)); (fail_if_success (with_reducible refine Side.mk ?_)); (fail_if_success (with_reducible refine isCP hcp ?_)); (fail_if_success (with_reducible refine isCC hcc ?_)); (fail_if_success (with_reducible refine isLP hlp ?_)); (fail_if_success (with_reducible refine Ix.mk ?_)); (fail_if_success (with_reducible refine SIx.mk ?_)); (fail_if_success (with_reducible refine SEx.mk ?_)); (fail_if_success (with_reducible refine EIx.mk ?_)); (fail_if_success (with_reducible show False)); (fail_if_success (with_reducible refine hR ?_ _ ?_ ?_ ?_ ?_ ?_)); (fail_if_success (with_reducible refine hR2 ?_ _ ?_ ?_ ?_ ?_ ?_)); cbv))
  · refine hQ _ ?_
    rw [hc1 _ (by assumption) (by assumption)]; rfl
  · refine hQ _ ?_
    rw [hc2 _ _ (by assumption) (by assumption) hx]
    clear hQ hcp hcc hlp hk hc1 hc2
    subst_vars; rfl
def rowOk (row : List Val) : Prop := ∀ v, v ∈ row → okV v
theorem okV_colOf {row : List Val} (h : rowOk row) (n : Int) : okV (colOf row n) := by
  unfold colOf
  split
  · exact okV_zero
  · refine okV_clean ?_
    cases hx : row[n.toNat]? with
    | none => exact okV_zero
    | some x => exact h x (List.mem_of_getElem? hx)
theorem eval_c (op n vk vn : Int) (vs : ByteArray) (ar : List Ex) (es : List (List PV)) (hes : ar.map Ex.cells = es) (hw : (Ex.mk op n ⟨vk, vn, vs⟩ ar).wide) (ho : (Ex.mk op n ⟨vk, vn, vs⟩ ar).okc) (row : List Val) (R : List (List PV)) (hR : row.map Val.cells = R) (hr : rowOk row) :
    PCall Try.prog 64 [.agg [.int .i64 op, .int .i64 n, .int .i64 vk, .int .i64 vn, .str vs, .sl es], .sl R] fun r => r = [(evalM (colOf row) (.mk op n ⟨vk, vn, vs⟩ ar)).enc] := by
  have hcm := compile_all _ _ (Nat.le_refl _) hw
  have hrun : builtM (.mk op n ⟨vk, vn, vs⟩ ar) = true → PCall Try.prog (wk (.mk op n ⟨vk, vn, vs⟩ ar)).1 (.fn 179 [.ip [.sl R]] :: (wk (.mk op n ⟨vk, vn, vs⟩ ar)).2) fun r => r = [(evalM (colOf row) (.mk op n ⟨vk, vn, vs⟩ ar)).enc] := by
    intro hb
    have h := (work_all (kc := 179) (cc0 := [.ip [.sl R]]) (col := colOf row) (fun n h => ⟨okV_colOf hr n, rowCol_c row R hR n h⟩) _ _ (Nat.le_refl _) (good_of_built hb) ho).2
    unfold evalM; rw [if_pos hb]; exact h
  have hno : builtM (.mk op n ⟨vk, vn, vs⟩ ar) = false → evalM (colOf row) (.mk op n ⟨vk, vn, vs⟩ ar) = Val.zero := by intro hb; unfold evalM; rw [if_neg (by rw [hb]; decide)]
  have hbt := ebuilt_c op n vk vn vs ar es hes
  rw [cells_mk, hes] at hcm
  obtain ⟨E, hE⟩ : ∃ E, Ex.mk op n ⟨vk, vn, vs⟩ ar = E := ⟨_, rfl⟩
  rw [hE] at hcm hrun hno hbt ⊢
  obtain ⟨b, hb⟩ : ∃ b, builtM E = b := ⟨_, rfl⟩
  rw [hb] at hrun hno hbt
  have hrun' : ∀ k c z, wk E = (k, c) → b = z → (!z) = false → PCall Try.prog k (.fn 179 [.ip [.sl R]] :: c) fun r => r = [(evalM (colOf row) E).enc] := by
    intro k c z hk e hb
    subst e
    have := hrun (by simpa using hb)
    rw [hk] at this
    exact this
  refine PCall.x (nt := 14) (res := [.cell 4 25]) mixed tt_ok [] Try.func64 rfl rfl rfl c64 (Nat.le_of_ble_eq_true rfl) ?_
  intro cp cc lp Q' hcp hcc hlp hQ
  repeat' (first
    | (with_reducible refine Nm.mk ?_; intro z hz)
    | (with_reducible refine IfB.mk ?_ ?_ <;> (intro h; cases h))
    | (with_reducible refine Asm.mk ?_ ?_; focus kernel_rfl)
    | (with_reducible refine isCP hcp ?_; first | (refine bP hcp (hbt) ?_; intro z hz) | (refine fnP hcp (hcm) ?_; intro k c hX) | (refine xP hcp (rowOf_c _) ?_; skip))
    | (with_reducible refine isCC hcc ?_; first | (refine bA hcc (hbt) rfl ?_; intro z hz) | (refine fnA hcc (hcm) rfl ?_; intro k c hX) | (refine xA hcc (rowOf_c _) rfl ?_; skip))
    | (with_reducible refine isCC hcc ?_; refine vA hcc (hrun' _ _ _ hX (by assumption) (by assumption)) (hb1 rfl) ?_; intro v hv)
    | (with_reducible refine Asm.mk2 ?_ ?_)
    | ((fail_if_success (with_reducible refine hQ _ ?_)); (fail_if_success (with_reducible refine Side.mk ?_)); (fail_if_success (with_reducible refine isCP hcp ?_)); (fail_if_success (with_reducible refine isCC hcc ?_)); (fail_if_success (with_reducible refine isLP hlp ?_)); (fail_if_success (with_reducible refine Ix.mk ?_)); (fail_if_success (with_reducible refine SIx.mk ?_)); (fail_if_success (with_reducible refine SEx.mk ?_)); (fail_if_success (with_reducible refine EIx.mk ?_)); (fail_if_success (with_reducible show False)); (fail_if_success (with_reducible refine hR ?_ _ ?_ ?_ ?_ ?_ ?_)); (fail_if_success (with_reducible refine hR2 ?_ _ ?_ ?_ ?_ ?_ ?_)); cbv))
  · refine hQ _ ?_
    rw [hno (by clear hQ hcp hcc hlp hcm hrun hrun' hbt; simp_all)]; rfl
  · refine hQ _ ?_
    clear hQ hcp hcc hlp hcm hrun hrun' hbt
    subst_vars; rfl
end Go.Proofs.Ytnhmnfokbinplaa
