/- expr: Columns; Columns in plain terms: rising, each once; what Put asks; expr: Put; The law ExprPutIn. Own work; no condition. -/
import Derived.Test.YtnhmnfokbinplaaMp45
import Derived.Test.YtnhmnfokbinplaaMpSrt2
namespace Go.Proofs.Ytnhmnfokbinplaa
open Go Go.RowKit
set_option maxRecDepth 100000
set_option linter.unusedSimpArgs false
set_option linter.unusedVariables false

def columnsM (e : Ex) : List Int := if builtM e = true then compZ (sortZ (colsM e)) else []
theorem columns_c (op n vk vn : Int) (vs : ByteArray) (ar : List Ex) (es : List (List PV)) (hes : ar.map Ex.cells = es) (hw : (Ex.mk op n ⟨vk, vn, vs⟩ ar).wide) :
    PCall Try.prog 80 [.agg [.int .i64 op, .int .i64 n, .int .i64 vk, .int .i64 vn, .str vs, .sl es]] fun r => r = [.sl ((columnsM (.mk op n ⟨vk, vn, vs⟩ ar)).map i64c)] := by
  have hbc := ebuilt_c op n vk vn vs ar es hes
  obtain ⟨e, he⟩ : ∃ e, Ex.mk op n ⟨vk, vn, vs⟩ ar = e := ⟨_, rfl⟩
  have hce : e.cells = [.int .i64 op, .int .i64 n, .int .i64 vk, .int .i64 vn, .str vs, .sl es] := by rw [← he, cells_mk, hes]
  rw [he] at hbc hw ⊢
  obtain ⟨bt, hbt⟩ : ∃ b, builtM e = b := ⟨_, rfl⟩
  obtain ⟨PL, hPL⟩ : ∃ l, colsM e = l := ⟨_, rfl⟩
  obtain ⟨C', hC'⟩ : ∃ l, PL.map i64c = l := ⟨_, rfl⟩
  obtain ⟨n', hn'⟩ : ∃ l, C'.length = l := ⟨_, rfl⟩
  obtain ⟨g', hg'⟩ : ∃ l, PL.length = l := ⟨_, rfl⟩
  have hcall : bt = true → ACall Try.prog 142 [.p (.agg [.int .i64 op, .int .i64 n, .int .i64 vk, .int .i64 vn, .str vs, .sl es]), .fn 143 [.ref 0 0]] (colS 0 0 []) fun r H' => r = .tup [] ∧ takeX H' 2 = colS g' n' C' := by
    intro hb
    exact each_sall _ e (Nat.le_refl _) hw _ 0 0 [] [] hce rfl rfl (by have := built_szK (hbt.trans hb); omega) g' n' C' (by rw [hPL]; exact hC') hn' (by rw [hPL]; omega)
  have hnb : bt = true → n' < 4611686018427387904 := by
    intro hb
    have h1 := built_szK (hbt.trans hb)
    have h2 := cols_sz e
    rw [hPL] at h2
    have h3 : C'.length = PL.length := by rw [← hC']; simp
    omega
  rw [columnsM, hbt, hPL]
  rw [hbt] at hbc
  have hbn : ∀ {z : Bool}, bt = z → (!z) = false → bt = true := by rintro z rfl h; simpa using h
  have hbf : ∀ {z : Bool}, bt = z → (!z) = true → bt = false := by rintro z rfl h; simpa using h
  have hsl : ∀ {C2 : List (List PV)}, (sortZ PL).map i64c = C2 → C2.length = n' := by
    intro C2 h; rw [← h, List.length_map, sortZ_len, ← hn', ← hC', List.length_map]
  refine PCall.x (nt := 14) (res := [.tmp 2]) mixed tt_ok [] Try.func80 rfl rfl rfl c80 (Nat.le_of_ble_eq_true rfl) ?_
  intro cp cc lp Q' hcp hcc hlp hQ
  repeat' (first
    | (with_reducible refine Nm.mk ?_; intro z hz)
    | (with_reducible refine IfB.mk ?_ ?_ <;> (intro h; cases h))
    | (with_reducible refine Two.l ?_; refine Asm.mk ?_ ?_; focus (decide +kernel))
    | (with_reducible refine Two.r ?_)
    | (with_reducible refine Asm.mk ?_ ?_; focus kernel_rfl)
    | (with_reducible refine isCP hcp ?_; first | (refine bP hcp (hbc) ?_; intro z hz))
    | (with_reducible refine isCC hcc ?_; first | (refine bA hcc (hbc) rfl ?_; intro z hz))
    | (with_reducible refine isCC hcc ?_; refine mintCC hcc 1 1 0 rfl rfl ?_; refine frameK (H1 := colS g' n' C') hcc [1, 2] (hcall (hbn (by assumption) (by assumption))) rfl rfl rfl rfl rfl rfl rfl ?_)
    | (with_reducible refine isCC hcc ?_; refine sortCC hcc 2 g' n' PL rfl rfl hC' hn' (hnb (hbn (by assumption) (by assumption))) ?_; intro C2 hC2)
    | (with_reducible refine isCC hcc ?_; refine compactCC hcc 2 g' n' (sortZ PL) rfl rfl hC2 (hsl hC2) (hnb (hbn (by assumption) (by assumption))) ?_; intro C3 n3 hC3 hn3)
    | (with_reducible refine Asm.mk2 ?_ ?_)
    | ((fail_if_success (with_reducible first | refine hQ _ ?_ | refine Side.mk ?_ | refine isCP hcp ?_ | refine isCC hcc ?_ | refine isLP hlp ?_ | refine Ix.mk ?_ | refine SIx.mk ?_ | refine SEx.mk ?_ | refine EIx.mk ?_ | refine RIx.mk ?_ | show False | refine hR ?_ _ ?_ ?_ ?_ ?_ ?_ | refine hR2 ?_ _ ?_ ?_ ?_ ?_ ?_)); cbv))
  · refine hQ _ ?_
    rw [hbf (by assumption) (by assumption), if_neg (by decide)]; rfl
  · have h1 := padZ_len (sortZ PL)
    have h2 := compZ_len (sortZ PL)
    refine Side.mk ⟨rfl, ?_⟩
    rw [← hC3, List.length_map, ← hn3]; omega
  · refine hQ _ ?_
    rw [if_pos (hbn (by assumption) (by assumption)), ← hz, List.drop_zero, ← hC3, ← hn3, ← List.map_take, padZ, List.take_left]
end Go.Proofs.Ytnhmnfokbinplaa

namespace Go.Proofs.Ytnhmnfokbinplaa
open Go Go.RowKit
set_option maxRecDepth 100000
set_option linter.unusedSimpArgs false
set_option linter.unusedVariables false

theorem sortZ_mem (x : Int) (l : List Int) : x ∈ sortZ l ↔ x ∈ l := (List.mergeSort_perm l _).mem_iff
theorem sortZ_le (l : List Int) : (sortZ l).Pairwise (· ≤ ·) := by
  have h := List.pairwise_mergeSort (le := fun x y : Int => decide (x ≤ y)) (fun a b c h1 h2 => by simp only [decide_eq_true_eq] at *; omega) (fun a b => by simp only [Bool.or_eq_true, decide_eq_true_eq]; omega) l
  exact h.imp fun h => by simpa using h
theorem get!_arr (l : List Int) (j : Nat) (hj : j < l.length) : l.toArray[j]! = l[j] := by
  rw [getElem!_pos _ j (by simpa using hj)]; simp
theorem compZ_mem (x : Int) (l : List Int) : x ∈ compZ l ↔ x ∈ l := by
  unfold compZ Lib.compact Lib.compactUpTo
  rw [List.mem_map]
  constructor
  · rintro ⟨j, hj, rfl⟩
    rw [List.mem_filter, List.mem_range] at hj
    have h2 : j < l.length := hj.1
    rw [get!_arr l j h2]
    exact List.getElem_mem h2
  · intro hx
    obtain ⟨i, hi, hxi⟩ := List.mem_iff_getElem.1 hx
    -- the first place of x
    have key : ∀ k, k < l.length → l[k]? = some x → ∃ j, j < l.length ∧ l[j]? = some x ∧ (j = 0 ∨ l[j - 1]? ≠ some x) := by
      intro k
      induction k with
      | zero => intro h1 h2; exact ⟨0, h1, h2, .inl rfl⟩
      | succ k ih =>
        intro h1 h2
        by_cases h3 : l[k]? = some x
        · exact ih (by omega) h3
        · exact ⟨k + 1, h1, h2, .inr (by simpa using h3)⟩
    obtain ⟨j, hj, hjx, hj0⟩ := key i hi (by rw [List.getElem?_eq_getElem hi, hxi])
    have hjx2 : l[j] = x := by rw [List.getElem?_eq_getElem hj] at hjx; simpa using hjx
    refine ⟨j, ?_, by rw [get!_arr l j hj, hjx2]⟩
    rw [List.mem_filter, List.mem_range]
    refine ⟨hj, ?_⟩
    unfold Lib.keeps
    rw [decide_eq_true_eq]
    rcases hj0 with h | h
    · exact .inl h
    · by_cases h0 : j = 0
      · exact .inl h0
      · refine .inr ?_
        rw [get!_arr l j hj, get!_arr l (j - 1) (by omega), hjx2]
        intro e
        exact h (by rw [List.getElem?_eq_getElem (by omega), ← e])
theorem compZ_lt {l : List Int} (h : l.Pairwise (· ≤ ·)) : (compZ l).Pairwise (· < ·) := by
  unfold compZ Lib.compact Lib.compactUpTo
  rw [List.pairwise_map]
  have h1 : ((List.range l.length).filter (Lib.keeps l.toArray)).Pairwise (fun a b => a < b ∧ b < l.length ∧ Lib.keeps l.toArray b = true) := by
    have h2 := (List.pairwise_lt_range (n := l.length)).filter (Lib.keeps l.toArray)
    refine List.Pairwise.imp_of_mem ?_ h2
    intro a b ha hb hab
    rw [List.mem_filter, List.mem_range] at hb
    exact ⟨hab, hb.1, hb.2⟩
  refine h1.imp ?_
  rintro a b ⟨hab, hb, hk⟩
  rw [get!_arr l a (by omega), get!_arr l b hb]
  unfold Lib.keeps at hk
  rw [decide_eq_true_eq, get!_arr l b hb, get!_arr l (b - 1) (by omega)] at hk
  have hle : ∀ i j (hi : i < l.length) (hj : j < l.length), i ≤ j → l[i] ≤ l[j] := by
    intro i j hi hj hij
    rcases Nat.lt_or_ge i j with g | g
    · exact List.pairwise_iff_getElem.1 h i j hi hj g
    · have : i = j := by omega
      subst this; exact Int.le_refl _
  have h3 := hle a (b - 1) (by omega) (by omega) (by omega)
  have h4 := hle (b - 1) b (by omega) hb (by omega)
  rcases hk with hk | hk
  · omega
  · have : l[b] ≠ l[b - 1] := hk
    omega
/-- The columns: rising, each once, those that are met. -/
theorem cols_rise (l : List Int) : (compZ (sortZ l)).Pairwise (· < ·) := compZ_lt (sortZ_le l)
theorem cols_mem (x : Int) (l : List Int) : x ∈ compZ (sortZ l) ↔ x ∈ l := by rw [compZ_mem, sortZ_mem]
def lastZ (l : List Int) : Int := (l[l.length - 1]?).getD 0
theorem last_le {l : List Int} (h : l.Pairwise (· < ·)) {x : Int} (hx : x ∈ l) : x ≤ lastZ l := by
  obtain ⟨i, hi, rfl⟩ := List.mem_iff_getElem.1 hx
  rw [lastZ, List.getElem?_eq_getElem (by omega), Option.getD_some]
  rcases Nat.lt_or_ge i (l.length - 1) with g | g
  · exact Int.le_of_lt (List.pairwise_iff_getElem.1 h i (l.length - 1) hi (by omega) g)
  · have : i = l.length - 1 := by omega
    simp only [this]; exact Int.le_refl _
/-- Whether the last column is none of n. -/
theorem lost_last (l : List Int) (n : Int) : (0 < (compZ (sortZ l)).length ∧ n ≤ lastZ (compZ (sortZ l))) ↔ l.all (fun c => decide (c < n)) = false := by
  have hr := cols_rise l
  have hm := fun x => cols_mem x l
  generalize compZ (sortZ l) = c at hr hm
  constructor
  · rintro ⟨h1, h2⟩
    have hl : lastZ c ∈ c := by
      rw [lastZ, List.getElem?_eq_getElem (by omega), Option.getD_some]
      exact List.getElem_mem _
    rw [List.all_eq_false]
    exact ⟨lastZ c, (hm _).1 hl, by simpa using h2⟩
  · intro h
    rw [List.all_eq_false] at h
    obtain ⟨x, hx, hxn⟩ := h
    have hxc := (hm x).2 hx
    have h1 : n ≤ x := by simpa using hxn
    have h2 := last_le hr hxc
    exact ⟨List.length_pos_of_mem hxc, by omega⟩

/-! What is put in. -/
def PutC (n : Nat) (e : Ex) : Prop := match e with
  | .mk op m _ _ => op = 1 → 0 ≤ m ∧ m < n
mutual
theorem put_cond (by' : List Ex) : ∀ e : Ex, goodE e = true → (∀ n, n ∈ colsM e → n < by'.length) → CondE (PutC by'.length) (putN by') e
  | .mk op m v ar, hg, hc => by
    have hpos := cols_pos _ hg
    simp only [goodE, Bool.and_eq_true, Bool.not_eq_true'] at hg
    rw [CondE]
    refine ⟨?_, put_condL by' ar hg.2 fun n hn => hc n (by simp [colsM, hn])⟩
    show op = 1 → _
    intro h1
    rw [if_pos h1]
    have hm : m ∈ colsM (.mk op m v ar) := by simp [colsM, h1]
    exact ⟨hpos m hm, hc m hm⟩
theorem put_condL (by' : List Ex) : ∀ l : List Ex, goodL l = true → (∀ n, n ∈ colsL l → n < by'.length) → CondL (PutC by'.length) (putN by') l
  | [], _, _ => trivial
  | e :: r, hg, hc => by
    simp only [goodL, Bool.and_eq_true] at hg
    rw [CondL]
    exact ⟨put_cond by' e hg.1 fun n hn => hc n (by simp [colsL, hn]), put_condL by' r hg.2 fun n hn => hc n (by simp [colsL, hn])⟩
end
mutual
theorem put_okc (by' : List Ex) (hb : okcL by') : ∀ e : Ex, e.okc → (mapE (putN by') e).okc
  | .mk op n v ar, h => by
    rw [Ex.okc] at h
    rw [mapE, putN]
    split
    · exact okc_copy _ (okc_getD hb _)
    · rw [Ex.okc]
      refine ⟨?_, put_okcL by' hb ar h.2⟩
      (repeat' split) <;> first | exact okV_zero | exact okV_clean h.1
theorem put_okcL (by' : List Ex) (hb : okcL by') : ∀ l : List Ex, okcL l → okcL (mapL (putN by') l)
  | [], _ => trivial
  | e :: r, h => by
    rw [okcL] at h
    rw [mapL, okcL]
    exact ⟨put_okc by' hb e h.1, put_okcL by' hb r h.2⟩
end
theorem szL_len : ∀ l : List Ex, l.length ≤ szL l
  | [] => by simp
  | e :: r => by
    have := szL_len r
    have h1 : 1 ≤ e.sz := by cases e; rw [Ex.sz]; omega
    rw [szL, List.length_cons]; omega
mutual
theorem small_wide : ∀ e : Ex, e.sz ≤ 1000000 → e.wide
  | .mk op n v ar, h => by
    rw [Ex.sz] at h
    rw [Ex.wide]
    have := szL_len ar
    exact ⟨by unfold wideN; omega, small_wideL ar (by omega)⟩
theorem small_wideL : ∀ l : List Ex, szL l ≤ 1000000 → wideL l
  | [], _ => trivial
  | e :: r, h => by
    rw [szL] at h
    rw [wideL]
    exact ⟨small_wide e (by omega), small_wideL r (by omega)⟩
end
end Go.Proofs.Ytnhmnfokbinplaa

namespace Go.Proofs.Ytnhmnfokbinplaa
open Go Go.RowKit
set_option maxRecDepth 100000
set_option linter.unusedSimpArgs false
set_option linter.unusedVariables false

theorem notB_c (e : Ex) : PCall Try.prog 136 [.agg e.cells] fun r => r = [.bool (!builtM e)] := by
  obtain ⟨op, m, ⟨vk, vn, vs⟩, ar⟩ := e
  have h := ebuilt_c op m vk vn vs ar _ rfl
  rw [cells_mk]
  generalize ar.map Ex.cells = es at h
  show PCall Try.prog 136 [.agg [.int .i64 op, .int .i64 m, .int .i64 vk, .int .i64 vn, .str vs, .sl es]] _
  refine PCall.x (nt := 6) (res := [.tmp 2]) mixed tt_ok [] Try.func136 rfl rfl rfl c136 (Nat.le_of_ble_eq_true rfl) ?_
  intro cp cc lp Q' hcp hcc hlp hQ
  repeat' (first
    | (with_reducible refine Nm.mk ?_; intro z hz)
    | (with_reducible refine IfB.mk ?_ ?_ <;> (intro h; cases h))
    | (with_reducible refine Two.l ?_; refine Asm.mk ?_ ?_; focus (decide +kernel))
    | (with_reducible refine Two.r ?_)
    | (with_reducible refine Asm.mk ?_ ?_; focus (first | kernel_rfl | decide))
    | (with_reducible refine isCP hcp ?_; first | (refine bP hcp (h) ?_; intro z hz))
    | (with_reducible refine isCC hcc ?_; first | (refine bA hcc (h) rfl ?_; intro z hz))
    | (with_reducible refine Asm.mk2 ?_ ?_)
    | ((fail_if_success (with_reducible first | refine hQ _ ?_ | refine Side.mk ?_ | refine isCP hcp ?_ | refine isCC hcc ?_ | refine isLP hlp ?_ | refine Ix.mk ?_ | refine SIx.mk ?_ | refine SEx.mk ?_ | refine EIx.mk ?_ | refine RIx.mk ?_ | show False | refine hR ?_ _ ?_ ?_ ?_ ?_ ?_ | refine hR2 ?_ _ ?_ ?_ ?_ ?_ ?_)); cbv))
  all_goals (refine hQ _ ?_; clear hQ hcp hcc hlp h; simp_all)
/-- What is put in for a column. -/
theorem putN_c (by' : List Ex) (BY : List (List PV)) (hBY : by'.map Ex.cells = BY) (hw : wideL by') (op m vk vn : Int) (vs : ByteArray) (ar : List Ex) (es : List (List PV)) (hC : PutC by'.length (.mk op m ⟨vk, vn, vs⟩ ar)) (hes : ar.map Ex.cells = es) :
    PCall Try.prog 137 [.agg [.int .i64 op, .int .i64 m, .int .i64 vk, .int .i64 vn, .str vs, .sl es], .ip [.sl BY]] fun r => r = [.agg (putN by' (.mk op m ⟨vk, vn, vs⟩ ar)).cells] := by
  have hb : decide (op = 1) = true → 0 ≤ m ∧ m < by'.length := fun h => hC (of_decide_eq_true h)
  have hcopy : ∀ (op' m' vk' vn' : Int) (vs' : ByteArray) (ar' : List Ex) (es' : List (List PV)), by'[m.toNat]? = some (.mk op' m' ⟨vk', vn', vs'⟩ ar') → ar'.map Ex.cells = es' →
      PCall Try.prog 116 [.agg [.int .i64 op', .int .i64 m', .int .i64 vk', .int .i64 vn', .str vs', .sl es'], .fn 117 []] fun r => r = [.agg (mapE id (.mk op' m' ⟨vk', vn', vs'⟩ ar')).cells] := fun op' m' vk' vn' vs' ar' es' hx he => copy_c op' m' vk' vn' vs' ar' es' he (wide_mem hw (List.mem_of_getElem? hx))
  obtain ⟨q, hq⟩ : ∃ q, putN by' (.mk op m ⟨vk, vn, vs⟩ ar) = q := ⟨_, rfl⟩
  rw [hq]
  rw [putN] at hq
  clear hC
  refine PCall.x (nt := 14) (res := [.cell 3 80]) mixed tt_ok [] Try.func137 rfl rfl rfl c137 (Nat.le_of_ble_eq_true rfl) ?_
  intro cp cc lp Q' hcp hcc hlp hQ
  repeat' (first
    | (with_reducible refine Nm.mk ?_; intro z hz)
    | (with_reducible refine IfB.mk ?_ ?_ <;> (intro h; cases h))
    | (with_reducible refine Two.l ?_; refine Asm.mk ?_ ?_; focus (decide +kernel))
    | (with_reducible refine Two.r ?_)
    | (with_reducible refine Asm.mk ?_ ?_; focus kernel_rfl)
    | (with_reducible refine isCP hcp ?_; first | (refine exP hcp (hcopy _ _ _ _ _ _ _ (by assumption) (by assumption)) ?_; intro op2 n2 vk2 vn2 vs2 ar2 es2 hX hes2))
    | (with_reducible refine isCC hcc ?_; first | (refine exA hcc (hcopy _ _ _ _ _ _ _ (by assumption) (by assumption)) rfl ?_; intro op2 n2 vk2 vn2 vs2 ar2 es2 hX hes2))
    | (with_reducible refine Ix.ex hBY (hb (by assumption)).1 (hb (by assumption)).2 ?_; intro op' m' vk' vn' vs' ar' es' hx hes')
    | (with_reducible refine Asm.mk2 ?_ ?_)
    | ((fail_if_success (with_reducible first | refine hQ _ ?_ | refine Side.mk ?_ | refine isCP hcp ?_ | refine isCC hcc ?_ | refine isLP hlp ?_ | refine Ix.mk ?_ | refine SIx.mk ?_ | refine SEx.mk ?_ | refine EIx.mk ?_ | refine RIx.mk ?_ | show False | refine hR ?_ _ ?_ ?_ ?_ ?_ ?_ | refine hR2 ?_ _ ?_ ?_ ?_ ?_ ?_)); cbv))
  · refine hQ _ ?_
    rw [if_pos (of_decide_eq_true (by assumption)), hx] at hq
    rw [← hq, Option.getD_some, hX, cells_mk, hes2]
  · refine hQ _ ?_
    rw [if_neg (of_decide_eq_false hz)] at hq
    rw [← hq, cells_mk, hes]

set_option maxHeartbeats 4000000 in
theorem put_c (op m vk vn : Int) (vs : ByteArray) (ar : List Ex) (es : List (List PV)) (hes : ar.map Ex.cells = es) (hw : (Ex.mk op m ⟨vk, vn, vs⟩ ar).wide) (by' : List Ex) (BY : List (List PV)) (hBY : by'.map Ex.cells = BY) (hwb : wideL by') (hwn : wideN by'.length) (E : Ex) (err : Int) (hM : putM (.mk op m ⟨vk, vn, vs⟩ ar) by' = (E, err)) :
    PCall Try.prog 73 [.agg [.int .i64 op, .int .i64 m, .int .i64 vk, .int .i64 vn, .str vs, .sl es], .sl BY] fun r => r = [.agg E.cells, .int .i64 err] := by
  have hBl : BY.length = by'.length := by rw [← hBY]; simp
  have hcol := columns_c op m vk vn vs ar es hes hw
  have hbt := ebuilt_c op m vk vn vs ar es hes
  have hany := containsFunc_c 136 [] (fun e => !builtM e) by' BY hBY hwn fun e _ => notB_c e
  obtain ⟨e, he⟩ : ∃ e, Ex.mk op m ⟨vk, vn, vs⟩ ar = e := ⟨_, rfl⟩
  have hce : e.cells = [.int .i64 op, .int .i64 m, .int .i64 vk, .int .i64 vn, .str vs, .sl es] := by rw [← he, cells_mk, hes]
  rw [he] at hcol hbt hw hM
  have hmap : putOk e by' = true → PCall Try.prog 116 [.agg [.int .i64 op, .int .i64 m, .int .i64 vk, .int .i64 vn, .str vs, .sl es], .fn 137 [.ip [.sl BY]]] fun r => r = [.agg (mapE (putN by') e).cells] := by
    intro h
    rw [← hce]
    unfold putOk at h
    simp only [Bool.and_eq_true] at h
    exact mapped_all (putN by') 137 [.ip [.sl BY]] (PutC by'.length) (fun op m vk vn vs ar es hC hes => putN_c by' BY hBY hwb op m vk vn vs ar es hC hes) _ e (Nat.le_refl _) hw (put_cond by' e (good_of_built h.1.1) fun n hn => by have := List.all_eq_true.1 h.2 n hn; simpa using this)
  have hlast := lost_last (colsM e) by'.length
  obtain ⟨cl, hcl⟩ : ∃ l, columnsM e = l := ⟨_, rfl⟩
  rw [hcl] at hcol
  obtain ⟨C, hC⟩ : ∃ l, cl.map i64c = l := ⟨_, rfl⟩
  rw [hC] at hcol
  have hCl : C.length = cl.length := by rw [← hC]; simp
  obtain ⟨bt, hb⟩ : ∃ b, builtM e = b := ⟨_, rfl⟩
  rw [hb] at hbt
  obtain ⟨ab, hab⟩ : ∃ b, by'.any (fun e => !builtM e) = b := ⟨_, rfl⟩
  rw [hab] at hany
  obtain ⟨la, hla⟩ : ∃ x, lastZ cl = x := ⟨_, rfl⟩
  have hsmall : C.length ≤ 1000000 := by
    rw [hCl, ← hcl, columnsM]
    split
    · rename_i hbb
      have h1 := built_szK hbb
      have h2 := cols_sz e
      have h3 := compZ_len (sortZ (colsM e))
      rw [sortZ_len] at h3
      omega
    · simp
  have hix : ∀ z1 z1' z2 : Int, IntKind.i64.wrap (z1' - 1) = z2 → (C.length : Int) = z1' → decide (0 < z1) = true → (C.length : Int) = z1 → 0 ≤ z2 ∧ C[z2.toNat]? = some [.int .i64 la] := by
    intro z1 z1' z2 h3 h1' h2 h1
    have h2 := of_decide_eq_true h2
    rw [wrap_in (by omega)] at h3
    refine ⟨by omega, ?_⟩
    rw [← hC, List.getElem?_map, show z2.toNat = cl.length - 1 by omega, ← hla, lastZ, List.getElem?_eq_getElem (by omega)]
    rfl
  have hok : bt = true → ab = false → ¬ (0 < C.length ∧ (by'.length : Int) ≤ la) → putOk e by' = true := by
    intro h1 h2 h3
    have hbb : builtM e = true := hb.trans h1
    have h4 : cl = compZ (sortZ (colsM e)) := by rw [← hcl, columnsM, if_pos hbb]
    rw [← h4, hla, ← hCl] at hlast
    unfold putOk
    simp only [Bool.and_eq_true]
    refine ⟨⟨hbb, ?_⟩, ?_⟩
    · rw [List.all_eq_true]
      intro x hx
      rw [← hab, List.any_eq_false] at h2
      have := h2 x hx
      simpa using this
    · cases h5 : (colsM e).all (fun n => decide (n < (by'.length : Int))) with
      | true => rfl
      | false => exact absurd (hlast.2 h5) h3
  have hno : bt = false ∨ ab = true ∨ (0 < C.length ∧ (by'.length : Int) ≤ la) → E = zeroX ∧ err = 1 := by
    intro h
    have hk : putOk e by' = false := by
      cases hk : putOk e by' with
      | false => rfl
      | true =>
        unfold putOk at hk
        simp only [Bool.and_eq_true] at hk
        rcases h with h | h | h
        · rw [hk.1.1] at hb; rw [← hb] at h; cases h
        · rw [← hab, List.any_eq_true] at h
          obtain ⟨x, hx, hx2⟩ := h
          have := List.all_eq_true.1 hk.1.2 x hx
          rw [this] at hx2; cases hx2
        · have h4 : cl = compZ (sortZ (colsM e)) := by rw [← hcl, columnsM, if_pos hk.1.1]
          rw [← h4, hla, ← hCl] at hlast
          have := hlast.1 h
          rw [hk.2] at this; cases this
    rw [putM, hk, if_neg (by decide)] at hM
    simp only [Prod.mk.injEq] at hM
    exact ⟨hM.1.symm, hM.2.symm⟩
  have hp0 : ∀ z : Bool, bt = z → (!z) = false → ab = false → ∀ z1 : Int, (C.length : Int) = z1 → decide (0 < z1) = false → putOk e by' = true := by
    intro z h1 h2 h3 z1 h4 h5
    have h5 := of_decide_eq_false h5
    exact hok (by rw [h1]; simpa using h2) h3 (by omega)
  have hp1 : ∀ z : Bool, bt = z → (!z) = false → ab = false → ∀ z1 : Int, (BY.length : Int) = z1 → decide (z1 ≤ la) = false → putOk e by' = true := by
    intro z h1 h2 h3 z1 h4 h5
    have h5 := of_decide_eq_false h5
    exact hok (by rw [h1]; simpa using h2) h3 (by omega)
  have hyes : putOk e by' = true → (builtM (mapE (putN by') e) = true → E = mapE (putN by') e ∧ err = 0) ∧ (builtM (mapE (putN by') e) = false → E = zeroX ∧ err = 3) := by
    intro h
    rw [putM, if_pos h] at hM
    refine ⟨fun h2 => ?_, fun h2 => ?_⟩
    · rw [if_pos h2] at hM; simp only [Prod.mk.injEq] at hM; exact ⟨hM.1.symm, hM.2.symm⟩
    · rw [if_neg (by rw [h2]; decide)] at hM; simp only [Prod.mk.injEq] at hM; exact ⟨hM.1.symm, hM.2.symm⟩
  clear hlast
  refine PCall.x (nt := 42) (res := [.cell 4 80, .tmp 5]) mixed tt_ok [(116, [1])] Try.func73 rfl rfl rfl c73 (Nat.le_of_ble_eq_true rfl) ?_
  intro cp cc lp Q' hcp hcc hlp hQ
  repeat' (first
    | (with_reducible refine Nm.mk ?_; intro z hz)
    | (with_reducible refine IfB.mk ?_ ?_ <;> (intro h; cases h))
    | (with_reducible refine Two.l ?_; refine Asm.mk ?_ ?_; focus (decide +kernel))
    | (with_reducible refine Two.r ?_)
    | (with_reducible refine Asm.mk ?_ ?_; focus kernel_rfl)
    | (with_reducible refine isCP hcp ?_; first | (refine xP hcp (hcol) ?_; skip) | (refine bP hcp (hbt) ?_; intro z hz) | (refine bP hcp (hany) ?_; intro z hz) | (refine exP hcp (hmap (hp0 _ (by assumption) (by assumption) (by assumption) _ (by assumption) (by assumption))) ?_; intro op2 n2 vk2 vn2 vs2 ar2 es2 hX hes2) | (refine exP hcp (hmap (hp1 _ (by assumption) (by assumption) (by assumption) _ (by assumption) (by assumption))) ?_; intro op2 n2 vk2 vn2 vs2 ar2 es2 hX hes2) | (refine bP hcp (ebuilt_c _ _ _ _ _ _ _ hes2) ?_; intro z hz))
    | (with_reducible refine isCC hcc ?_; first | (refine xA hcc (hcol) rfl ?_; skip) | (refine bA hcc (hbt) rfl ?_; intro z hz) | (refine bA hcc (hany) rfl ?_; intro z hz) | (refine exA hcc (hmap (hp0 _ (by assumption) (by assumption) (by assumption) _ (by assumption) (by assumption))) rfl ?_; intro op2 n2 vk2 vn2 vs2 ar2 es2 hX hes2) | (refine exA hcc (hmap (hp1 _ (by assumption) (by assumption) (by assumption) _ (by assumption) (by assumption))) rfl ?_; intro op2 n2 vk2 vn2 vs2 ar2 es2 hX hes2) | (refine bA hcc (ebuilt_c _ _ _ _ _ _ _ hes2) rfl ?_; intro z hz))
    | (with_reducible refine Ix.giveK (hix _ _ _ (by assumption) (by assumption) (by assumption) (by assumption)).1 (hix _ _ _ (by assumption) (by assumption) (by assumption) (by assumption)).2 rfl (by decide) ?_)
    | (with_reducible refine Asm.mk2 ?_ ?_)
    | ((fail_if_success (with_reducible first | refine hQ _ ?_ | refine Side.mk ?_ | refine isCP hcp ?_ | refine isCC hcc ?_ | refine isLP hlp ?_ | refine Ix.mk ?_ | refine SIx.mk ?_ | refine SEx.mk ?_ | refine EIx.mk ?_ | refine RIx.mk ?_ | show False | refine hR ?_ _ ?_ ?_ ?_ ?_ ?_ | refine hR2 ?_ _ ?_ ?_ ?_ ?_ ?_)); cbv))
  · obtain ⟨rfl, rfl⟩ := hno (.inl (by
      have h1 : bt = z := by assumption
      rw [h1]; simpa using hz))
    exact hQ _ rfl
  · obtain ⟨rfl, rfl⟩ := hno (.inr (.inl hz))
    exact hQ _ rfl
  · obtain ⟨rfl, rfl⟩ := hno (.inr (.inr (by
      have h1 := of_decide_eq_true hz
      have h2 : (BY.length : Int) = z := by assumption
      rename_i z1 h5 h3 _ _ _ _ _
      have h4 := of_decide_eq_true h3
      simp only [nc] at h5 h2
      simp only [nc'] at h5 h2
      rw [hBl] at h2
      refine ⟨by omega, ?_⟩
      rw [← h2] at h1
      exact h1)))
    exact hQ _ rfl
  · have hp := hp1 _ (by assumption) (by assumption) (by assumption) _ (by assumption) (by assumption)
    obtain ⟨rfl, rfl⟩ := (hyes hp).2 (by rw [hX]; rename_i h1; rw [h1]; simpa using hz)
    exact hQ _ rfl
  · have hp := hp1 _ (by assumption) (by assumption) (by assumption) _ (by assumption) (by assumption)
    obtain ⟨rfl, rfl⟩ := (hyes hp).1 (by rw [hX]; rename_i h1; rw [h1]; simpa using hz)
    refine hQ _ ?_
    rw [hX, cells_mk, hes2]
  · have hp := hp0 _ (by assumption) (by assumption) (by assumption) _ (by assumption) (by assumption)
    obtain ⟨rfl, rfl⟩ := (hyes hp).2 (by rw [hX]; rename_i h1; rw [h1]; simpa using hz)
    exact hQ _ rfl
  · have hp := hp0 _ (by assumption) (by assumption) (by assumption) _ (by assumption) (by assumption)
    obtain ⟨rfl, rfl⟩ := (hyes hp).1 (by rw [hX]; rename_i h1; rw [h1]; simpa using hz)
    refine hQ _ ?_
    rw [hX, cells_mk, hes2]
end Go.Proofs.Ytnhmnfokbinplaa

namespace Go.Proofs.Ytnhmnfokbinplaa
open Go Go.RowKit
set_option maxRecDepth 100000
set_option linter.unusedSimpArgs false
set_option linter.unusedVariables false

def sevenX : Ex := .mk 2 0 ⟨1, 7, ⟨⟨[]⟩⟩⟩ []
theorem seven_c : PCall Try.prog 77 [] fun r => r = [.bool true] := by
  have h1 := put_c 1 0 0 0 ⟨⟨[]⟩⟩ [] [] rfl (small_wide _ (by decide)) [sevenX] _ rfl (small_wideL _ (by decide)) (by unfold wideN; decide) sevenX 0 (by rfl)
  have h2 := eval_c 2 0 1 7 ⟨⟨[]⟩⟩ [] [] rfl (small_wide _ (by decide)) ⟨⟨by decide, by decide⟩, trivial⟩ [] [] rfl (fun v hv => by cases hv)
  replace h1 : PCall Try.prog 73 [.agg [.int .i64 1, .int .i64 0, .int .i64 0, .int .i64 0, .str ⟨⟨[]⟩⟩, .sl []], .sl [[.int .i64 2, .int .i64 0, .int .i64 1, .int .i64 7, .str ⟨⟨[]⟩⟩, .sl []]]] fun r => r = [.agg [.int .i64 2, .int .i64 0, .int .i64 1, .int .i64 7, .str ⟨⟨[]⟩⟩, .sl []], .int .i64 0] := h1
  replace h2 : PCall Try.prog 64 [.agg [.int .i64 2, .int .i64 0, .int .i64 1, .int .i64 7, .str ⟨⟨[]⟩⟩, .sl []], .sl []] fun r => r = [.agg [.int .i64 1, .int .i64 7, .str ⟨⟨[]⟩⟩]] := h2
  refine PCall.x (nt := 19) (res := [.tmp 0]) mixed tt_ok [] Try.func77 rfl rfl rfl c77 (Nat.le_of_ble_eq_true rfl) ?_
  intro cp cc lp Q' hcp hcc hlp hQ
  repeat' (first
    | (with_reducible refine Nm.mk ?_; intro z hz)
    | (with_reducible refine IfB.mk ?_ ?_ <;> (intro h; cases h))
    | (with_reducible refine Two.l ?_; refine Asm.mk ?_ ?_; focus (decide +kernel))
    | (with_reducible refine Two.r ?_)
    | (with_reducible refine Asm.mk ?_ ?_; focus (first | kernel_rfl | decide))
    | (with_reducible refine isCP hcp ?_; first | (refine xP hcp (h1) ?_; skip) | (refine xP hcp (h2) ?_; skip))
    | (with_reducible refine isCC hcc ?_; first | (refine xA hcc (h1) rfl ?_; skip) | (refine xA hcc (h2) rfl ?_; skip))
    | (with_reducible refine Asm.mk2 ?_ ?_)
    | ((fail_if_success (with_reducible first | refine hQ _ ?_ | refine Side.mk ?_ | refine isCP hcp ?_ | refine isCC hcc ?_ | refine isLP hlp ?_ | refine Ix.mk ?_ | refine SIx.mk ?_ | refine SEx.mk ?_ | refine EIx.mk ?_ | refine RIx.mk ?_ | show False | refine hR ?_ _ ?_ ?_ ?_ ?_ ?_ | refine hR2 ?_ _ ?_ ?_ ?_ ?_ ?_)); cbv))
  · refine hQ _ ?_
    rw [← hz]; rfl
  · exact absurd hz (by decide)

theorem okV_evalM {row : List Val} (hr : rowOk row) {e : Ex} (ho : e.okc) : okV (evalM (colOf row) e) := by
  unfold evalM
  split
  · exact okV_eval (fun n => okV_colOf hr n) e ho
  · exact okV_zero
theorem put_ok {e : Ex} {by' : List Ex} {E : Ex} (ho : e.okc) (hb : okcL by') (h : putM e by' = (E, 0)) : E.wide ∧ E.okc := by
  unfold putM at h
  split at h
  · split at h
    · rename_i h2
      simp only [Prod.mk.injEq] at h
      rw [← h.1]
      exact ⟨small_wide _ (Nat.le_trans (built_szK h2) (by decide)), put_okc by' hb e ho⟩
    · simp at h
  · simp at h
theorem okEs_valM (l : List Val) : okEs 3 (l.map Val.cells) = true := by
  simp only [okEs, List.all_map, List.all_eq_true]
  intro e _
  simp [Val.cells, PV.one]
set_option maxHeartbeats 4000000 in
theorem putIn_c (op m vk vn : Int) (vs : ByteArray) (ar : List Ex) (es : List (List PV)) (hes : ar.map Ex.cells = es) (hw : (Ex.mk op m ⟨vk, vn, vs⟩ ar).wide) (ho : (Ex.mk op m ⟨vk, vn, vs⟩ ar).okc) (by' : List Ex) (BY : List (List PV)) (hBY : by'.map Ex.cells = BY) (hwb : wideL by') (hob : okcL by') (hwn : wideN by'.length) (row : List Val) (R : List (List PV)) (hRw : row.map Val.cells = R) (hr : rowOk row) :
    PCall Try.prog 17 [.agg [.int .i64 op, .int .i64 m, .int .i64 vk, .int .i64 vn, .str vs, .sl es], .sl BY, .sl R] fun r => r = [.bool true] := by
  have hBl : BY.length = by'.length := by rw [← hBY]; simp
  obtain ⟨⟨E, err⟩, hM⟩ : ∃ p, putM (.mk op m ⟨vk, vn, vs⟩ ar) by' = p := ⟨_, rfl⟩
  have hput := put_c op m vk vn vs ar es hes hw by' BY hBY hwb hwn E err hM
  have hlaw : err = 0 → evalM (colOf row) E = evalM (colOf (by'.map (evalM (colOf row)))) (.mk op m ⟨vk, vn, vs⟩ ar) := by
    intro h
    have := put_law row (.mk op m ⟨vk, vn, vs⟩ ar) by' (by rw [hM]; exact h)
    rw [hM] at this
    exact this
  have hE : err = 0 → E.wide ∧ E.okc := fun h => put_ok ho hob (by rw [hM, h])
  obtain ⟨op2, m2, ⟨vk2, vn2, vs2⟩, ar2⟩ := E
  obtain ⟨es2, hes2⟩ : ∃ l, ar2.map Ex.cells = l := ⟨_, rfl⟩
  rw [cells_mk, hes2] at hput
  obtain ⟨⟨k, n, s⟩, hV⟩ : ∃ v, evalM (colOf row) (.mk op2 m2 ⟨vk2, vn2, vs2⟩ ar2) = v := ⟨_, rfl⟩
  have hevF : ∀ h : err = 0, PCall Try.prog 64 [.agg [.int .i64 op2, .int .i64 m2, .int .i64 vk2, .int .i64 vn2, .str vs2, .sl es2], .sl R] fun r => r = [.agg [.int .i64 k, .int .i64 n, .str s]] := by
    intro h
    have := eval_c op2 m2 vk2 vn2 vs2 ar2 es2 hes2 (hE h).1 (hE h).2 row R hRw hr
    rw [hV] at this
    exact this
  obtain ⟨LV, hLV⟩ : ∃ l, by'.map (evalM (colOf row)) = l := ⟨_, rfl⟩
  rw [hLV] at hlaw
  have hrL : rowOk LV := by
    intro v hv
    rw [← hLV] at hv
    obtain ⟨x, hx, rfl⟩ := List.mem_map.1 hv
    exact okV_evalM hr (okc_mem hob hx)
  have hevE : err = 0 → ∀ L, LV.map Val.cells = L → PCall Try.prog 64 [.agg [.int .i64 op, .int .i64 m, .int .i64 vk, .int .i64 vn, .str vs, .sl es], .sl L] fun r => r = [.agg [.int .i64 k, .int .i64 n, .str s]] := by
    intro h L hL
    have := eval_c op m vk vn vs ar es hes hw ho LV L hL hrL
    rw [← hlaw h, hV] at this
    exact this
  have hseven := seven_c
  unfold wideN at hwn
  clear hlaw hE hM
  refine PCall.x (nt := 44) (res := [.tmp 6]) mixed tt_ok [] Try.func17 rfl rfl rfl c17 (Nat.le_of_ble_eq_true rfl) ?_
  intro cp cc lp Q' hcp hcc hlp hQ
  repeat' (first
    | (with_reducible refine Nm.mk ?_; intro z hz)
    | (with_reducible refine IfB.mk ?_ ?_ <;> (intro h; cases h))
    | (with_reducible refine Two.l ?_; refine Asm.mk ?_ ?_; focus (decide +kernel))
    | (with_reducible refine Two.r ?_)
    | (with_reducible refine Asm.mk ?_ ?_; focus (first | kernel_rfl | decide))
    | (with_reducible refine isCP hcp ?_; first | (refine xP hcp (hput) ?_; skip) | (refine xP hcp (hseven) ?_; skip))
    | (with_reducible refine isCC hcc ?_; first | (refine xA hcc (hput) rfl ?_; skip) | (refine xA hcc (hseven) rfl ?_; skip))
    | (with_reducible refine Asm.mk2 ?_ ?_)
    | ((fail_if_success (with_reducible first | refine hQ _ ?_ | refine Side.mk ?_ | refine isCP hcp ?_ | refine isCC hcc ?_ | refine isLP hlp ?_ | refine Ix.mk ?_ | refine SIx.mk ?_ | refine SEx.mk ?_ | refine EIx.mk ?_ | refine RIx.mk ?_ | show False | refine hR ?_ _ ?_ ?_ ?_ ?_ ?_ | refine hR2 ?_ _ ?_ ?_ ?_ ?_ ?_)); cbv))
  · exact hQ _ rfl
  have herr : err = 0 := by
    have h : (!decide (err = 0)) = false := by assumption
    simpa using h
  replace hevF := hevF herr
  replace hevE := hevE herr
  simp only [nc] at hz
  simp only [nc'] at hz
  have hzl := lenZ (n := by'.length) hBl hz
  clear hz
  generalize z = zl at *
  refine mintT hlp 3 9 rfl ?_
  refine loopT (ι := Int × List (List PV) × Nat) mixed tt_ok hcp hcc hlp [1, 2, 3, 7, 21, 22] (fun p => [(9, .tok 2 p.2.1), (23, .p (.int .i64 p.1))])
    (fun p => [.cells [.p (.int .i64 op), .p (.int .i64 m), .p (.int .i64 vk), .p (.int .i64 vn), .p (.str vs), .p (.sl es)], .cells [.p (.int .i64 op2), .p (.int .i64 m2), .p (.int .i64 vk2), .p (.int .i64 vn2), .p (.str vs2), .p (.sl es2)], .spare p.2.2 3])
    (fun p => Rng by'.length zl p.1 ∧ (LV.take p.1.toNat).map Val.cells = p.2.1 ∧ p.2.1.length = p.2.2) (fun p => (zl - p.1).toNat)
    (0, [], 0) 3 (fun _ => rfl) ⟨Rng.start hzl (by omega), rfl, rfl⟩ ⟨rfl, rfl, trivial⟩ rfl ?_
  rintro Q2 ⟨i, VL, v1⟩ ⟨rg, hVL, hv1⟩ hR
  replace rg : Rng by'.length zl i := rg
  replace hVL : (LV.take i.toNat).map Val.cells = VL := hVL
  replace hv1 : VL.length = v1 := hv1
  have hLl : LV.length = by'.length := by rw [← hLV]; simp
  have hVl : VL.length ≤ by'.length := by rw [← hVL, List.length_map, List.length_take]; omega
  have ok1 : okEs 3 VL = true := by rw [← hVL]; exact okEs_valM _
  have sd1 : VL.length + 1 ≤ maxLen ∧ (VL.length + 1) * 32 ≤ 140737488355328 := by rw [maxLen_eq]; omega
  have hevb : ∀ (op' m' vk' vn' : Int) (vs' : ByteArray) (ar' : List Ex) (es' : List (List PV)), by'[i.toNat]? = some (.mk op' m' ⟨vk', vn', vs'⟩ ar') → ar'.map Ex.cells = es' →
      PCall Try.prog 64 [.agg [.int .i64 op', .int .i64 m', .int .i64 vk', .int .i64 vn', .str vs', .sl es'], .sl R] fun r => r = [(evalM (colOf row) (.mk op' m' ⟨vk', vn', vs'⟩ ar')).enc] := fun op' m' vk' vn' vs' ar' es' hx he =>
    eval_c op' m' vk' vn' vs' ar' es' he (wide_mem hwb (List.mem_of_getElem? hx)) (okc_mem hob (List.mem_of_getElem? hx)) row R hRw hr
  have hfin : decide (i < zl) = false → PCall Try.prog 64 [.agg [.int .i64 op, .int .i64 m, .int .i64 vk, .int .i64 vn, .str vs, .sl es], .sl VL] fun r => r = [.agg [.int .i64 k, .int .i64 n, .str s]] := fun h => hevE VL (by rw [← hVL, rg.take_ hLl h])
  repeat' (first
    | (with_reducible refine Nm.mk ?_; intro z hz)
    | (with_reducible refine IfB.mk ?_ ?_ <;> (intro h; cases h))
    | (with_reducible refine Two.l ?_; refine Asm.mk ?_ ?_; focus (decide +kernel))
    | (with_reducible refine Two.r ?_)
    | (with_reducible refine Asm.mk ?_ ?_; focus kernel_rfl)
    | (with_reducible refine isCP hcp ?_; first | (refine xP hcp (hevF) ?_; skip) | (refine xP hcp (hseven) ?_; skip) | (refine xP hcp (hfin (by assumption)) ?_; skip) | (refine vP hcp (hevb _ _ _ _ _ _ _ (by assumption) (by assumption)) ?_; intro v hv))
    | (with_reducible refine isCC hcc ?_; first | (refine xA hcc (hevF) rfl ?_; skip) | (refine xA hcc (hseven) rfl ?_; skip) | (refine xA hcc (hfin (by assumption)) rfl ?_; skip) | (refine vA hcc (hevb _ _ _ _ _ _ _ (by assumption) (by assumption)) rfl ?_; intro v hv))
    | (with_reducible refine Ix.ex hBY rg.lo (rg.lt (by assumption)) ?_; intro op' m' vk' vn' vs' ar' es' hx hes')
    | (with_reducible refine Asm.mk2 ?_ ?_)
    | ((fail_if_success (with_reducible first | refine hQ _ ?_ | refine Side.mk ?_ | refine isCP hcp ?_ | refine isCC hcc ?_ | refine isLP hlp ?_ | refine Ix.mk ?_ | refine SIx.mk ?_ | refine SEx.mk ?_ | refine EIx.mk ?_ | refine RIx.mk ?_ | show False | refine hR ?_ _ ?_ ?_ ?_ ?_ ?_ | refine hR2 ?_ _ ?_ ?_ ?_ ?_ ?_)); cbv))
  · exact Side.mk ⟨hv1.symm, rfl, ok1, rfl, sd1.1, sd1.2⟩
  · have hlt : decide (i < zl) = true := by assumption
    rename_i VL2 hVL2 v2 hv2
    rw [rg.wrap hlt] at hz
    have hgv : LV[i.toNat]? = some v := by rw [← hLV, List.getElem?_map, hx, Option.map_some, hv]
    refine hR (i + 1, VL2, v2) _ ⟨rg.next hlt, ?_, ?_⟩ (rg.less hlt) ⟨rfl, hz ▸ rfl, trivial⟩ ⟨rfl, rfl, rfl, rfl, rfl, rfl, trivial⟩ rfl
    · show (LV.take (i + 1).toNat).map Val.cells = VL2
      rw [rg.take hgv, List.map_append, hVL, ← hVL2]; rfl
    · show VL2.length = v2
      rw [← hVL2, ← hv2, List.length_append]
  · exact hQ _ rfl
  · exfalso
    rw [eqB_val] at hz
    simp at hz
theorem fits78 {n : Nat} {x : PV} (h : FitsA Try.prog n 78 x) : ∃ l : List Ex, x = .sl (l.map Ex.cells) ∧ wideL l ∧ okcL l ∧ wideN l.length := by
  obtain ⟨m, es, rfl, h1, ⟨_, hb⟩, h4⟩ := (h.one Try.underlying78 rfl).slice Try.underlying78
  simp only [List.cons.injEq, and_true] at h1
  subst h1
  obtain ⟨l, rfl, hl⟩ := elems_of (enc := Ex.cells) (ok := fun e => e.wide ∧ e.okc) (fun x hx => by
    obtain ⟨y, hy, h1, h2⟩ := exOf _ _ (h4 x hx).2
    exact ⟨y, hy, h1, h2⟩)
  rw [bytes80, List.length_map] at hb
  have : reachBytes = 140737488351232 := by decide
  exact ⟨l, rfl, wideL_of fun x hx => (hl x hx).1, okcL_of fun x hx => (hl x hx).2, by unfold wideN; omega⟩
theorem exprPutIn_law {k0 k1 k2 : Nat} {x0 x1 x2 : PV} (f0 : FitsA Try.prog k0 80 x0) (f1 : FitsA Try.prog k1 78 x1) (f2 : FitsA Try.prog k2 29 x2) : PCall Try.prog 17 [x0, x1, x2] fun r => r = [.bool true] := by
  obtain ⟨op, m, vk, vn, vs, ar, rfl, hw, ho⟩ := fits80 f0
  obtain ⟨by', rfl, hwb, hob, hwn⟩ := fits78 f1
  obtain ⟨l, rfl, _, hl⟩ := fits29 f2
  exact putIn_c op m vk vn vs ar _ rfl hw ho by' _ rfl hwb hob hwn l _ rfl (row_ok hl)
end Go.Proofs.Ytnhmnfokbinplaa
