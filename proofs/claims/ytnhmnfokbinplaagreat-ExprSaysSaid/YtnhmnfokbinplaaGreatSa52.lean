/- expr: Columns; Columns in plain terms: rising, each once; what Put asks; tallyref's columns in plain terms: rising, each once; tallyref: Fold; lists that are the same; the law ExprSays; The law ExprSays. Own work; no condition. -/
import Derived.Test.YtnhmnfokbinplaaGreatSa49
import Derived.Test.YtnhmnfokbinplaaGreatSaSrt2
import Derived.Test.YtnhmnfokbinplaaGreatSa48
namespace Go.Proofs.YtnhmnfokbinplaaGreat
open Go Go.RowKit
set_option maxRecDepth 100000
set_option linter.unusedSimpArgs false
set_option linter.unusedVariables false

def columnsM (e : Ex) : List Int := if builtM e = true then compZ (sortZ (colsM e)) else []
theorem columns_c (op n vk vn : Int) (vs : ByteArray) (ar : List Ex) (es : List (List PV)) (hes : ar.map Ex.cells = es) (hw : (Ex.mk op n ⟨vk, vn, vs⟩ ar).wide) :
    PCall Tryz.prog 12 [.agg [.int .i64 op, .int .i64 n, .int .i64 vk, .int .i64 vn, .str vs, .sl es]] fun r => r = [.sl ((columnsM (.mk op n ⟨vk, vn, vs⟩ ar)).map i64c)] := by
  have hbc := ebuilt_c op n vk vn vs ar es hes
  obtain ⟨e, he⟩ : ∃ e, Ex.mk op n ⟨vk, vn, vs⟩ ar = e := ⟨_, rfl⟩
  have hce : e.cells = [.int .i64 op, .int .i64 n, .int .i64 vk, .int .i64 vn, .str vs, .sl es] := by rw [← he, cells_mk, hes]
  rw [he] at hbc hw ⊢
  obtain ⟨bt, hbt⟩ : ∃ b, builtM e = b := ⟨_, rfl⟩
  obtain ⟨PL, hPL⟩ : ∃ l, colsM e = l := ⟨_, rfl⟩
  obtain ⟨C', hC'⟩ : ∃ l, PL.map i64c = l := ⟨_, rfl⟩
  obtain ⟨n', hn'⟩ : ∃ l, C'.length = l := ⟨_, rfl⟩
  obtain ⟨g', hg'⟩ : ∃ l, PL.length = l := ⟨_, rfl⟩
  have hcall : bt = true → ACall Tryz.prog 26 [.p (.agg [.int .i64 op, .int .i64 n, .int .i64 vk, .int .i64 vn, .str vs, .sl es]), .fn 37 [.ref 0 0]] (colS 0 0 []) fun r H' => r = .tup [] ∧ takeX H' 2 = colS g' n' C' := by
    intro hb
    exact each_sall _ e (Nat.le_refl _) hw _ 0 0 [] [] hce rfl rfl (by have := built_szK (hbt.trans hb); omega) g' n' C' (by rw [hPL]; exact hC') hn' (by rw [hPL]; omega)
  have hnb : bt = true → n' < 4611686018427387904 := by
    intro hb
    have h1 := built_szK (hbt.trans hb)
    have h2 := cols_sz e
    rw [hPL] at h2
    have h3 : C'.length = PL.length := by rw [← hC']; simp
    omega
  rw [columnsM, hbt, hPL]
  rw [hbt] at hbc
  have hbn : ∀ {z : Bool}, bt = z → (!z) = false → bt = true := by rintro z rfl h; simpa using h
  have hbf : ∀ {z : Bool}, bt = z → (!z) = true → bt = false := by rintro z rfl h; simpa using h
  have hsl : ∀ {C2 : List (List PV)}, (sortZ PL).map i64c = C2 → C2.length = n' := by
    intro C2 h; rw [← h, List.length_map, sortZ_len, ← hn', ← hC', List.length_map]
  refine PCall.x (nt := 14) (res := [.tmp 2]) mixed tt_ok [] Tryz.func12 rfl rfl rfl c12 (Nat.le_of_ble_eq_true rfl) ?_
  intro cp cc lp Q' hcp hcc hlp hQ
  repeat' (first
    | (with_reducible refine Nm.mk ?_; intro z hz)
    | (with_reducible refine IfB.mk ?_ ?_ <;> (intro h; cases h))
    | (with_reducible refine Two.l ?_; refine Asm.mk ?_ ?_; focus (decide +kernel))
    | (with_reducible refine Two.r ?_)
    | (with_reducible refine Asm.mk ?_ ?_; focus kernel_rfl)
    | (with_reducible refine isCP hcp ?_; first | (refine bP hcp (hbc) ?_; intro z hz))
    | (with_reducible refine isCC hcc ?_; first | (refine bA hcc (hbc) rfl ?_; intro z hz))
    | (with_reducible refine isCC hcc ?_; refine mintCC hcc 1 1 0 rfl rfl ?_; refine frameK (H1 := colS g' n' C') hcc [1, 2] (hcall (hbn (by assumption) (by assumption))) rfl rfl rfl rfl rfl rfl rfl ?_)
    | (with_reducible refine isCC hcc ?_; refine sortCC hcc 2 g' n' PL rfl rfl hC' hn' (hnb (hbn (by assumption) (by assumption))) ?_; intro C2 hC2)
    | (with_reducible refine isCC hcc ?_; refine compactCC hcc 2 g' n' (sortZ PL) rfl rfl hC2 (hsl hC2) (hnb (hbn (by assumption) (by assumption))) ?_; intro C3 n3 hC3 hn3)
    | (with_reducible refine Asm.mk2 ?_ ?_)
    | ((fail_if_success (with_reducible first | refine hQ _ ?_ | refine Side.mk ?_ | refine isCP hcp ?_ | refine isCC hcc ?_ | refine isLP hlp ?_ | refine Ix.mk ?_ | refine SIx.mk ?_ | refine SEx.mk ?_ | refine EIx.mk ?_ | refine RIx.mk ?_ | show False | refine hR ?_ _ ?_ ?_ ?_ ?_ ?_ | refine hR2 ?_ _ ?_ ?_ ?_ ?_ ?_)); cbv))
  · refine hQ _ ?_
    rw [hbf (by assumption) (by assumption), if_neg (by decide)]; rfl
  · have h1 := padZ_len (sortZ PL)
    have h2 := compZ_len (sortZ PL)
    refine Side.mk ⟨rfl, ?_⟩
    rw [← hC3, List.length_map, ← hn3]; omega
  · refine hQ _ ?_
    rw [if_pos (hbn (by assumption) (by assumption)), ← hz, List.drop_zero, ← hC3, ← hn3, ← List.map_take, padZ, List.take_left]
end Go.Proofs.YtnhmnfokbinplaaGreat

namespace Go.Proofs.YtnhmnfokbinplaaGreat
open Go Go.RowKit
set_option maxRecDepth 100000
set_option linter.unusedSimpArgs false
set_option linter.unusedVariables false

theorem sortZ_mem (x : Int) (l : List Int) : x ∈ sortZ l ↔ x ∈ l := (List.mergeSort_perm l _).mem_iff
theorem sortZ_le (l : List Int) : (sortZ l).Pairwise (· ≤ ·) := by
  have h := List.pairwise_mergeSort (le := fun x y : Int => decide (x ≤ y)) (fun a b c h1 h2 => by simp only [decide_eq_true_eq] at *; omega) (fun a b => by simp only [Bool.or_eq_true, decide_eq_true_eq]; omega) l
  exact h.imp fun h => by simpa using h
theorem get!_arr (l : List Int) (j : Nat) (hj : j < l.length) : l.toArray[j]! = l[j] := by
  rw [getElem!_pos _ j (by simpa using hj)]; simp
theorem compZ_mem (x : Int) (l : List Int) : x ∈ compZ l ↔ x ∈ l := by
  unfold compZ Lib.compact Lib.compactUpTo
  rw [List.mem_map]
  constructor
  · rintro ⟨j, hj, rfl⟩
    rw [List.mem_filter, List.mem_range] at hj
    have h2 : j < l.length := hj.1
    rw [get!_arr l j h2]
    exact List.getElem_mem h2
  · intro hx
    obtain ⟨i, hi, hxi⟩ := List.mem_iff_getElem.1 hx
    -- the first place of x
    have key : ∀ k, k < l.length → l[k]? = some x → ∃ j, j < l.length ∧ l[j]? = some x ∧ (j = 0 ∨ l[j - 1]? ≠ some x) := by
      intro k
      induction k with
      | zero => intro h1 h2; exact ⟨0, h1, h2, .inl rfl⟩
      | succ k ih =>
        intro h1 h2
        by_cases h3 : l[k]? = some x
        · exact ih (by omega) h3
        · exact ⟨k + 1, h1, h2, .inr (by simpa using h3)⟩
    obtain ⟨j, hj, hjx, hj0⟩ := key i hi (by rw [List.getElem?_eq_getElem hi, hxi])
    have hjx2 : l[j] = x := by rw [List.getElem?_eq_getElem hj] at hjx; simpa using hjx
    refine ⟨j, ?_, by rw [get!_arr l j hj, hjx2]⟩
    rw [List.mem_filter, List.mem_range]
    refine ⟨hj, ?_⟩
    unfold Lib.keeps
    rw [decide_eq_true_eq]
    rcases hj0 with h | h
    · exact .inl h
    · by_cases h0 : j = 0
      · exact .inl h0
      · refine .inr ?_
        rw [get!_arr l j hj, get!_arr l (j - 1) (by omega), hjx2]
        intro e
        exact h (by rw [List.getElem?_eq_getElem (by omega), ← e])
theorem compZ_lt {l : List Int} (h : l.Pairwise (· ≤ ·)) : (compZ l).Pairwise (· < ·) := by
  unfold compZ Lib.compact Lib.compactUpTo
  rw [List.pairwise_map]
  have h1 : ((List.range l.length).filter (Lib.keeps l.toArray)).Pairwise (fun a b => a < b ∧ b < l.length ∧ Lib.keeps l.toArray b = true) := by
    have h2 := (List.pairwise_lt_range (n := l.length)).filter (Lib.keeps l.toArray)
    refine List.Pairwise.imp_of_mem ?_ h2
    intro a b ha hb hab
    rw [List.mem_filter, List.mem_range] at hb
    exact ⟨hab, hb.1, hb.2⟩
  refine h1.imp ?_
  rintro a b ⟨hab, hb, hk⟩
  rw [get!_arr l a (by omega), get!_arr l b hb]
  unfold Lib.keeps at hk
  rw [decide_eq_true_eq, get!_arr l b hb, get!_arr l (b - 1) (by omega)] at hk
  have hle : ∀ i j (hi : i < l.length) (hj : j < l.length), i ≤ j → l[i] ≤ l[j] := by
    intro i j hi hj hij
    rcases Nat.lt_or_ge i j with g | g
    · exact List.pairwise_iff_getElem.1 h i j hi hj g
    · have : i = j := by omega
      subst this; exact Int.le_refl _
  have h3 := hle a (b - 1) (by omega) (by omega) (by omega)
  have h4 := hle (b - 1) b (by omega) hb (by omega)
  rcases hk with hk | hk
  · omega
  · have : l[b] ≠ l[b - 1] := hk
    omega
/-- The columns: rising, each once, those that are met. -/
theorem cols_rise (l : List Int) : (compZ (sortZ l)).Pairwise (· < ·) := compZ_lt (sortZ_le l)
theorem cols_mem (x : Int) (l : List Int) : x ∈ compZ (sortZ l) ↔ x ∈ l := by rw [compZ_mem, sortZ_mem]
/-! What is put in. -/
end Go.Proofs.YtnhmnfokbinplaaGreat

namespace Go.Proofs.YtnhmnfokbinplaaGreat
open Go Go.RowKit
set_option maxRecDepth 100000
set_option linter.unusedSimpArgs false
set_option linter.unusedVariables false

theorem insC_rise {x : Int} {L : List Int} (h : L.Pairwise (· < ·)) : (insC x L).Pairwise (· < ·) := by
  rw [insC]
  split
  · exact h
  · rename_i hne
    have h1 := insAt_le x L
    have hlt : ∀ y, y ∈ L.take (insAt x L) → y < x := by
      intro y hy
      obtain ⟨i, hi, rfl⟩ := List.mem_iff_getElem.1 hy
      rw [List.length_take] at hi
      rw [List.getElem_take]
      exact insAt_lt x L i _ (by omega) (List.getElem?_eq_getElem (by omega))
    have hgt : ∀ y, y ∈ L.drop (insAt x L) → x < y := by
      intro y hy
      obtain ⟨i, hi, rfl⟩ := List.mem_iff_getElem.1 hy
      rw [List.length_drop] at hi
      rw [List.getElem_drop]
      have h2 := insAt_at x L (L[insAt x L]'(by omega)) (List.getElem?_eq_getElem (by omega))
      have h3 : L[insAt x L]'(by omega) ≠ x := fun e => hne (by rw [List.getElem?_eq_getElem (by omega), e])
      have h4 : L[insAt x L]'(by omega) ≤ L[insAt x L + i]'(by omega) := by
        rcases Nat.eq_zero_or_pos i with g | g
        · subst g; exact Int.le_refl _
        · exact Int.le_of_lt (List.pairwise_iff_getElem.1 h _ _ (by omega) (by omega) (by omega))
      omega
    rw [List.pairwise_append]
    refine ⟨h.sublist (List.take_sublist _ _), List.pairwise_cons.2 ⟨hgt, h.sublist (List.drop_sublist _ _)⟩, fun a ha b hb => ?_⟩
    rcases List.mem_cons.1 hb with rfl | hb
    · exact hlt a ha
    · exact Int.lt_trans (hlt a ha) (hgt b hb)
mutual
theorem colsE_rise : ∀ (e : Ex) (L : List Int), L.Pairwise (· < ·) → (colsE e L).Pairwise (· < ·)
  | .mk op m v ar, L, h => by
    rw [colsE]
    refine colsKL_rise ar _ ?_
    split
    · exact insC_rise h
    · exact h
theorem colsKL_rise : ∀ (l : List Ex) (L : List Int), L.Pairwise (· < ·) → (colsKL l L).Pairwise (· < ·)
  | [], L, h => h
  | e :: r, L, h => by
    rw [colsKL]
    exact colsKL_rise r _ (colsE_rise e L h)
end
theorem insC_has {x c : Int} {L : List Int} (h : c ∈ insC x L) : c ∈ L ∨ c = x := by
  rw [insC] at h
  split at h
  · exact .inl h
  · rcases List.mem_append.1 h with h | h
    · exact .inl (List.mem_of_mem_take h)
    · rcases List.mem_cons.1 h with h | h
      · exact .inr h
      · exact .inl (List.mem_of_mem_drop h)
mutual
theorem colsE_has : ∀ (e : Ex) (L : List Int) (c : Int), c ∈ colsE e L → c ∈ L ∨ c ∈ colsM e
  | .mk op m v ar, L, c, h => by
    rw [colsE] at h
    rw [colsM, List.mem_append]
    rcases colsKL_has ar _ c h with h | h
    · split at h
      · rename_i h1
        rcases insC_has h with h | h
        · exact .inl h
        · rw [if_pos h1]; exact .inr (.inr (by simp [h]))
      · exact .inl h
    · exact .inr (.inl h)
theorem colsKL_has : ∀ (l : List Ex) (L : List Int) (c : Int), c ∈ colsKL l L → c ∈ L ∨ c ∈ colsL l
  | [], L, c, h => .inl h
  | e :: r, L, c, h => by
    rw [colsKL] at h
    rw [colsL, List.mem_append]
    rcases colsKL_has r _ c h with h | h
    · rcases colsE_has e L c h with h | h
      · exact .inl h
      · exact .inr (.inl h)
    · exact .inr (.inr h)
end
mutual
theorem cols_sub : ∀ (e : Ex) (c : Int), c ∈ colsM e → c ∈ e.cols
  | .mk op m v ar, c, h => by
    rw [colsM, List.mem_append] at h
    rw [Ex.cols, List.mem_append]
    rcases h with h | h
    · exact .inr (cols_subL ar c h)
    · exact .inl h
theorem cols_subL : ∀ (l : List Ex) (c : Int), c ∈ colsL l → c ∈ colsOf l
  | [], c, h => by simp [colsL] at h
  | e :: r, c, h => by
    rw [colsL, List.mem_append] at h
    rw [colsOf, List.mem_append]
    rcases h with h | h
    · exact .inl (cols_sub e c h)
    · exact .inr (cols_subL r c h)
end
theorem colsE_iff (e : Ex) (c : Int) : c ∈ colsE e [] ↔ c ∈ colsM e :=
  ⟨fun h => by rcases colsE_has e [] c h with h | h; cases h; exact h, fun h => mem_colsE e [] c (.inr (cols_sub e c h))⟩
end Go.Proofs.YtnhmnfokbinplaaGreat

namespace Go.Proofs.YtnhmnfokbinplaaGreat
open Go Go.RowKit
set_option maxRecDepth 100000
set_option linter.unusedSimpArgs false
set_option linter.unusedVariables false

theorem colOf_nil : colOf [] = fun _ => Val.zero := by
  funext n
  unfold colOf
  split
  · rfl
  · exact clean_zero
theorem rfold_all : ∀ (k : Nat) (e : Ex), e.sz ≤ k → goodE e = true → e.okc → PCall Tryz.prog 57 [.agg (mapE id e).cells] fun r => r = [.agg (mapE foldN e).cells]
  | 0, .mk op m v ar, h, _, _ => by simp [Ex.sz] at h
  | k + 1, .mk op m v ar, h, hg, ho => by
    obtain ⟨⟨g1, o1⟩, _⟩ := fold_cond _ hg ho
    have hg2 := hg
    simp only [goodE, Bool.and_eq_true, Bool.not_eq_true'] at hg2
    have ha := badE_arity hg2.1
    have hw := good_wide _ hg
    have hev := reval_all [] [] rfl (fun v hv => by cases hv) _ _ (Nat.le_refl _) g1 o1
    have hIH : ∀ x, x ∈ ar → PCall Tryz.prog 57 [.agg (mapE id x).cells] fun r => r = [.agg (mapE foldN x).cells] := fun x hx => by
      refine rfold_all k x ?_ (good_mem hg2.2 hx) (okc_mem ho.2 hx)
      have := sz_mem hx
      simp only [Ex.sz] at h; omega
    rw [mapE_mk, mapE_mk]
    rw [mapL_eq] at hev
    obtain ⟨n', hn'⟩ : ∃ n', nN op m = n' := ⟨_, rfl⟩
    obtain ⟨v', hv'⟩ : ∃ v', nV op v = v' := ⟨_, rfl⟩
    rw [hn', hv']
    rw [show (if op = 1 then m else 0) = n' from hn', show (if op = 1 then Val.zero else if op = 2 then clean v else Val.zero) = v' from hv', EvalC, colOf_nil] at hev
    obtain ⟨vk, vn, vs⟩ := v'
    rw [cells_mk] at hev
    rw [show ∀ x : Ex, id x = x from fun _ => rfl, cells_mk]
    refine rfold1_c op n' vk vn vs ar _ _ _ rfl rfl rfl hw.1 (fun h => ?_) (fun h => ?_) hev _ rfl hIH
    · rcases h with rfl | rfl <;> (simp [arityE] at ha; omega)
    · subst h; simp [arityE] at ha; omega
theorem rfold_c (op n vk vn : Int) (vs : ByteArray) (ar : List Ex) (es : List (List PV)) (hes : ar.map Ex.cells = es) (hw : (Ex.mk op n ⟨vk, vn, vs⟩ ar).wide) (ho : (Ex.mk op n ⟨vk, vn, vs⟩ ar).okc) :
    PCall Tryz.prog 21 [.agg [.int .i64 op, .int .i64 n, .int .i64 vk, .int .i64 vn, .str vs, .sl es]] fun r => r = [.agg (foldM (.mk op n ⟨vk, vn, vs⟩ ar)).cells] := by
  have hbt := rbuilt_c op n vk vn vs ar es hes hw
  have hcp' := rneat_c op n vk vn vs ar es hes hw
  have hf : builtM (.mk op n ⟨vk, vn, vs⟩ ar) = true → PCall Tryz.prog 57 [.agg (mapE id (.mk op n ⟨vk, vn, vs⟩ ar)).cells] fun r => r = [.agg (mapE foldN (.mk op n ⟨vk, vn, vs⟩ ar)).cells] := fun hb => rfold_all _ _ (Nat.le_refl _) (good_of_built hb) ho
  obtain ⟨E, hE⟩ : ∃ E, Ex.mk op n ⟨vk, vn, vs⟩ ar = E := ⟨_, rfl⟩
  rw [hE] at hbt hcp' hf ⊢
  have hf' : ∀ z, builtM E = z → (!z) = false → ∀ (op2 n2 vk2 vn2 : Int) (vs2 : ByteArray) (ar2 : List Ex) (es2 : List (List PV)), mapE id E = .mk op2 n2 ⟨vk2, vn2, vs2⟩ ar2 → ar2.map Ex.cells = es2 → PCall Tryz.prog 57 [.agg [.int .i64 op2, .int .i64 n2, .int .i64 vk2, .int .i64 vn2, .str vs2, .sl es2]] fun r => r = [.agg (mapE foldN E).cells] := by
    rintro z rfl h op2 n2 vk2 vn2 vs2 ar2 es2 hX hes2
    have := hf (by simpa using h)
    rw [hX, cells_mk, hes2] at this
    exact this
  have e1 : ∀ z, builtM E = z → (!z) = true → foldM E = mapE id E := by
    rintro z rfl h; unfold foldM; rw [if_neg (by simp at h; rw [h]; decide)]
  have e2 : ∀ z, builtM E = z → (!z) = false → foldM E = mapE foldN E := by
    rintro z rfl h; unfold foldM; rw [if_pos (by simpa using h)]
  clear hf
  refine PCall.x (nt := 11) (res := [.cell 2 26]) mixed tt_ok [] Tryz.func21 rfl rfl rfl c21 (Nat.le_of_ble_eq_true rfl) ?_
  intro cp cc lp Q' hcp hcc hlp hQ
  repeat' (first
    | (with_reducible refine Nm.mk ?_; intro z hz)
    | (with_reducible refine IfB.mk ?_ ?_ <;> (intro h; cases h))
    | (with_reducible refine Two.l ?_; refine Asm.mk ?_ ?_; focus (decide +kernel))
    | (with_reducible refine Two.r ?_)
    | (with_reducible refine Asm.mk ?_ ?_; focus (first | kernel_rfl | decide))
    | (with_reducible refine isCP hcp ?_; first | (refine bP hcp (hbt) ?_; intro z hz) | (refine exP hcp (hf' _ (by assumption) (by assumption) _ _ _ _ _ _ _ hX hes2) ?_; intro op3 n3 vk3 vn3 vs3 ar3 es3 hX3 hes3) | (refine exP hcp (hcp') ?_; intro op2 n2 vk2 vn2 vs2 ar2 es2 hX hes2))
    | (with_reducible refine isCC hcc ?_; first | (refine bA hcc (hbt) rfl ?_; intro z hz) | (refine exA hcc (hf' _ (by assumption) (by assumption) _ _ _ _ _ _ _ hX hes2) rfl ?_; intro op3 n3 vk3 vn3 vs3 ar3 es3 hX3 hes3) | (refine exA hcc (hcp') rfl ?_; intro op2 n2 vk2 vn2 vs2 ar2 es2 hX hes2))
    | (with_reducible refine Asm.mk2 ?_ ?_)
    | ((fail_if_success (with_reducible first | refine hQ _ ?_ | refine Side.mk ?_ | refine isCP hcp ?_ | refine isCC hcc ?_ | refine isLP hlp ?_ | refine Ix.mk ?_ | refine SIx.mk ?_ | refine SEx.mk ?_ | refine EIx.mk ?_ | refine RIx.mk ?_ | show False | refine hR ?_ _ ?_ ?_ ?_ ?_ ?_ | refine hR2 ?_ _ ?_ ?_ ?_ ?_ ?_)); cbv))
  · refine hQ _ ?_
    rw [e1 _ (by assumption) (by assumption), hX, cells_mk, hes2]
  · refine hQ _ ?_
    rw [e2 _ (by assumption) (by assumption), hX3, cells_mk, hes3]
theorem sameExprs_c (ar : List Ex) (es : List (List PV)) (hes : ar.map Ex.cells = es) (hs : ar.length ≤ 140737488355328) (hS : ∀ x, x ∈ ar → SameC x) :
    PCall Tryz.prog 14 [.sl es, .sl es] fun r => r = [.bool true] := by
  have hel : es.length = ar.length := by rw [← hes]; simp
  refine PCall.x (nt := 27) (res := [.tmp 4]) mixed tt_ok [] Tryz.func14 rfl rfl rfl c14 (Nat.le_of_ble_eq_true rfl) ?_
  intro cp cc lp Q' hcp hcc hlp hQ
  repeat' (first
    | (with_reducible refine Nm.mk ?_; intro z hz)
    | (with_reducible refine IfB.mk ?_ ?_ <;> (intro h; cases h))
    | (with_reducible refine Two.l ?_; refine Asm.mk ?_ ?_; focus (decide +kernel))
    | (with_reducible refine Two.r ?_)
    | (with_reducible refine Asm.mk ?_ ?_; focus (first | kernel_rfl | decide))
    | (with_reducible refine Asm.mk2 ?_ ?_)
    | ((fail_if_success (with_reducible first | refine hQ _ ?_ | refine Side.mk ?_ | refine isCP hcp ?_ | refine isCC hcc ?_ | refine isLP hlp ?_ | refine Ix.mk ?_ | refine SIx.mk ?_ | refine SEx.mk ?_ | refine EIx.mk ?_ | refine RIx.mk ?_ | show False | refine hR ?_ _ ?_ ?_ ?_ ?_ ?_ | refine hR2 ?_ _ ?_ ?_ ?_ ?_ ?_)); cbv))
  all_goals first
    | (exfalso; clear hQ hcp hcc hlp hS; simp_all; done)
    | skip
  simp only [nc] at hz
  simp only [nc'] at hz
  have hzl := lenZ (n := ar.length) hel hz
  clear hz
  generalize z = zl at *
  refine loopK (ι := Int) mixed tt_ok hcp hcc hlp [0, 1, 12] (fun i => [(13, .p (.int .i64 i))]) (fun i => Rng ar.length zl i) (fun i => (zl - i).toNat) 0 (fun _ => rfl) (Rng.start hzl (by omega)) ⟨rfl, trivial⟩ ?_
  intro R i rg hR
  have hget : ∀ (op' m' vk' vn' : Int) (vs' : ByteArray) (ar' : List Ex) (es' : List (List PV)), ar[i.toNat]? = some (.mk op' m' ⟨vk', vn', vs'⟩ ar') → ar'.map Ex.cells = es' → es[i.toNat]? = some [.int .i64 op', .int .i64 m', .int .i64 vk', .int .i64 vn', .str vs', .sl es'] := by
    intro op' m' vk' vn' vs' ar' es' hx he
    rw [← hes, List.getElem?_map, hx, Option.map_some, cells_mk, he]
  have hpc : ∀ (op' m' vk' vn' : Int) (vs' : ByteArray) (ar' : List Ex) (es' : List (List PV)), ar[i.toNat]? = some (.mk op' m' ⟨vk', vn', vs'⟩ ar') → ar'.map Ex.cells = es' → PCall Tryz.prog 19 [.agg [.int .i64 op', .int .i64 m', .int .i64 vk', .int .i64 vn', .str vs', .sl es'], .agg [.int .i64 op', .int .i64 m', .int .i64 vk', .int .i64 vn', .str vs', .sl es']] fun r => r = [.bool true] := by
    intro op' m' vk' vn' vs' ar' es' hx he
    have := hS _ (List.mem_of_getElem? hx)
    rw [SameC, cells_mk, he] at this
    exact this
  repeat' (first
    | (with_reducible refine Nm.mk ?_; intro z hz)
    | (with_reducible refine IfB.mk ?_ ?_ <;> (intro h; cases h))
    | (with_reducible refine Two.l ?_; refine Asm.mk ?_ ?_; focus (decide +kernel))
    | (with_reducible refine Two.r ?_)
    | (with_reducible refine Asm.mk ?_ ?_; focus kernel_rfl)
    | (with_reducible refine isCP hcp ?_; first | (refine xP hcp (hpc _ _ _ _ _ _ _ (by assumption) (by assumption)) ?_; skip))
    | (with_reducible refine isCC hcc ?_; first | (refine xA hcc (hpc _ _ _ _ _ _ _ (by assumption) (by assumption)) rfl ?_; skip))
    | (with_reducible refine Ix.giveK rg.lo (by assumption) rfl (by decide) ?_)
    | (with_reducible refine Ix.ex hes rg.lo (rg.lt (by assumption)) ?_; intro op' m' vk' vn' vs' ar' es' hx hes'; have hg2 := hget _ _ _ _ _ _ _ hx hes')
    | (with_reducible refine Asm.mk2 ?_ ?_)
    | ((fail_if_success (with_reducible first | refine hQ _ ?_ | refine Side.mk ?_ | refine isCP hcp ?_ | refine isCC hcc ?_ | refine isLP hlp ?_ | refine Ix.mk ?_ | refine SIx.mk ?_ | refine SEx.mk ?_ | refine EIx.mk ?_ | refine RIx.mk ?_ | show False | refine hR ?_ _ ?_ ?_ ?_ ?_ ?_ | refine hR2 ?_ _ ?_ ?_ ?_ ?_ ?_)); cbv))
  · exfalso; simp at hz
  · have hlt : decide (i < zl) = true := by assumption
    rw [rg.wrap hlt] at hz
    exact hR (i + 1) _ (rg.next hlt) (rg.less hlt) ⟨hz ▸ rfl, trivial⟩ ⟨rfl, rfl, rfl, trivial⟩ rfl
  · exact hQ _ rfl
theorem sameNums_c (l : List Int) (C : List (List PV)) (hC : l.map i64c = C) (hs : l.length ≤ 140737488355328) :
    PCall Tryz.prog 11 [.sl C, .sl C] fun r => r = [.bool true] := by
  have hel : C.length = l.length := by rw [← hC]; simp
  refine PCall.x (nt := 26) (res := [.tmp 4]) mixed tt_ok [] Tryz.func11 rfl rfl rfl c11 (Nat.le_of_ble_eq_true rfl) ?_
  intro cp cc lp Q' hcp hcc hlp hQ
  repeat' (first
    | (with_reducible refine Nm.mk ?_; intro z hz)
    | (with_reducible refine IfB.mk ?_ ?_ <;> (intro h; cases h))
    | (with_reducible refine Two.l ?_; refine Asm.mk ?_ ?_; focus (decide +kernel))
    | (with_reducible refine Two.r ?_)
    | (with_reducible refine Asm.mk ?_ ?_; focus (first | kernel_rfl | decide))
    | (with_reducible refine Asm.mk2 ?_ ?_)
    | ((fail_if_success (with_reducible first | refine hQ _ ?_ | refine Side.mk ?_ | refine isCP hcp ?_ | refine isCC hcc ?_ | refine isLP hlp ?_ | refine Ix.mk ?_ | refine SIx.mk ?_ | refine SEx.mk ?_ | refine EIx.mk ?_ | refine RIx.mk ?_ | show False | refine hR ?_ _ ?_ ?_ ?_ ?_ ?_ | refine hR2 ?_ _ ?_ ?_ ?_ ?_ ?_)); cbv))
  all_goals first
    | (exfalso; clear hQ hcp hcc hlp; simp_all; done)
    | skip
  simp only [nc] at hz
  simp only [nc'] at hz
  have hzl := lenZ (n := l.length) hel hz
  clear hz
  generalize z = zl at *
  refine loopK (ι := Int) mixed tt_ok hcp hcc hlp [0, 1, 12] (fun i => [(13, .p (.int .i64 i))]) (fun i => Rng l.length zl i) (fun i => (zl - i).toNat) 0 (fun _ => rfl) (Rng.start hzl (by omega)) ⟨rfl, trivial⟩ ?_
  intro R i rg hR
  have hget : ∀ y, l[i.toNat]? = some y → C[i.toNat]? = some [.int .i64 y] := by
    intro y hy
    rw [← hC, List.getElem?_map, hy]; rfl
  repeat' (first
    | (with_reducible refine Nm.mk ?_; intro z hz)
    | (with_reducible refine IfB.mk ?_ ?_ <;> (intro h; cases h))
    | (with_reducible refine Two.l ?_; refine Asm.mk ?_ ?_; focus (decide +kernel))
    | (with_reducible refine Two.r ?_)
    | (with_reducible refine Asm.mk ?_ ?_; focus kernel_rfl)
    | (with_reducible refine Ix.giveK rg.lo (by assumption) rfl (by decide) ?_)
    | (with_reducible refine Ix.map hC i64c_len (by decide) rg.lo (rg.lt (by assumption)) ?_; intro y hy; have hg2 := hget _ hy)
    | (with_reducible refine Asm.mk2 ?_ ?_)
    | ((fail_if_success (with_reducible first | refine hQ _ ?_ | refine Side.mk ?_ | refine isCP hcp ?_ | refine isCC hcc ?_ | refine isLP hlp ?_ | refine Ix.mk ?_ | refine SIx.mk ?_ | refine SEx.mk ?_ | refine EIx.mk ?_ | refine RIx.mk ?_ | show False | refine hR ?_ _ ?_ ?_ ?_ ?_ ?_ | refine hR2 ?_ _ ?_ ?_ ?_ ?_ ?_)); cbv))
  · exfalso; simp at hz
  · have hlt : decide (i < zl) = true := by assumption
    rw [rg.wrap hlt] at hz
    exact hR (i + 1) _ (rg.next hlt) (rg.less hlt) ⟨hz ▸ rfl, trivial⟩ ⟨rfl, rfl, rfl, trivial⟩ rfl
  · exact hQ _ rfl
theorem rise_ext : ∀ {a b : List Int}, a.Pairwise (· < ·) → b.Pairwise (· < ·) → (∀ x, x ∈ a ↔ x ∈ b) → a = b
  | [], [], _, _, _ => rfl
  | [], y :: b, _, _, h => by have := (h y).2 (by simp); cases this
  | x :: a, [], _, _, h => by have := (h x).1 (by simp); cases this
  | x :: a, y :: b, ha, hb, h => by
    rw [List.pairwise_cons] at ha hb
    have hxy : x = y := by
      have h1 := (h x).1 (by simp)
      have h2 := (h y).2 (by simp)
      rcases List.mem_cons.1 h1 with e | e
      · exact e
      · rcases List.mem_cons.1 h2 with e2 | e2
        · exact e2.symm
        · have := hb.1 _ e; have := ha.1 _ e2; omega
    subst hxy
    rw [rise_ext ha.2 hb.2 fun z => ?_]
    constructor
    · intro hz
      rcases List.mem_cons.1 ((h z).1 (by simp [hz])) with e | e
      · have := ha.1 _ hz; omega
      · exact e
    · intro hz
      rcases List.mem_cons.1 ((h z).2 (by simp [hz])) with e | e
      · have := hb.1 _ hz; omega
      · exact e
theorem columns_same (e : Ex) : colsKM e = columnsM e := by
  rw [colsKM, columnsM]
  split
  · exact rise_ext (colsE_rise e [] List.Pairwise.nil) (cols_rise _) fun x => by rw [colsE_iff, cols_mem]
  · rfl
theorem columns_len (e : Ex) : (columnsM e).length ≤ 400 := by
  rw [columnsM]
  split
  · rename_i hb
    have h1 := cols_sz e
    have h2 := built_szK hb
    have h3 := compZ_len (sortZ (colsM e))
    have h4 : (sortZ (colsM e)).length = (colsM e).length := by unfold sortZ; exact List.length_mergeSort _
    omega
  · simp
end Go.Proofs.YtnhmnfokbinplaaGreat

namespace Go.Proofs.YtnhmnfokbinplaaGreat
open Go Go.RowKit
set_option maxRecDepth 100000
set_option linter.unusedSimpArgs false
set_option linter.unusedVariables false

set_option maxHeartbeats 4000000 in
theorem exprSays_c (op m vk vn : Int) (vs : ByteArray) (ar : List Ex) (es : List (List PV)) (hes : ar.map Ex.cells = es) (hw : (Ex.mk op m ⟨vk, vn, vs⟩ ar).wide) (ho : (Ex.mk op m ⟨vk, vn, vs⟩ ar).okc)
    (row : List Val) (R : List (List PV)) (hR : row.map Val.cells = R) (hr : rowOk row) (hrl : row.length * 32 ≤ 140737488351232) (K : List Int) (C : List (List PV)) (hC : K.map i64c = C) (cs : List Int) (D : List (List PV)) (hD : cs.map i64c = D) (hcl : cs.length ≤ 140737488355328) :
    PCall Tryz.prog 3 [.agg [.int .i64 op, .int .i64 m, .int .i64 vk, .int .i64 vn, .str vs, .sl es], .sl R, .sl C, .sl D] fun r => r = [.bool true] := by
  have a1 := esize_c op m vk vn vs ar es hes
  have a2 := rsize_c op m vk vn vs ar es hes hw
  have a3 := ekind_c K C hC op m vk vn vs ar es hes hw
  have a4 := rkind_c K C hC op m vk vn vs ar es hes hw
  have a5 := eval_c op m vk vn vs ar es hes hw ho row R hR hr
  have a6 := reval_c op m vk vn vs ar es hes hw ho row R hR hr
  have a7 := columns_c op m vk vn vs ar es hes hw
  have a8 := rcolumns_c op m vk vn vs ar es hes hw
  have a9 := partsP_c op m vk vn vs ar es hes hw
  have b1 := rpartsP_c op m vk vn vs ar es hes hw
  have b2 := strict_c cs D hD hcl op m vk vn vs ar es hes
  have b3 := rstrict_c cs D hD hcl op m vk vn vs ar es hes hw
  have b4 := efold_c op m vk vn vs ar es hes hw ho
  have b5 := rfold_c op m vk vn vs ar es hes hw ho
  obtain ⟨E, hE⟩ : ∃ E, Ex.mk op m ⟨vk, vn, vs⟩ ar = E := ⟨_, rfl⟩
  rw [hE] at a1 a2 a3 a4 a5 a6 a7 a8 a9 b1 b2 b3 b4 b5 hw ho
  rw [columns_same] at a8
  obtain ⟨p1, p2⟩ := foldM_ok hw ho
  obtain ⟨F, hF⟩ : ∃ F, foldM E = F := ⟨_, rfl⟩
  rw [hF] at b4 b5 p1 p2
  have b6 := same_all _ F (Nat.le_refl _) p1
  have b7 := sameExprs_c (partsM E) _ rfl (by have := parts_400 E; omega) fun x hx => same_all _ x (Nat.le_refl _) (parts_ok E hw ho x hx).1
  have b8 := sameNums_c (columnsM E) _ rfl (by have := columns_len E; omega)
  have b9 := num_c (kindM K E).2
  obtain ⟨op2, m2, ⟨vk2, vn2, vs2⟩, ar2⟩ := F
  rw [SameC, cells_mk] at b6
  rw [cells_mk] at b4 b5
  generalize (sizeM E).1 = s1 at a1 a2
  generalize (sizeM E).2 = s2 at a1 a2
  generalize (kindM K E).1 = k1 at a3 a4
  generalize (kindM K E).2 = k2 at a3 a4 b9
  generalize (columnsM E).map i64c = CC at a7 a8 b8
  generalize (partsM E).map Ex.cells = PC at a9 b1 b7
  generalize strictM cs E = st at b2 b3
  generalize ar2.map Ex.cells = es2 at b4 b5 b6
  obtain ⟨⟨ek, en, ess⟩, hV⟩ : ∃ V, evalM (colOf row) E = V := ⟨_, rfl⟩
  rw [hV] at a5 a6
  replace a5 : PCall Tryz.prog 9 [.agg [.int .i64 op, .int .i64 m, .int .i64 vk, .int .i64 vn, .str vs, .sl es], .sl R] fun r => r = [.agg [.int .i64 ek, .int .i64 en, .str ess]] := a5
  replace a6 : PCall Tryz.prog 10 [.agg [.int .i64 op, .int .i64 m, .int .i64 vk, .int .i64 vn, .str vs, .sl es], .sl R] fun r => r = [.agg [.int .i64 ek, .int .i64 en, .str ess]] := a6
  clear hes hw ho hR hr hrl hC hD hcl hE hF p1 p2 hV
  refine PCall.x (nt := 95) (res := [.tmp 8]) mixed tt_ok [] Tryz.func3 rfl rfl rfl c3 (Nat.le_of_ble_eq_true rfl) ?_
  intro cp cc lp Q' hcp hcc hlp hQ
  repeat' (first
    | (with_reducible refine Nm.mk ?_; intro z hz)
    | (with_reducible refine IfB.mk ?_ ?_ <;> (intro h; cases h))
    | (with_reducible refine Two.l ?_; refine Asm.mk ?_ ?_; focus (decide +kernel))
    | (with_reducible refine Two.r ?_)
    | (with_reducible refine Asm.mk ?_ ?_; focus (first | kernel_rfl | decide))
    | (with_reducible refine isCP hcp ?_; first | (refine xP hcp (a1) ?_; skip) | (refine xP hcp (a2) ?_; skip) | (refine xP hcp (a3) ?_; skip) | (refine xP hcp (a4) ?_; skip) | (refine xP hcp (a5) ?_; skip) | (refine xP hcp (a6) ?_; skip) | (refine xP hcp (a7) ?_; skip) | (refine xP hcp (a8) ?_; skip) | (refine xP hcp (a9) ?_; skip) | (refine xP hcp (b1) ?_; skip) | (refine xP hcp (b2) ?_; skip) | (refine xP hcp (b3) ?_; skip) | (refine xP hcp (b4) ?_; skip) | (refine xP hcp (b5) ?_; skip) | (refine xP hcp (b6) ?_; skip) | (refine xP hcp (b7) ?_; skip) | (refine xP hcp (b8) ?_; skip) | (refine xP hcp (b9) ?_; skip))
    | (with_reducible refine isCC hcc ?_; first | (refine xA hcc (a1) rfl ?_; skip) | (refine xA hcc (a2) rfl ?_; skip) | (refine xA hcc (a3) rfl ?_; skip) | (refine xA hcc (a4) rfl ?_; skip) | (refine xA hcc (a5) rfl ?_; skip) | (refine xA hcc (a6) rfl ?_; skip) | (refine xA hcc (a7) rfl ?_; skip) | (refine xA hcc (a8) rfl ?_; skip) | (refine xA hcc (a9) rfl ?_; skip) | (refine xA hcc (b1) rfl ?_; skip) | (refine xA hcc (b2) rfl ?_; skip) | (refine xA hcc (b3) rfl ?_; skip) | (refine xA hcc (b4) rfl ?_; skip) | (refine xA hcc (b5) rfl ?_; skip) | (refine xA hcc (b6) rfl ?_; skip) | (refine xA hcc (b7) rfl ?_; skip) | (refine xA hcc (b8) rfl ?_; skip) | (refine xA hcc (b9) rfl ?_; skip))
    | (with_reducible refine Asm.mk2 ?_ ?_)
    | ((fail_if_success (with_reducible first | refine hQ _ ?_ | refine Side.mk ?_ | refine isCP hcp ?_ | refine isCC hcc ?_ | refine isLP hlp ?_ | refine Ix.mk ?_ | refine SIx.mk ?_ | refine SEx.mk ?_ | refine EIx.mk ?_ | refine RIx.mk ?_ | show False | refine hR ?_ _ ?_ ?_ ?_ ?_ ?_ | refine hR2 ?_ _ ?_ ?_ ?_ ?_ ?_)); cbv))
  all_goals first
    | exact hQ _ rfl
    | (exfalso; rw [eqB_val] at hz; simp at hz; done)
    | (exfalso; simp at hz; done)
theorem exprSays_law {k0 k1 k2 k3 : Nat} {x0 x1 x2 x3 : PV} (f0 : FitsA Tryz.prog k0 26 x0) (f1 : FitsA Tryz.prog k1 27 x1) (f2 : FitsA Tryz.prog k2 28 x2) (f3 : FitsA Tryz.prog k3 28 x3) : PCall Tryz.prog 3 [x0, x1, x2, x3] fun r => r = [.bool true] := by
  obtain ⟨op, m, vk, vn, vs, ar, rfl, hw, ho⟩ := fits80 f0
  obtain ⟨l, rfl, h1, hl⟩ := fits29 f1
  obtain ⟨K, rfl, _⟩ := fitsCols f2
  obtain ⟨cs, rfl, hc⟩ := fitsCols f3
  exact exprSays_c op m vk vn vs ar _ rfl hw ho l _ rfl (row_ok hl) h1 K _ rfl cs _ rfl (by omega)
end Go.Proofs.YtnhmnfokbinplaaGreat
