/- expr: Columns; Columns in plain terms: rising, each once; what Put asks; tallyref: what Put puts in; tallyref's columns in plain terms: rising, each once; tallyref: Put; expr: Put. Own work; no condition. -/
import Derived.Test.YtnhmnfokbinplaaMu47
import Derived.Test.YtnhmnfokbinplaaMuSrt2
namespace Go.Proofs.Ytnhmnfokbinplaa
open Go Go.RowKit
set_option maxRecDepth 100000
set_option linter.unusedSimpArgs false
set_option linter.unusedVariables false

def columnsM (e : Ex) : List Int := if builtM e = true then compZ (sortZ (colsM e)) else []
theorem columns_c (op n vk vn : Int) (vs : ByteArray) (ar : List Ex) (es : List (List PV)) (hes : ar.map Ex.cells = es) (hw : (Ex.mk op n ⟨vk, vn, vs⟩ ar).wide) :
    PCall Try.prog 80 [.agg [.int .i64 op, .int .i64 n, .int .i64 vk, .int .i64 vn, .str vs, .sl es]] fun r => r = [.sl ((columnsM (.mk op n ⟨vk, vn, vs⟩ ar)).map i64c)] := by
  have hbc := ebuilt_c op n vk vn vs ar es hes
  obtain ⟨e, he⟩ : ∃ e, Ex.mk op n ⟨vk, vn, vs⟩ ar = e := ⟨_, rfl⟩
  have hce : e.cells = [.int .i64 op, .int .i64 n, .int .i64 vk, .int .i64 vn, .str vs, .sl es] := by rw [← he, cells_mk, hes]
  rw [he] at hbc hw ⊢
  obtain ⟨bt, hbt⟩ : ∃ b, builtM e = b := ⟨_, rfl⟩
  obtain ⟨PL, hPL⟩ : ∃ l, colsM e = l := ⟨_, rfl⟩
  obtain ⟨C', hC'⟩ : ∃ l, PL.map i64c = l := ⟨_, rfl⟩
  obtain ⟨n', hn'⟩ : ∃ l, C'.length = l := ⟨_, rfl⟩
  obtain ⟨g', hg'⟩ : ∃ l, PL.length = l := ⟨_, rfl⟩
  have hcall : bt = true → ACall Try.prog 142 [.p (.agg [.int .i64 op, .int .i64 n, .int .i64 vk, .int .i64 vn, .str vs, .sl es]), .fn 143 [.ref 0 0]] (colS 0 0 []) fun r H' => r = .tup [] ∧ takeX H' 2 = colS g' n' C' := by
    intro hb
    exact each_sall _ e (Nat.le_refl _) hw _ 0 0 [] [] hce rfl rfl (by have := built_szK (hbt.trans hb); omega) g' n' C' (by rw [hPL]; exact hC') hn' (by rw [hPL]; omega)
  have hnb : bt = true → n' < 4611686018427387904 := by
    intro hb
    have h1 := built_szK (hbt.trans hb)
    have h2 := cols_sz e
    rw [hPL] at h2
    have h3 : C'.length = PL.length := by rw [← hC']; simp
    omega
  rw [columnsM, hbt, hPL]
  rw [hbt] at hbc
  have hbn : ∀ {z : Bool}, bt = z → (!z) = false → bt = true := by rintro z rfl h; simpa using h
  have hbf : ∀ {z : Bool}, bt = z → (!z) = true → bt = false := by rintro z rfl h; simpa using h
  have hsl : ∀ {C2 : List (List PV)}, (sortZ PL).map i64c = C2 → C2.length = n' := by
    intro C2 h; rw [← h, List.length_map, sortZ_len, ← hn', ← hC', List.length_map]
  refine PCall.x (nt := 14) (res := [.tmp 2]) mixed tt_ok [] Try.func80 rfl rfl rfl c80 (Nat.le_of_ble_eq_true rfl) ?_
  intro cp cc lp Q' hcp hcc hlp hQ
  repeat' (first
    | (with_reducible refine Nm.mk ?_; intro z hz)
    | (with_reducible refine IfB.mk ?_ ?_ <;> (intro h; cases h))
    | (with_reducible refine Two.l ?_; refine Asm.mk ?_ ?_; focus (decide +kernel))
    | (with_reducible refine Two.r ?_)
    | (with_reducible refine Asm.mk ?_ ?_; focus kernel_rfl)
    | (with_reducible refine isCP hcp ?_; first | (refine bP hcp (hbc) ?_; intro z hz))
    | (with_reducible refine isCC hcc ?_; first | (refine bA hcc (hbc) rfl ?_; intro z hz))
    | (with_reducible refine isCC hcc ?_; refine mintCC hcc 1 1 0 rfl rfl ?_; refine frameK (H1 := colS g' n' C') hcc [1, 2] (hcall (hbn (by assumption) (by assumption))) rfl rfl rfl rfl rfl rfl rfl ?_)
    | (with_reducible refine isCC hcc ?_; refine sortCC hcc 2 g' n' PL rfl rfl hC' hn' (hnb (hbn (by assumption) (by assumption))) ?_; intro C2 hC2)
    | (with_reducible refine isCC hcc ?_; refine compactCC hcc 2 g' n' (sortZ PL) rfl rfl hC2 (hsl hC2) (hnb (hbn (by assumption) (by assumption))) ?_; intro C3 n3 hC3 hn3)
    | (with_reducible refine Asm.mk2 ?_ ?_)
    | ((fail_if_success (with_reducible first | refine hQ _ ?_ | refine Side.mk ?_ | refine isCP hcp ?_ | refine isCC hcc ?_ | refine isLP hlp ?_ | refine Ix.mk ?_ | refine SIx.mk ?_ | refine SEx.mk ?_ | refine EIx.mk ?_ | refine RIx.mk ?_ | show False | refine hR ?_ _ ?_ ?_ ?_ ?_ ?_ | refine hR2 ?_ _ ?_ ?_ ?_ ?_ ?_)); cbv))
  · refine hQ _ ?_
    rw [hbf (by assumption) (by assumption), if_neg (by decide)]; rfl
  · have h1 := padZ_len (sortZ PL)
    have h2 := compZ_len (sortZ PL)
    refine Side.mk ⟨rfl, ?_⟩
    rw [← hC3, List.length_map, ← hn3]; omega
  · refine hQ _ ?_
    rw [if_pos (hbn (by assumption) (by assumption)), ← hz, List.drop_zero, ← hC3, ← hn3, ← List.map_take, padZ, List.take_left]
end Go.Proofs.Ytnhmnfokbinplaa

namespace Go.Proofs.Ytnhmnfokbinplaa
open Go Go.RowKit
set_option maxRecDepth 100000
set_option linter.unusedSimpArgs false
set_option linter.unusedVariables false

theorem sortZ_mem (x : Int) (l : List Int) : x ∈ sortZ l ↔ x ∈ l := (List.mergeSort_perm l _).mem_iff
theorem sortZ_le (l : List Int) : (sortZ l).Pairwise (· ≤ ·) := by
  have h := List.pairwise_mergeSort (le := fun x y : Int => decide (x ≤ y)) (fun a b c h1 h2 => by simp only [decide_eq_true_eq] at *; omega) (fun a b => by simp only [Bool.or_eq_true, decide_eq_true_eq]; omega) l
  exact h.imp fun h => by simpa using h
theorem get!_arr (l : List Int) (j : Nat) (hj : j < l.length) : l.toArray[j]! = l[j] := by
  rw [getElem!_pos _ j (by simpa using hj)]; simp
theorem compZ_mem (x : Int) (l : List Int) : x ∈ compZ l ↔ x ∈ l := by
  unfold compZ Lib.compact Lib.compactUpTo
  rw [List.mem_map]
  constructor
  · rintro ⟨j, hj, rfl⟩
    rw [List.mem_filter, List.mem_range] at hj
    have h2 : j < l.length := hj.1
    rw [get!_arr l j h2]
    exact List.getElem_mem h2
  · intro hx
    obtain ⟨i, hi, hxi⟩ := List.mem_iff_getElem.1 hx
    -- the first place of x
    have key : ∀ k, k < l.length → l[k]? = some x → ∃ j, j < l.length ∧ l[j]? = some x ∧ (j = 0 ∨ l[j - 1]? ≠ some x) := by
      intro k
      induction k with
      | zero => intro h1 h2; exact ⟨0, h1, h2, .inl rfl⟩
      | succ k ih =>
        intro h1 h2
        by_cases h3 : l[k]? = some x
        · exact ih (by omega) h3
        · exact ⟨k + 1, h1, h2, .inr (by simpa using h3)⟩
    obtain ⟨j, hj, hjx, hj0⟩ := key i hi (by rw [List.getElem?_eq_getElem hi, hxi])
    have hjx2 : l[j] = x := by rw [List.getElem?_eq_getElem hj] at hjx; simpa using hjx
    refine ⟨j, ?_, by rw [get!_arr l j hj, hjx2]⟩
    rw [List.mem_filter, List.mem_range]
    refine ⟨hj, ?_⟩
    unfold Lib.keeps
    rw [decide_eq_true_eq]
    rcases hj0 with h | h
    · exact .inl h
    · by_cases h0 : j = 0
      · exact .inl h0
      · refine .inr ?_
        rw [get!_arr l j hj, get!_arr l (j - 1) (by omega), hjx2]
        intro e
        exact h (by rw [List.getElem?_eq_getElem (by omega), ← e])
theorem compZ_lt {l : List Int} (h : l.Pairwise (· ≤ ·)) : (compZ l).Pairwise (· < ·) := by
  unfold compZ Lib.compact Lib.compactUpTo
  rw [List.pairwise_map]
  have h1 : ((List.range l.length).filter (Lib.keeps l.toArray)).Pairwise (fun a b => a < b ∧ b < l.length ∧ Lib.keeps l.toArray b = true) := by
    have h2 := (List.pairwise_lt_range (n := l.length)).filter (Lib.keeps l.toArray)
    refine List.Pairwise.imp_of_mem ?_ h2
    intro a b ha hb hab
    rw [List.mem_filter, List.mem_range] at hb
    exact ⟨hab, hb.1, hb.2⟩
  refine h1.imp ?_
  rintro a b ⟨hab, hb, hk⟩
  rw [get!_arr l a (by omega), get!_arr l b hb]
  unfold Lib.keeps at hk
  rw [decide_eq_true_eq, get!_arr l b hb, get!_arr l (b - 1) (by omega)] at hk
  have hle : ∀ i j (hi : i < l.length) (hj : j < l.length), i ≤ j → l[i] ≤ l[j] := by
    intro i j hi hj hij
    rcases Nat.lt_or_ge i j with g | g
    · exact List.pairwise_iff_getElem.1 h i j hi hj g
    · have : i = j := by omega
      subst this; exact Int.le_refl _
  have h3 := hle a (b - 1) (by omega) (by omega) (by omega)
  have h4 := hle (b - 1) b (by omega) hb (by omega)
  rcases hk with hk | hk
  · omega
  · have : l[b] ≠ l[b - 1] := hk
    omega
/-- The columns: rising, each once, those that are met. -/
theorem cols_rise (l : List Int) : (compZ (sortZ l)).Pairwise (· < ·) := compZ_lt (sortZ_le l)
theorem cols_mem (x : Int) (l : List Int) : x ∈ compZ (sortZ l) ↔ x ∈ l := by rw [compZ_mem, sortZ_mem]
def lastZ (l : List Int) : Int := (l[l.length - 1]?).getD 0
theorem last_le {l : List Int} (h : l.Pairwise (· < ·)) {x : Int} (hx : x ∈ l) : x ≤ lastZ l := by
  obtain ⟨i, hi, rfl⟩ := List.mem_iff_getElem.1 hx
  rw [lastZ, List.getElem?_eq_getElem (by omega), Option.getD_some]
  rcases Nat.lt_or_ge i (l.length - 1) with g | g
  · exact Int.le_of_lt (List.pairwise_iff_getElem.1 h i (l.length - 1) hi (by omega) g)
  · have : i = l.length - 1 := by omega
    simp only [this]; exact Int.le_refl _
/-- Whether the last column is none of n. -/
theorem lost_last (l : List Int) (n : Int) : (0 < (compZ (sortZ l)).length ∧ n ≤ lastZ (compZ (sortZ l))) ↔ l.all (fun c => decide (c < n)) = false := by
  have hr := cols_rise l
  have hm := fun x => cols_mem x l
  generalize compZ (sortZ l) = c at hr hm
  constructor
  · rintro ⟨h1, h2⟩
    have hl : lastZ c ∈ c := by
      rw [lastZ, List.getElem?_eq_getElem (by omega), Option.getD_some]
      exact List.getElem_mem _
    rw [List.all_eq_false]
    exact ⟨lastZ c, (hm _).1 hl, by simpa using h2⟩
  · intro h
    rw [List.all_eq_false] at h
    obtain ⟨x, hx, hxn⟩ := h
    have hxc := (hm x).2 hx
    have h1 : n ≤ x := by simpa using hxn
    have h2 := last_le hr hxc
    exact ⟨List.length_pos_of_mem hxc, by omega⟩

/-! What is put in. -/
def PutC (n : Nat) (e : Ex) : Prop := match e with
  | .mk op m _ _ => op = 1 → 0 ≤ m ∧ m < n
mutual
theorem put_cond (by' : List Ex) : ∀ e : Ex, goodE e = true → (∀ n, n ∈ colsM e → n < by'.length) → CondE (PutC by'.length) (putN by') e
  | .mk op m v ar, hg, hc => by
    have hpos := cols_pos _ hg
    simp only [goodE, Bool.and_eq_true, Bool.not_eq_true'] at hg
    rw [CondE]
    refine ⟨?_, put_condL by' ar hg.2 fun n hn => hc n (by simp [colsM, hn])⟩
    show op = 1 → _
    intro h1
    rw [if_pos h1]
    have hm : m ∈ colsM (.mk op m v ar) := by simp [colsM, h1]
    exact ⟨hpos m hm, hc m hm⟩
theorem put_condL (by' : List Ex) : ∀ l : List Ex, goodL l = true → (∀ n, n ∈ colsL l → n < by'.length) → CondL (PutC by'.length) (putN by') l
  | [], _, _ => trivial
  | e :: r, hg, hc => by
    simp only [goodL, Bool.and_eq_true] at hg
    rw [CondL]
    exact ⟨put_cond by' e hg.1 fun n hn => hc n (by simp [colsL, hn]), put_condL by' r hg.2 fun n hn => hc n (by simp [colsL, hn])⟩
end
end Go.Proofs.Ytnhmnfokbinplaa

namespace Go.Proofs.Ytnhmnfokbinplaa
open Go Go.RowKit
set_option maxRecDepth 100000
set_option linter.unusedSimpArgs false
set_option linter.unusedVariables false

/-- A result is told as the value that it holds. -/
theorem ACall.pureR {P : Program} {f : FuncId} {args : List AV} {H : List AObj} {y : PV} {Q : List AObj → Prop} (h : ACall P f args H fun r H' => pureX r = some y ∧ Q H') : ACall P f args H fun r H' => r = .p y ∧ Q H' := by
  refine ⟨fun B G w vals wr rv => (h.run B G w vals wr rv).mono ?_⟩
  rintro e w' ⟨v, r, G', H', h1, h2, h3, h4, h5, h6⟩
  rw [pureX_eq] at h5
  exact ⟨v, .p y, G', H', h1, .p (pure_ok h2 h5), h3, h4, rfl, h6⟩
theorem FrX.frame {P : Program} {cc : FuncId → List AV → List AObj → (AV → List AObj → Prop) → Prop} (hcc : ACall P = cc) {k : FuncId} {ags args0 rest : List AV} {x : AV} {y0 y : PV} {H0 H : List AObj} {K : PV → List Nat → Prop} (s : List Nat)
    (h : ACall P k (.p y0 :: args0) H0 fun r H' => r = .p y ∧ takeX H' (lenX H0) = H0) (hs : onceX s = true) (hl : lenX H0 = lenX s) (ha : ags = x :: rest) (hx : pureX x = some y0) (hr : rest = AV.renL s args0) (hH : optL (nth H) s = some (mapX (AObj.ren s) H0)) (hlt : (AV.ltL (lenX s) (.p y0 :: args0) && ltH (lenX s) H0) = true)
    (kk : K y s) : FrX cc k ags H K := by
  subst hcc ha hr
  rw [lenX_eq s] at hl hlt
  rw [lenX_eq] at hl
  have get : ∀ {H' : List AObj}, optL (nth H') s = some (mapX (AObj.ren s) H0) → ∀ j, j < s.length → ∃ z, H0[j]? = some z ∧ H'[nthD s j]? = some (AObj.ren s z) := by
    intro H' hH' j hj
    obtain ⟨s1, s2⟩ := optL_get hH'
    have e := List.getElem?_eq_getElem (l := H0) (i := j) (by omega)
    refine ⟨_, e, ?_⟩
    rw [← nth_eq]
    exact s2 j _ _ (nthD_eq s j hj) (by rw [mapX_eq, List.getElem?_map, e]; rfl)
  have mem : ∀ id, id ∈ s → ∃ j, j < s.length ∧ nthD s j = id := by
    intro id hid
    obtain ⟨j, hj, e⟩ := List.mem_iff_getElem.1 hid
    refine ⟨j, hj, ?_⟩
    have := nthD_eq s j hj
    rw [List.getElem?_eq_getElem hj, e] at this
    simpa using this.symm
  refine ⟨y, s, fun id hid => ?_, fun H' agree => ?_, kk⟩
  · obtain ⟨j, hj, rfl⟩ := mem id hid
    obtain ⟨z, _, hz⟩ := get hH j hj
    exact (List.getElem?_eq_some_iff.1 hz).1
  have hH' : optL (nth H') s = some (mapX (AObj.ren s) H0) := by
    rw [← hH]
    exact optL_congr fun id hid => by rw [nth_eq, nth_eq]; exact agree id hid
  refine ACall.headK ?_ hx
  rw [show (AV.p y0 :: AV.renL s args0) = AV.renL s (.p y0 :: args0) from rfl]
  refine h.frame s hs rfl hH' hlt ?_
  rintro r H1 ⟨rfl, h1⟩
  rw [lenX_eq, hl] at h1
  rw [h1]
  rw [Bool.and_eq_true] at hlt
  refine ⟨rfl, hl, hlt.2, rfl, ?_⟩
  have slt : ∀ j, j < s.length → nthD s j < H'.length := fun j hj => by
    obtain ⟨z, _, hz⟩ := get hH' j hj
    exact (List.getElem?_eq_some_iff.1 hz).1
  obtain ⟨_, b2⟩ := backX_get s s H0 H' hl.symm hs slt
  apply List.ext_getElem?
  intro i
  rw [b2 i]
  split
  · rename_i j hj
    obtain ⟨j1, j2⟩ := idxX_some hj
    obtain ⟨z, hz1, hz2⟩ := get hH' j j1
    rw [hz1, ← j2, hz2]; rfl
  · rfl
def pH (BY : List (List PV)) : List AObj := [.cells [.p (.sl BY)], .cells [.fn 140 [.ref 0 0, .ref 1 0]]]
def PutA (by' : List Ex) (BY : List (List PV)) (e : Ex) : Prop := ∀ (cells : List PV) (X : Ex), e.cells = cells → mapE (putN by') e = X →
  ACall Try.prog 140 [.p (.agg cells), .ref 0 0, .ref 1 0] (pH BY) fun r H' => r = .p (.agg X.cells) ∧ takeX H' 2 = pH BY
theorem colsL_of : ∀ {l : List Ex} {x : Ex} {n : Int}, x ∈ l → n ∈ colsM x → n ∈ colsL l
  | a :: r, x, n, h, hn => by
    rw [colsL, List.mem_append]
    rcases List.mem_cons.1 h with rfl | h
    · exact .inl hn
    · exact .inr (colsL_of h hn)
set_option maxHeartbeats 4000000 in
theorem putA_c (by' : List Ex) (BY : List (List PV)) (hBY : by'.map Ex.cells = BY) (hwb : wideL by') (op m vk vn : Int) (vs : ByteArray) (ar : List Ex) (es : List (List PV)) (hes : ar.map Ex.cells = es) (hs : wideN ar.length) (hc : op = 1 → 0 ≤ m ∧ m < by'.length) (IH : ∀ x, x ∈ ar → PutA by' BY x) (X : Ex) (hq : mapE (putN by') (.mk op m ⟨vk, vn, vs⟩ ar) = X) :
    ACall Try.prog 140 [.p (.agg [.int .i64 op, .int .i64 m, .int .i64 vk, .int .i64 vn, .str vs, .sl es]), .ref 0 0, .ref 1 0] (pH BY) fun r H' => r = .p (.agg X.cells) ∧ takeX H' 2 = pH BY := by
  have hel : es.length = ar.length := by rw [← hes]; simp
  unfold wideN at hs
  rw [mapE, mapL_eq, putN] at hq
  have hb : decide (op = 1) = true → 0 ≤ m ∧ m < by'.length := fun h => hc (of_decide_eq_true h)
  have hneat : ∀ (op' m' vk' vn' : Int) (vs' : ByteArray) (ar' : List Ex) (es' : List (List PV)), by'[m.toNat]? = some (.mk op' m' ⟨vk', vn', vs'⟩ ar') → ar'.map Ex.cells = es' →
      PCall Try.prog 141 [.agg [.int .i64 op', .int .i64 m', .int .i64 vk', .int .i64 vn', .str vs', .sl es']] fun r => r = [.agg (mapE id (.mk op' m' ⟨vk', vn', vs'⟩ ar')).cells] := fun op' m' vk' vn' vs' ar' es' hx he => rneat_c op' m' vk' vn' vs' ar' es' he (wide_mem hwb (List.mem_of_getElem? hx))
  have hpc : ∀ (op' m' vk' vn' : Int) (vs' : ByteArray) (ar' : List Ex) (es' : List (List PV)) (i : Nat), ar[i]? = some (.mk op' m' ⟨vk', vn', vs'⟩ ar') → ar'.map Ex.cells = es' → ∃ op3 m3 vk3 vn3 vs3 ar3 es3, mapE (putN by') (.mk op' m' ⟨vk', vn', vs'⟩ ar') = .mk op3 m3 ⟨vk3, vn3, vs3⟩ ar3 ∧ ar3.map Ex.cells = es3 ∧
      ACall Try.prog 140 [.p (.agg [.int .i64 op', .int .i64 m', .int .i64 vk', .int .i64 vn', .str vs', .sl es']), .ref 0 0, .ref 1 0] (pH BY) fun r H' => r = .p (.agg [.int .i64 op3, .int .i64 m3, .int .i64 vk3, .int .i64 vn3, .str vs3, .sl es3]) ∧ takeX H' 2 = pH BY := by
    intro op' m' vk' vn' vs' ar' es' i hx he
    obtain ⟨⟨op3, m3, ⟨vk3, vn3, vs3⟩, ar3⟩, h3⟩ : ∃ x, mapE (putN by') (.mk op' m' ⟨vk', vn', vs'⟩ ar') = x := ⟨_, rfl⟩
    have := IH _ (List.mem_of_getElem? hx) _ _ (by rw [cells_mk, he]) h3
    rw [cells_mk] at this
    exact ⟨op3, m3, vk3, vn3, vs3, ar3, _, h3, rfl, this⟩
  clear hc
  refine ACall.pureR ?_
  refine ACall.x (nt := 44) (res := [.cell 4 80]) mixed tt_ok [] Try.func140 rfl rfl rfl c140 (Nat.le_of_ble_eq_true rfl) ?_
  intro cp cc lp Q' hcp hcc hlp hQ
  repeat' (first
    | (with_reducible refine Nm.mk ?_; intro z hz)
    | (with_reducible refine IfB.mk ?_ ?_ <;> (intro h; cases h))
    | (with_reducible refine Two.l ?_; refine Asm.mk ?_ ?_; focus (decide +kernel))
    | (with_reducible refine Two.r ?_)
    | (with_reducible refine Asm.mk ?_ ?_; focus kernel_rfl)
    | (with_reducible refine isCP hcp ?_; first | (refine exP hcp (hneat _ _ _ _ _ _ _ (by assumption) (by assumption)) ?_; intro op2 m2 vk2 vn2 vs2 ar2 es2 hX hes2) | (refine vP hcp (rclean_c vk vn vs) ?_; intro v hv))
    | (with_reducible refine isCC hcc ?_; first | (refine exA hcc (hneat _ _ _ _ _ _ _ (by assumption) (by assumption)) rfl ?_; intro op2 m2 vk2 vn2 vs2 ar2 es2 hX hes2) | (refine vA hcc (rclean_c vk vn vs) rfl ?_; intro v hv))
    | (with_reducible refine Ix.ex hBY (hb (by assumption)).1 (hb (by assumption)).2 ?_; intro op' m' vk' vn' vs' ar' es' hx hes')
    | (with_reducible refine Asm.mk2 ?_ ?_)
    | ((fail_if_success (with_reducible first | refine hQ _ _ ?_ | refine Side.mk ?_ | refine isCP hcp ?_ | refine isCC hcc ?_ | refine isLP hlp ?_ | refine Ix.mk ?_ | refine SIx.mk ?_ | refine SEx.mk ?_ | refine EIx.mk ?_ | refine RIx.mk ?_ | show False | refine hR ?_ _ ?_ ?_ ?_ ?_ ?_ | refine hR2 ?_ _ ?_ ?_ ?_ ?_ ?_)); cbv))
  · refine hQ _ _ ⟨?_, rfl⟩
    rw [if_pos (of_decide_eq_true (by assumption)), if_pos (of_decide_eq_true (by assumption)), hx, Option.getD_some, hX] at hq
    rw [← hq, cells_mk, hes2]; rfl
  · have hq' : Ex.mk op 0 ⟨v.k, v.n, v.s⟩ (ar.map (mapE (putN by'))) = X := by
      rw [← hq]
      clear hQ hcp hcc hlp hneat hpc IH hb
      have e1 : ¬ op = 1 := of_decide_eq_false (by assumption)
      rw [if_neg e1, if_neg e1, if_neg e1]
      first
        | (have e2 : ¬ op = 2 := of_decide_eq_false (by assumption)
           rw [if_neg e2]; rfl)
        | (have e2 : op = 2 := of_decide_eq_true (by assumption)
           rw [if_pos e2]; subst_vars; rfl)
    clear hq
    simp only [nc] at hz
    simp only [nc'] at hz
    have hzl := lenZ (n := ar.length) hel hz
    clear hz
    rename Int => zl
    refine mintX hlp 6 4 5 rfl rfl ?_
    refine loopT (ι := Int × List (List PV) × Nat) mixed tt_ok hcp hcc hlp [1, 2, 3, 4, 5, 28, 29] (fun p => [(30, .p (.int .i64 p.1))])
      (fun p => [.cells [.p (.sl BY)], .cells [.fn 140 [.ref 0 0, .ref 1 0]], .cells [.p (.int .i64 op), .p (.int .i64 m), .p (.int .i64 vk), .p (.int .i64 vn), .p (.str vs), .p (.sl es)], .cells [.p (.int .i64 0), .p (.int .i64 0), .p (.int .i64 0), .p (.int .i64 0), .p (.str ⟨⟨[]⟩⟩), .full []],
        .cells [.p (.int .i64 op), .p (.int .i64 0), .p (.int .i64 v.k), .p (.int .i64 v.n), .p (.str v.s), .tok 5 p.2.1], .spare p.2.2 6])
      (fun p => Rng ar.length zl p.1 ∧ (ar.take p.1.toNat).map (fun e => (mapE (putN by') e).cells) = p.2.1 ∧ p.2.1.length = p.2.2) (fun p => (zl - p.1).toNat)
      (0, [], 0) 6 (fun _ => rfl) ⟨Rng.start hzl (by omega), by simp, rfl⟩ ⟨rfl, trivial⟩ rfl ?_
    rintro R ⟨i, L, n1⟩ ⟨rg, hl, hm⟩ hR
    replace rg : Rng ar.length zl i := rg
    replace hl : (ar.take i.toNat).map (fun e => (mapE (putN by') e).cells) = L := hl
    replace hm : L.length = n1 := hm
    have hll : L.length ≤ i.toNat := by rw [← hl]; simp; omega
    have hok : okEs 6 L = true := by
      rw [← hl, show (fun e => (mapE (putN by') e).cells) = Ex.cells ∘ mapE (putN by') from rfl, ← List.map_map]; exact okEs_cells _
    have hst : decide (i < zl) = true → L.length + 1 ≤ maxLen ∧ (L.length + 1) * 72 ≤ 140737488355328 := by
      intro h
      have hlt := rg.ltN h
      refine ⟨by simp only [maxLen]; omega, by omega⟩
    have hfin : decide (i < zl) = false → (ar.map (mapE (putN by'))).map Ex.cells = L := by
      intro h
      rw [← hl, rg.take_ rfl h, List.map_map]; rfl
    repeat' (first
      | (with_reducible refine Two.l ?_; obtain ⟨op3, m3, vk3, vn3, vs3, ar3, es3, hX3, hes3, hcall⟩ := hpc _ _ _ _ _ _ _ _ hx hes'; refine FrX.frame hcc [0, 1] hcall rfl rfl rfl rfl rfl rfl rfl ?_)
      | (with_reducible refine Nm.mk ?_; intro z hz)
      | (with_reducible refine IfB.mk ?_ ?_ <;> (intro h; cases h))
      | (with_reducible refine Two.l ?_; refine Asm.mk ?_ ?_; focus (decide +kernel))
      | (with_reducible refine Two.r ?_)
      | (with_reducible refine Asm.mk ?_ ?_; focus (show (_ : Bool) = true; kernel_rfl))
      | (with_reducible refine Ix.ex hes rg.lo (rg.lt (by assumption)) ?_; intro op' m' vk' vn' vs' ar' es' hx hes')
      | (with_reducible refine Asm.mk2 ?_ ?_)
      | ((fail_if_success (with_reducible first | refine hQ _ _ ?_ | refine Side.mk ?_ | refine isCP hcp ?_ | refine isCC hcc ?_ | refine isLP hlp ?_ | refine Ix.mk ?_ | refine SIx.mk ?_ | refine SEx.mk ?_ | refine EIx.mk ?_ | refine RIx.mk ?_ | show False | refine hR ?_ _ ?_ ?_ ?_ ?_ ?_ | refine hR2 ?_ _ ?_ ?_ ?_ ?_ ?_)); cbv))
    · refine Side.mk ?_
      obtain ⟨u1, u2⟩ := hst (by assumption)
      exact ⟨hm.symm, rfl, hok, rfl, u1, u2⟩
    · have hlt : decide (i < zl) = true := by assumption
      rw [rg.wrap hlt] at hz
      rename_i L2 hL2 m2 hm2
      refine hR (i + 1, L2, m2) _ ⟨rg.next hlt, ?_, ?_⟩ (rg.less hlt) ⟨hz ▸ rfl, trivial⟩ ⟨rfl, rfl, rfl, rfl, rfl, rfl, rfl, trivial⟩ rfl
      · show (ar.take (i + 1).toNat).map (fun e => (mapE (putN by') e).cells) = L2
        rw [rg.take hx, List.map_append, hl, ← hL2]
        simp only [List.map_cons, List.map_nil, hX3, cells_mk, hes3]
      · show L2.length = m2
        rw [← hL2, ← hm2, List.length_append]
    · refine hQ _ _ ⟨?_, rfl⟩
      rw [← hq', cells_mk, hfin (by assumption)]; rfl
  · have hq' : Ex.mk op 0 ⟨0, 0, ⟨⟨[]⟩⟩⟩ (ar.map (mapE (putN by'))) = X := by
      rw [← hq]
      clear hQ hcp hcc hlp hneat hpc IH hb
      have e1 : ¬ op = 1 := of_decide_eq_false (by assumption)
      rw [if_neg e1, if_neg e1, if_neg e1]
      first
        | (have e2 : ¬ op = 2 := of_decide_eq_false (by assumption)
           rw [if_neg e2]; rfl)
        | (have e2 : op = 2 := of_decide_eq_true (by assumption)
           rw [if_pos e2]; subst_vars; rfl)
    clear hq
    simp only [nc] at hz
    simp only [nc'] at hz
    have hzl := lenZ (n := ar.length) hel hz
    clear hz
    rename Int => zl
    refine mintX hlp 6 4 5 rfl rfl ?_
    refine loopT (ι := Int × List (List PV) × Nat) mixed tt_ok hcp hcc hlp [1, 2, 3, 4, 5, 28, 29] (fun p => [(30, .p (.int .i64 p.1))])
      (fun p => [.cells [.p (.sl BY)], .cells [.fn 140 [.ref 0 0, .ref 1 0]], .cells [.p (.int .i64 op), .p (.int .i64 m), .p (.int .i64 vk), .p (.int .i64 vn), .p (.str vs), .p (.sl es)], .cells [.p (.int .i64 0), .p (.int .i64 0), .p (.int .i64 0), .p (.int .i64 0), .p (.str ⟨⟨[]⟩⟩), .full []],
        .cells [.p (.int .i64 op), .p (.int .i64 0), .p (.int .i64 0), .p (.int .i64 0), .p (.str ⟨⟨[]⟩⟩), .tok 5 p.2.1], .spare p.2.2 6])
      (fun p => Rng ar.length zl p.1 ∧ (ar.take p.1.toNat).map (fun e => (mapE (putN by') e).cells) = p.2.1 ∧ p.2.1.length = p.2.2) (fun p => (zl - p.1).toNat)
      (0, [], 0) 6 (fun _ => rfl) ⟨Rng.start hzl (by omega), by simp, rfl⟩ ⟨rfl, trivial⟩ rfl ?_
    rintro R ⟨i, L, n1⟩ ⟨rg, hl, hm⟩ hR
    replace rg : Rng ar.length zl i := rg
    replace hl : (ar.take i.toNat).map (fun e => (mapE (putN by') e).cells) = L := hl
    replace hm : L.length = n1 := hm
    have hll : L.length ≤ i.toNat := by rw [← hl]; simp; omega
    have hok : okEs 6 L = true := by
      rw [← hl, show (fun e => (mapE (putN by') e).cells) = Ex.cells ∘ mapE (putN by') from rfl, ← List.map_map]; exact okEs_cells _
    have hst : decide (i < zl) = true → L.length + 1 ≤ maxLen ∧ (L.length + 1) * 72 ≤ 140737488355328 := by
      intro h
      have hlt := rg.ltN h
      refine ⟨by simp only [maxLen]; omega, by omega⟩
    have hfin : decide (i < zl) = false → (ar.map (mapE (putN by'))).map Ex.cells = L := by
      intro h
      rw [← hl, rg.take_ rfl h, List.map_map]; rfl
    repeat' (first
      | (with_reducible refine Two.l ?_; obtain ⟨op3, m3, vk3, vn3, vs3, ar3, es3, hX3, hes3, hcall⟩ := hpc _ _ _ _ _ _ _ _ hx hes'; refine FrX.frame hcc [0, 1] hcall rfl rfl rfl rfl rfl rfl rfl ?_)
      | (with_reducible refine Nm.mk ?_; intro z hz)
      | (with_reducible refine IfB.mk ?_ ?_ <;> (intro h; cases h))
      | (with_reducible refine Two.l ?_; refine Asm.mk ?_ ?_; focus (decide +kernel))
      | (with_reducible refine Two.r ?_)
      | (with_reducible refine Asm.mk ?_ ?_; focus (show (_ : Bool) = true; kernel_rfl))
      | (with_reducible refine Ix.ex hes rg.lo (rg.lt (by assumption)) ?_; intro op' m' vk' vn' vs' ar' es' hx hes')
      | (with_reducible refine Asm.mk2 ?_ ?_)
      | ((fail_if_success (with_reducible first | refine hQ _ _ ?_ | refine Side.mk ?_ | refine isCP hcp ?_ | refine isCC hcc ?_ | refine isLP hlp ?_ | refine Ix.mk ?_ | refine SIx.mk ?_ | refine SEx.mk ?_ | refine EIx.mk ?_ | refine RIx.mk ?_ | show False | refine hR ?_ _ ?_ ?_ ?_ ?_ ?_ | refine hR2 ?_ _ ?_ ?_ ?_ ?_ ?_)); cbv))
    · refine Side.mk ?_
      obtain ⟨u1, u2⟩ := hst (by assumption)
      exact ⟨hm.symm, rfl, hok, rfl, u1, u2⟩
    · have hlt : decide (i < zl) = true := by assumption
      rw [rg.wrap hlt] at hz
      rename_i L2 hL2 m2 hm2
      refine hR (i + 1, L2, m2) _ ⟨rg.next hlt, ?_, ?_⟩ (rg.less hlt) ⟨hz ▸ rfl, trivial⟩ ⟨rfl, rfl, rfl, rfl, rfl, rfl, rfl, trivial⟩ rfl
      · show (ar.take (i + 1).toNat).map (fun e => (mapE (putN by') e).cells) = L2
        rw [rg.take hx, List.map_append, hl, ← hL2]
        simp only [List.map_cons, List.map_nil, hX3, cells_mk, hes3]
      · show L2.length = m2
        rw [← hL2, ← hm2, List.length_append]
    · refine hQ _ _ ⟨?_, rfl⟩
      rw [← hq', cells_mk, hfin (by assumption)]; rfl
theorem putA_all (by' : List Ex) (BY : List (List PV)) (hBY : by'.map Ex.cells = BY) (hwb : wideL by') : ∀ (k : Nat) (e : Ex), e.sz ≤ k → e.wide → goodE e = true → (∀ n, n ∈ colsM e → n < by'.length) → PutA by' BY e
  | 0, .mk op m v ar, h, _, _, _ => by simp [Ex.sz] at h
  | k + 1, .mk op m ⟨vk, vn, vs⟩ ar, h, hw, hg, hc => by
    intro cells X he hX
    rw [cells_mk] at he
    subst he
    have hpos := cols_pos _ hg
    have hg2 := hg
    simp only [goodE, Bool.and_eq_true, Bool.not_eq_true'] at hg2
    refine putA_c by' BY hBY hwb op m vk vn vs ar _ rfl hw.1 (fun h1 => ?_) (fun x hx => putA_all by' BY hBY hwb k x ?_ (wide_mem hw.2 hx) (good_mem hg2.2 hx) fun n hn => hc n ?_) X hX
    · have hm : m ∈ colsM (.mk op m ⟨vk, vn, vs⟩ ar) := by simp [colsM, h1]
      exact ⟨hpos m hm, hc m hm⟩
    · have := sz_mem hx
      simp only [Ex.sz] at h; omega
    · rw [colsM, List.mem_append]
      exact .inl (colsL_of hx hn)
end Go.Proofs.Ytnhmnfokbinplaa

namespace Go.Proofs.Ytnhmnfokbinplaa
open Go Go.RowKit
set_option maxRecDepth 100000
set_option linter.unusedSimpArgs false
set_option linter.unusedVariables false

theorem insC_rise {x : Int} {L : List Int} (h : L.Pairwise (· < ·)) : (insC x L).Pairwise (· < ·) := by
  rw [insC]
  split
  · exact h
  · rename_i hne
    have h1 := insAt_le x L
    have hlt : ∀ y, y ∈ L.take (insAt x L) → y < x := by
      intro y hy
      obtain ⟨i, hi, rfl⟩ := List.mem_iff_getElem.1 hy
      rw [List.length_take] at hi
      rw [List.getElem_take]
      exact insAt_lt x L i _ (by omega) (List.getElem?_eq_getElem (by omega))
    have hgt : ∀ y, y ∈ L.drop (insAt x L) → x < y := by
      intro y hy
      obtain ⟨i, hi, rfl⟩ := List.mem_iff_getElem.1 hy
      rw [List.length_drop] at hi
      rw [List.getElem_drop]
      have h2 := insAt_at x L (L[insAt x L]'(by omega)) (List.getElem?_eq_getElem (by omega))
      have h3 : L[insAt x L]'(by omega) ≠ x := fun e => hne (by rw [List.getElem?_eq_getElem (by omega), e])
      have h4 : L[insAt x L]'(by omega) ≤ L[insAt x L + i]'(by omega) := by
        rcases Nat.eq_zero_or_pos i with g | g
        · subst g; exact Int.le_refl _
        · exact Int.le_of_lt (List.pairwise_iff_getElem.1 h _ _ (by omega) (by omega) (by omega))
      omega
    rw [List.pairwise_append]
    refine ⟨h.sublist (List.take_sublist _ _), List.pairwise_cons.2 ⟨hgt, h.sublist (List.drop_sublist _ _)⟩, fun a ha b hb => ?_⟩
    rcases List.mem_cons.1 hb with rfl | hb
    · exact hlt a ha
    · exact Int.lt_trans (hlt a ha) (hgt b hb)
mutual
theorem colsE_rise : ∀ (e : Ex) (L : List Int), L.Pairwise (· < ·) → (colsE e L).Pairwise (· < ·)
  | .mk op m v ar, L, h => by
    rw [colsE]
    refine colsKL_rise ar _ ?_
    split
    · exact insC_rise h
    · exact h
theorem colsKL_rise : ∀ (l : List Ex) (L : List Int), L.Pairwise (· < ·) → (colsKL l L).Pairwise (· < ·)
  | [], L, h => h
  | e :: r, L, h => by
    rw [colsKL]
    exact colsKL_rise r _ (colsE_rise e L h)
end
theorem insC_has {x c : Int} {L : List Int} (h : c ∈ insC x L) : c ∈ L ∨ c = x := by
  rw [insC] at h
  split at h
  · exact .inl h
  · rcases List.mem_append.1 h with h | h
    · exact .inl (List.mem_of_mem_take h)
    · rcases List.mem_cons.1 h with h | h
      · exact .inr h
      · exact .inl (List.mem_of_mem_drop h)
mutual
theorem colsE_has : ∀ (e : Ex) (L : List Int) (c : Int), c ∈ colsE e L → c ∈ L ∨ c ∈ colsM e
  | .mk op m v ar, L, c, h => by
    rw [colsE] at h
    rw [colsM, List.mem_append]
    rcases colsKL_has ar _ c h with h | h
    · split at h
      · rename_i h1
        rcases insC_has h with h | h
        · exact .inl h
        · rw [if_pos h1]; exact .inr (.inr (by simp [h]))
      · exact .inl h
    · exact .inr (.inl h)
theorem colsKL_has : ∀ (l : List Ex) (L : List Int) (c : Int), c ∈ colsKL l L → c ∈ L ∨ c ∈ colsL l
  | [], L, c, h => .inl h
  | e :: r, L, c, h => by
    rw [colsKL] at h
    rw [colsL, List.mem_append]
    rcases colsKL_has r _ c h with h | h
    · rcases colsE_has e L c h with h | h
      · exact .inl h
      · exact .inr (.inl h)
    · exact .inr (.inr h)
end
mutual
theorem cols_sub : ∀ (e : Ex) (c : Int), c ∈ colsM e → c ∈ e.cols
  | .mk op m v ar, c, h => by
    rw [colsM, List.mem_append] at h
    rw [Ex.cols, List.mem_append]
    rcases h with h | h
    · exact .inr (cols_subL ar c h)
    · exact .inl h
theorem cols_subL : ∀ (l : List Ex) (c : Int), c ∈ colsL l → c ∈ colsOf l
  | [], c, h => by simp [colsL] at h
  | e :: r, c, h => by
    rw [colsL, List.mem_append] at h
    rw [colsOf, List.mem_append]
    rcases h with h | h
    · exact .inl (cols_sub e c h)
    · exact .inr (cols_subL r c h)
end
theorem colsE_iff (e : Ex) (c : Int) : c ∈ colsE e [] ↔ c ∈ colsM e :=
  ⟨fun h => by rcases colsE_has e [] c h with h | h; cases h; exact h, fun h => mem_colsE e [] c (.inr (cols_sub e c h))⟩
theorem lost_lastG {c l : List Int} (hr : c.Pairwise (· < ·)) (hm : ∀ x, x ∈ c ↔ x ∈ l) (n : Int) : (0 < c.length ∧ n ≤ lastZ c) ↔ l.all (fun c => decide (c < n)) = false := by
  constructor
  · rintro ⟨h1, h2⟩
    have hl : lastZ c ∈ c := by
      rw [lastZ, List.getElem?_eq_getElem (by omega), Option.getD_some]
      exact List.getElem_mem _
    rw [List.all_eq_false]
    exact ⟨lastZ c, (hm _).1 hl, by simpa using h2⟩
  · intro h
    rw [List.all_eq_false] at h
    obtain ⟨x, hx, hxn⟩ := h
    have hxc := (hm x).2 hx
    have h1 : n ≤ x := by simpa using hxn
    have h2 := last_le hr hxc
    exact ⟨List.length_pos_of_mem hxc, by omega⟩
theorem colsE_last (e : Ex) (n : Int) : (0 < (colsE e []).length ∧ n ≤ lastZ (colsE e [])) ↔ (colsM e).all (fun c => decide (c < n)) = false :=
  lost_lastG (colsE_rise e [] List.Pairwise.nil) (colsE_iff e) n
end Go.Proofs.Ytnhmnfokbinplaa

namespace Go.Proofs.Ytnhmnfokbinplaa
open Go Go.RowKit
set_option maxRecDepth 100000
set_option linter.unusedSimpArgs false
set_option linter.unusedVariables false

theorem getD_wide {l : List Ex} (hb : wideL l) (i : Nat) : ((l[i]?).getD zeroE).wide := by
  cases hx : l[i]? with
  | none => exact ⟨by unfold wideN; decide, trivial⟩
  | some x => exact wide_mem hb (List.mem_of_getElem? hx)
mutual
theorem put_wide (by' : List Ex) (hb : wideL by') : ∀ e : Ex, e.wide → (mapE (putN by') e).wide
  | .mk op n v ar, h => by
    rw [Ex.wide] at h
    rw [mapE, putN]
    split
    · exact wide_copy _ (getD_wide hb _)
    · rw [Ex.wide]
      exact ⟨by rw [mapL_eq, List.length_map]; exact h.1, put_wideL by' hb ar h.2⟩
theorem put_wideL (by' : List Ex) (hb : wideL by') : ∀ l : List Ex, wideL l → wideL (mapL (putN by') l)
  | [], _ => trivial
  | e :: r, h => by
    rw [wideL] at h
    rw [mapL, wideL]
    exact ⟨put_wide by' hb e h.1, put_wideL by' hb r h.2⟩
end
set_option maxHeartbeats 4000000 in
theorem rput_c (op m vk vn : Int) (vs : ByteArray) (ar : List Ex) (es : List (List PV)) (hes : ar.map Ex.cells = es) (hw : (Ex.mk op m ⟨vk, vn, vs⟩ ar).wide) (by' : List Ex) (BY : List (List PV)) (hBY : by'.map Ex.cells = BY) (hwb : wideL by') (hwn : wideN by'.length) (E : Ex) (err : Int) (hM : putM (.mk op m ⟨vk, vn, vs⟩ ar) by' = (E, err)) :
    PCall Try.prog 74 [.agg [.int .i64 op, .int .i64 m, .int .i64 vk, .int .i64 vn, .str vs, .sl es], .sl BY] fun r => r = [.agg E.cells, .int .i64 err] := by
  have hBl : BY.length = by'.length := by rw [← hBY]; simp
  unfold wideN at hwn
  have hcol := rcolumns_c op m vk vn vs ar es hes hw
  have hbt := rbuilt_c op m vk vn vs ar es hes hw
  obtain ⟨e, he⟩ : ∃ e, Ex.mk op m ⟨vk, vn, vs⟩ ar = e := ⟨_, rfl⟩
  have hce : e.cells = [.int .i64 op, .int .i64 m, .int .i64 vk, .int .i64 vn, .str vs, .sl es] := by rw [← he, cells_mk, hes]
  rw [he] at hcol hbt hw hM
  have hmap : putOk e by' = true → ∃ op3 m3 vk3 vn3 vs3 ar3 es3, mapE (putN by') e = .mk op3 m3 ⟨vk3, vn3, vs3⟩ ar3 ∧ ar3.map Ex.cells = es3 ∧ (Ex.mk op3 m3 ⟨vk3, vn3, vs3⟩ ar3).wide ∧
      ACall Try.prog 140 [.p (.agg [.int .i64 op, .int .i64 m, .int .i64 vk, .int .i64 vn, .str vs, .sl es]), .ref 0 0, .ref 1 0] (pH BY) fun r H' => r = .p (.agg [.int .i64 op3, .int .i64 m3, .int .i64 vk3, .int .i64 vn3, .str vs3, .sl es3]) ∧ takeX H' 2 = pH BY := by
    intro h
    unfold putOk at h
    simp only [Bool.and_eq_true] at h
    obtain ⟨⟨op3, m3, ⟨vk3, vn3, vs3⟩, ar3⟩, h3⟩ : ∃ x, mapE (putN by') e = x := ⟨_, rfl⟩
    have := putA_all by' BY hBY hwb _ e (Nat.le_refl _) hw (good_of_built h.1.1) (fun n hn => by have := List.all_eq_true.1 h.2 n hn; simpa using this) _ _ hce h3
    rw [cells_mk] at this
    exact ⟨op3, m3, vk3, vn3, vs3, ar3, _, h3, rfl, h3 ▸ put_wide by' hwb e hw, this⟩
  have hlast := colsE_last e by'.length
  obtain ⟨cl, hcl⟩ : ∃ l, colsKM e = l := ⟨_, rfl⟩
  rw [hcl] at hcol
  obtain ⟨C, hC⟩ : ∃ l, cl.map i64c = l := ⟨_, rfl⟩
  rw [hC] at hcol
  have hCl : C.length = cl.length := by rw [← hC]; simp
  obtain ⟨bt, hb⟩ : ∃ b, builtM e = b := ⟨_, rfl⟩
  rw [hb] at hbt
  obtain ⟨la, hla⟩ : ∃ x, lastZ cl = x := ⟨_, rfl⟩
  have hsmall : C.length ≤ 1000000 := by
    rw [hCl, ← hcl, colsKM]
    split
    · rename_i hbb
      have h1 := built_szK hbb
      have h2 := colsG_len e (0, [])
      rw [colsG_2] at h2
      have h3 : (colsE e []).length ≤ 0 + e.sz := h2
      omega
    · simp
  have hix : ∀ z1 z1' z2 : Int, IntKind.i64.wrap (z1' - 1) = z2 → (C.length : Int) = z1' → decide (0 < z1) = true → (C.length : Int) = z1 → 0 ≤ z2 ∧ C[z2.toNat]? = some [.int .i64 la] := by
    intro z1 z1' z2 h3 h1' h2 h1
    have h2 := of_decide_eq_true h2
    rw [wrap_in (by omega)] at h3
    refine ⟨by omega, ?_⟩
    rw [← hC, List.getElem?_map, show z2.toNat = cl.length - 1 by omega, ← hla, lastZ, List.getElem?_eq_getElem (by omega)]
    rfl
  have hok : bt = true → by'.all builtM = true → ¬ (0 < C.length ∧ (by'.length : Int) ≤ la) → putOk e by' = true := by
    intro h1 h2 h3
    have hbb : builtM e = true := hb.trans h1
    have h4 : cl = colsE e [] := by rw [← hcl, colsKM, if_pos hbb]
    rw [← h4, hla, ← hCl] at hlast
    unfold putOk
    simp only [Bool.and_eq_true]
    refine ⟨⟨hbb, h2⟩, ?_⟩
    cases h5 : (colsM e).all (fun n => decide (n < (by'.length : Int))) with
    | true => rfl
    | false => exact absurd (hlast.2 h5) h3
  have hno : bt = false ∨ by'.all builtM = false ∨ (0 < C.length ∧ (by'.length : Int) ≤ la) → E = zeroX ∧ err = 1 := by
    intro h
    have hk : putOk e by' = false := by
      cases hk : putOk e by' with
      | false => rfl
      | true =>
        unfold putOk at hk
        simp only [Bool.and_eq_true] at hk
        rcases h with h | h | h
        · rw [hk.1.1] at hb; rw [← hb] at h; cases h
        · rw [hk.1.2] at h; cases h
        · have h4 : cl = colsE e [] := by rw [← hcl, colsKM, if_pos hk.1.1]
          rw [← h4, hla, ← hCl] at hlast
          have := hlast.1 h
          rw [hk.2] at this; cases this
    rw [putM, hk, if_neg (by decide)] at hM
    simp only [Prod.mk.injEq] at hM
    exact ⟨hM.1.symm, hM.2.symm⟩
  have hyes : putOk e by' = true → (builtM (mapE (putN by') e) = true → E = mapE (putN by') e ∧ err = 0) ∧ (builtM (mapE (putN by') e) = false → E = zeroX ∧ err = 3) := by
    intro h
    rw [putM, if_pos h] at hM
    refine ⟨fun h2 => ?_, fun h2 => ?_⟩
    · rw [if_pos h2] at hM; simp only [Prod.mk.injEq] at hM; exact ⟨hM.1.symm, hM.2.symm⟩
    · rw [if_neg (by rw [h2]; decide)] at hM; simp only [Prod.mk.injEq] at hM; exact ⟨hM.1.symm, hM.2.symm⟩
  have hp0 : by'.all builtM = true → ∀ z : Bool, bt = z → (!z) = false → ∀ z1 : Int, (C.length : Int) = z1 → decide (0 < z1) = false → putOk e by' = true := by
    intro h0 z h1 h2 z1 h4 h5
    have h5 := of_decide_eq_false h5
    exact hok (by rw [h1]; simpa using h2) h0 (by omega)
  have hp1 : by'.all builtM = true → ∀ z : Bool, bt = z → (!z) = false → ∀ z1 : Int, (BY.length : Int) = z1 → decide (z1 ≤ la) = false → putOk e by' = true := by
    intro h0 z h1 h2 z1 h4 h5
    have h5 := of_decide_eq_false h5
    exact hok (by rw [h1]; simpa using h2) h0 (by omega)
  clear hlast
  refine PCall.x (nt := 53) (res := [.cell 4 80, .tmp 5]) mixed tt_ok [] Try.func74 rfl rfl rfl c74 (Nat.le_of_ble_eq_true rfl) ?_
  intro cp cc lp Q' hcp hcc hlp hQ
  repeat' (first
    | (with_reducible refine Nm.mk ?_; intro z hz)
    | (with_reducible refine IfB.mk ?_ ?_ <;> (intro h; cases h))
    | (with_reducible refine Two.l ?_; refine Asm.mk ?_ ?_; focus (decide +kernel))
    | (with_reducible refine Two.r ?_)
    | (with_reducible refine Asm.mk ?_ ?_; focus (first | kernel_rfl | decide))
    | (with_reducible refine Asm.mk2 ?_ ?_)
    | ((fail_if_success (with_reducible first | refine hQ _ ?_ | refine Side.mk ?_ | refine isCP hcp ?_ | refine isCC hcc ?_ | refine isLP hlp ?_ | refine Ix.mk ?_ | refine SIx.mk ?_ | refine SEx.mk ?_ | refine EIx.mk ?_ | refine RIx.mk ?_ | show False | refine hR ?_ _ ?_ ?_ ?_ ?_ ?_ | refine hR2 ?_ _ ?_ ?_ ?_ ?_ ?_)); cbv))
  simp only [nc] at hz
  simp only [nc'] at hz
  have hzl := lenZ (n := by'.length) hBl hz
  clear hz
  generalize z = zl at *
  refine loopK (ι := Int) mixed tt_ok hcp hcc hlp [2, 3, 4, 11, 12] (fun i => [(13, .p (.int .i64 i))]) (fun i => Rng by'.length zl i ∧ (by'.take i.toNat).all builtM = true) (fun i => (zl - i).toNat) 0 (fun _ => rfl) ⟨Rng.start hzl (by omega), rfl⟩ ⟨rfl, trivial⟩ ?_
  rintro R i ⟨rg, hall⟩ hR
  have hpb : ∀ (op' m' vk' vn' : Int) (vs' : ByteArray) (ar' : List Ex) (es' : List (List PV)), by'[i.toNat]? = some (.mk op' m' ⟨vk', vn', vs'⟩ ar') → ar'.map Ex.cells = es' → PCall Try.prog 138 [.agg [.int .i64 op', .int .i64 m', .int .i64 vk', .int .i64 vn', .str vs', .sl es']] fun r => r = [.bool (builtM (.mk op' m' ⟨vk', vn', vs'⟩ ar'))] := fun op' m' vk' vn' vs' ar' es' hx he => rbuilt_c op' m' vk' vn' vs' ar' es' he (wide_mem hwb (List.mem_of_getElem? hx))
  have hend : decide (i < zl) = false → by'.all builtM = true := fun h => by rw [rg.take_ rfl h] at hall; exact hall
  repeat' (first
    | (with_reducible refine Nm.mk ?_; intro z hz)
    | (with_reducible refine IfB.mk ?_ ?_ <;> (intro h; cases h))
    | (with_reducible refine Two.l ?_; refine Asm.mk ?_ ?_; focus (decide +kernel))
    | (with_reducible refine Two.r ?_)
    | (with_reducible refine Asm.mk ?_ ?_; focus kernel_rfl)
    | (with_reducible refine isCP hcp ?_; first | (refine bP hcp (hpb _ _ _ _ _ _ _ (by assumption) (by assumption)) ?_; intro z hz) | (refine xP hcp (hcol) ?_; skip) | (refine bP hcp (hbt) ?_; intro z hz) | (refine bP hcp (rbuilt_c _ _ _ _ _ _ _ hes3 hw3) ?_; intro z hz))
    | (with_reducible refine isCC hcc ?_; first | (refine bA hcc (hpb _ _ _ _ _ _ _ (by assumption) (by assumption)) rfl ?_; intro z hz) | (refine xA hcc (hcol) rfl ?_; skip) | (refine bA hcc (hbt) rfl ?_; intro z hz) | (refine bA hcc (rbuilt_c _ _ _ _ _ _ _ hes3 hw3) rfl ?_; intro z hz))
    | (with_reducible refine Ix.ex hBY rg.lo (rg.lt (by assumption)) ?_; intro op' m' vk' vn' vs' ar' es' hx hes')
    | (with_reducible refine Ix.giveK (hix _ _ _ (by assumption) (by assumption) (by assumption) (by assumption)).1 (hix _ _ _ (by assumption) (by assumption) (by assumption) (by assumption)).2 rfl (by decide) ?_)
    | (with_reducible refine isCC hcc ?_; have hpq : putOk e by' = true := (by first | exact hp0 (hend (by assumption)) _ (by assumption) (by assumption) _ (by assumption) (by assumption) | exact hp1 (hend (by assumption)) _ (by assumption) (by assumption) _ (by assumption) (by assumption)); obtain ⟨op3, m3, vk3, vn3, vs3, ar3, es3, hX3, hes3, hw3, hcall⟩ := hmap hpq; refine frameK (H1 := pH BY) hcc [1, 3] hcall rfl rfl rfl rfl rfl rfl rfl ?_)
    | (with_reducible refine Asm.mk2 ?_ ?_)
    | ((fail_if_success (with_reducible first | refine hQ _ ?_ | refine Side.mk ?_ | refine isCP hcp ?_ | refine isCC hcc ?_ | refine isLP hlp ?_ | refine Ix.mk ?_ | refine SIx.mk ?_ | refine SEx.mk ?_ | refine EIx.mk ?_ | refine RIx.mk ?_ | show False | refine hR ?_ _ ?_ ?_ ?_ ?_ ?_ | refine hR2 ?_ _ ?_ ?_ ?_ ?_ ?_)); cbv))
  · have hbb : builtM (.mk op' m' ⟨vk', vn', vs'⟩ ar') = false := by
      have h1 : builtM (.mk op' m' ⟨vk', vn', vs'⟩ ar') = z := by assumption
      rw [h1]; simpa using hz
    obtain ⟨rfl, rfl⟩ := hno (.inr (.inl (by
      rw [List.all_eq_false]
      exact ⟨_, List.mem_of_getElem? hx, by rw [hbb]; decide⟩)))
    exact hQ _ rfl
  · have hlt : decide (i < zl) = true := by assumption
    rename_i z1 hz1 hz2
    have hbb : builtM (.mk op' m' ⟨vk', vn', vs'⟩ ar') = true := by
      rw [hz1]; simpa using hz2
    rw [rg.wrap hlt] at hz
    exact hR (i + 1) _ ⟨rg.next hlt, by rw [rg.take hx, List.all_append, hall]; simp [hbb]⟩ (rg.less hlt) ⟨hz ▸ rfl, trivial⟩ ⟨rfl, rfl, rfl, rfl, rfl, trivial⟩ rfl
  · obtain ⟨rfl, rfl⟩ := hno (.inl (by
      have h1 : bt = z := by assumption
      rw [h1]; simpa using hz))
    exact hQ _ rfl
  · obtain ⟨rfl, rfl⟩ := hno (.inr (.inr (by
      have h1 := of_decide_eq_true hz
      have h2 : (BY.length : Int) = z := by assumption
      rename_i z1 h5 h3 _ _ _ _ _
      have h4 := of_decide_eq_true h3
      simp only [nc] at h5 h2
      simp only [nc'] at h5 h2
      rw [hBl] at h2
      refine ⟨by omega, ?_⟩
      rw [← h2] at h1
      exact h1)))
    exact hQ _ rfl
  · obtain ⟨rfl, rfl⟩ := (hyes hpq).2 (by rw [hX3]; rename_i h1; rw [h1]; simpa using hz)
    exact hQ _ rfl
  · obtain ⟨rfl, rfl⟩ := (hyes hpq).1 (by rw [hX3]; rename_i h1; rw [h1]; simpa using hz)
    refine hQ _ ?_
    rw [hX3, cells_mk, hes3]
  · obtain ⟨rfl, rfl⟩ := (hyes hpq).2 (by rw [hX3]; rename_i h1; rw [h1]; simpa using hz)
    exact hQ _ rfl
  · obtain ⟨rfl, rfl⟩ := (hyes hpq).1 (by rw [hX3]; rename_i h1; rw [h1]; simpa using hz)
    refine hQ _ ?_
    rw [hX3, cells_mk, hes3]
end Go.Proofs.Ytnhmnfokbinplaa

namespace Go.Proofs.Ytnhmnfokbinplaa
open Go Go.RowKit
set_option maxRecDepth 100000
set_option linter.unusedSimpArgs false
set_option linter.unusedVariables false

theorem notB_c (e : Ex) : PCall Try.prog 136 [.agg e.cells] fun r => r = [.bool (!builtM e)] := by
  obtain ⟨op, m, ⟨vk, vn, vs⟩, ar⟩ := e
  have h := ebuilt_c op m vk vn vs ar _ rfl
  rw [cells_mk]
  generalize ar.map Ex.cells = es at h
  show PCall Try.prog 136 [.agg [.int .i64 op, .int .i64 m, .int .i64 vk, .int .i64 vn, .str vs, .sl es]] _
  refine PCall.x (nt := 6) (res := [.tmp 2]) mixed tt_ok [] Try.func136 rfl rfl rfl c136 (Nat.le_of_ble_eq_true rfl) ?_
  intro cp cc lp Q' hcp hcc hlp hQ
  repeat' (first
    | (with_reducible refine Nm.mk ?_; intro z hz)
    | (with_reducible refine IfB.mk ?_ ?_ <;> (intro h; cases h))
    | (with_reducible refine Two.l ?_; refine Asm.mk ?_ ?_; focus (decide +kernel))
    | (with_reducible refine Two.r ?_)
    | (with_reducible refine Asm.mk ?_ ?_; focus (first | kernel_rfl | decide))
    | (with_reducible refine isCP hcp ?_; first | (refine bP hcp (h) ?_; intro z hz))
    | (with_reducible refine isCC hcc ?_; first | (refine bA hcc (h) rfl ?_; intro z hz))
    | (with_reducible refine Asm.mk2 ?_ ?_)
    | ((fail_if_success (with_reducible first | refine hQ _ ?_ | refine Side.mk ?_ | refine isCP hcp ?_ | refine isCC hcc ?_ | refine isLP hlp ?_ | refine Ix.mk ?_ | refine SIx.mk ?_ | refine SEx.mk ?_ | refine EIx.mk ?_ | refine RIx.mk ?_ | show False | refine hR ?_ _ ?_ ?_ ?_ ?_ ?_ | refine hR2 ?_ _ ?_ ?_ ?_ ?_ ?_)); cbv))
  all_goals (refine hQ _ ?_; clear hQ hcp hcc hlp h; simp_all)
/-- What is put in for a column. -/
theorem putN_c (by' : List Ex) (BY : List (List PV)) (hBY : by'.map Ex.cells = BY) (hw : wideL by') (op m vk vn : Int) (vs : ByteArray) (ar : List Ex) (es : List (List PV)) (hC : PutC by'.length (.mk op m ⟨vk, vn, vs⟩ ar)) (hes : ar.map Ex.cells = es) :
    PCall Try.prog 137 [.agg [.int .i64 op, .int .i64 m, .int .i64 vk, .int .i64 vn, .str vs, .sl es], .ip [.sl BY]] fun r => r = [.agg (putN by' (.mk op m ⟨vk, vn, vs⟩ ar)).cells] := by
  have hb : decide (op = 1) = true → 0 ≤ m ∧ m < by'.length := fun h => hC (of_decide_eq_true h)
  have hcopy : ∀ (op' m' vk' vn' : Int) (vs' : ByteArray) (ar' : List Ex) (es' : List (List PV)), by'[m.toNat]? = some (.mk op' m' ⟨vk', vn', vs'⟩ ar') → ar'.map Ex.cells = es' →
      PCall Try.prog 116 [.agg [.int .i64 op', .int .i64 m', .int .i64 vk', .int .i64 vn', .str vs', .sl es'], .fn 117 []] fun r => r = [.agg (mapE id (.mk op' m' ⟨vk', vn', vs'⟩ ar')).cells] := fun op' m' vk' vn' vs' ar' es' hx he => copy_c op' m' vk' vn' vs' ar' es' he (wide_mem hw (List.mem_of_getElem? hx))
  obtain ⟨q, hq⟩ : ∃ q, putN by' (.mk op m ⟨vk, vn, vs⟩ ar) = q := ⟨_, rfl⟩
  rw [hq]
  rw [putN] at hq
  clear hC
  refine PCall.x (nt := 14) (res := [.cell 3 80]) mixed tt_ok [] Try.func137 rfl rfl rfl c137 (Nat.le_of_ble_eq_true rfl) ?_
  intro cp cc lp Q' hcp hcc hlp hQ
  repeat' (first
    | (with_reducible refine Nm.mk ?_; intro z hz)
    | (with_reducible refine IfB.mk ?_ ?_ <;> (intro h; cases h))
    | (with_reducible refine Two.l ?_; refine Asm.mk ?_ ?_; focus (decide +kernel))
    | (with_reducible refine Two.r ?_)
    | (with_reducible refine Asm.mk ?_ ?_; focus kernel_rfl)
    | (with_reducible refine isCP hcp ?_; first | (refine exP hcp (hcopy _ _ _ _ _ _ _ (by assumption) (by assumption)) ?_; intro op2 n2 vk2 vn2 vs2 ar2 es2 hX hes2))
    | (with_reducible refine isCC hcc ?_; first | (refine exA hcc (hcopy _ _ _ _ _ _ _ (by assumption) (by assumption)) rfl ?_; intro op2 n2 vk2 vn2 vs2 ar2 es2 hX hes2))
    | (with_reducible refine Ix.ex hBY (hb (by assumption)).1 (hb (by assumption)).2 ?_; intro op' m' vk' vn' vs' ar' es' hx hes')
    | (with_reducible refine Asm.mk2 ?_ ?_)
    | ((fail_if_success (with_reducible first | refine hQ _ ?_ | refine Side.mk ?_ | refine isCP hcp ?_ | refine isCC hcc ?_ | refine isLP hlp ?_ | refine Ix.mk ?_ | refine SIx.mk ?_ | refine SEx.mk ?_ | refine EIx.mk ?_ | refine RIx.mk ?_ | show False | refine hR ?_ _ ?_ ?_ ?_ ?_ ?_ | refine hR2 ?_ _ ?_ ?_ ?_ ?_ ?_)); cbv))
  · refine hQ _ ?_
    rw [if_pos (of_decide_eq_true (by assumption)), hx] at hq
    rw [← hq, Option.getD_some, hX, cells_mk, hes2]
  · refine hQ _ ?_
    rw [if_neg (of_decide_eq_false hz)] at hq
    rw [← hq, cells_mk, hes]

set_option maxHeartbeats 4000000 in
theorem put_c (op m vk vn : Int) (vs : ByteArray) (ar : List Ex) (es : List (List PV)) (hes : ar.map Ex.cells = es) (hw : (Ex.mk op m ⟨vk, vn, vs⟩ ar).wide) (by' : List Ex) (BY : List (List PV)) (hBY : by'.map Ex.cells = BY) (hwb : wideL by') (hwn : wideN by'.length) (E : Ex) (err : Int) (hM : putM (.mk op m ⟨vk, vn, vs⟩ ar) by' = (E, err)) :
    PCall Try.prog 73 [.agg [.int .i64 op, .int .i64 m, .int .i64 vk, .int .i64 vn, .str vs, .sl es], .sl BY] fun r => r = [.agg E.cells, .int .i64 err] := by
  have hBl : BY.length = by'.length := by rw [← hBY]; simp
  have hcol := columns_c op m vk vn vs ar es hes hw
  have hbt := ebuilt_c op m vk vn vs ar es hes
  have hany := containsFunc_c 136 [] (fun e => !builtM e) by' BY hBY hwn fun e _ => notB_c e
  obtain ⟨e, he⟩ : ∃ e, Ex.mk op m ⟨vk, vn, vs⟩ ar = e := ⟨_, rfl⟩
  have hce : e.cells = [.int .i64 op, .int .i64 m, .int .i64 vk, .int .i64 vn, .str vs, .sl es] := by rw [← he, cells_mk, hes]
  rw [he] at hcol hbt hw hM
  have hmap : putOk e by' = true → PCall Try.prog 116 [.agg [.int .i64 op, .int .i64 m, .int .i64 vk, .int .i64 vn, .str vs, .sl es], .fn 137 [.ip [.sl BY]]] fun r => r = [.agg (mapE (putN by') e).cells] := by
    intro h
    rw [← hce]
    unfold putOk at h
    simp only [Bool.and_eq_true] at h
    exact mapped_all (putN by') 137 [.ip [.sl BY]] (PutC by'.length) (fun op m vk vn vs ar es hC hes => putN_c by' BY hBY hwb op m vk vn vs ar es hC hes) _ e (Nat.le_refl _) hw (put_cond by' e (good_of_built h.1.1) fun n hn => by have := List.all_eq_true.1 h.2 n hn; simpa using this)
  have hlast := lost_last (colsM e) by'.length
  obtain ⟨cl, hcl⟩ : ∃ l, columnsM e = l := ⟨_, rfl⟩
  rw [hcl] at hcol
  obtain ⟨C, hC⟩ : ∃ l, cl.map i64c = l := ⟨_, rfl⟩
  rw [hC] at hcol
  have hCl : C.length = cl.length := by rw [← hC]; simp
  obtain ⟨bt, hb⟩ : ∃ b, builtM e = b := ⟨_, rfl⟩
  rw [hb] at hbt
  obtain ⟨ab, hab⟩ : ∃ b, by'.any (fun e => !builtM e) = b := ⟨_, rfl⟩
  rw [hab] at hany
  obtain ⟨la, hla⟩ : ∃ x, lastZ cl = x := ⟨_, rfl⟩
  have hsmall : C.length ≤ 1000000 := by
    rw [hCl, ← hcl, columnsM]
    split
    · rename_i hbb
      have h1 := built_szK hbb
      have h2 := cols_sz e
      have h3 := compZ_len (sortZ (colsM e))
      rw [sortZ_len] at h3
      omega
    · simp
  have hix : ∀ z1 z1' z2 : Int, IntKind.i64.wrap (z1' - 1) = z2 → (C.length : Int) = z1' → decide (0 < z1) = true → (C.length : Int) = z1 → 0 ≤ z2 ∧ C[z2.toNat]? = some [.int .i64 la] := by
    intro z1 z1' z2 h3 h1' h2 h1
    have h2 := of_decide_eq_true h2
    rw [wrap_in (by omega)] at h3
    refine ⟨by omega, ?_⟩
    rw [← hC, List.getElem?_map, show z2.toNat = cl.length - 1 by omega, ← hla, lastZ, List.getElem?_eq_getElem (by omega)]
    rfl
  have hok : bt = true → ab = false → ¬ (0 < C.length ∧ (by'.length : Int) ≤ la) → putOk e by' = true := by
    intro h1 h2 h3
    have hbb : builtM e = true := hb.trans h1
    have h4 : cl = compZ (sortZ (colsM e)) := by rw [← hcl, columnsM, if_pos hbb]
    rw [← h4, hla, ← hCl] at hlast
    unfold putOk
    simp only [Bool.and_eq_true]
    refine ⟨⟨hbb, ?_⟩, ?_⟩
    · rw [List.all_eq_true]
      intro x hx
      rw [← hab, List.any_eq_false] at h2
      have := h2 x hx
      simpa using this
    · cases h5 : (colsM e).all (fun n => decide (n < (by'.length : Int))) with
      | true => rfl
      | false => exact absurd (hlast.2 h5) h3
  have hno : bt = false ∨ ab = true ∨ (0 < C.length ∧ (by'.length : Int) ≤ la) → E = zeroX ∧ err = 1 := by
    intro h
    have hk : putOk e by' = false := by
      cases hk : putOk e by' with
      | false => rfl
      | true =>
        unfold putOk at hk
        simp only [Bool.and_eq_true] at hk
        rcases h with h | h | h
        · rw [hk.1.1] at hb; rw [← hb] at h; cases h
        · rw [← hab, List.any_eq_true] at h
          obtain ⟨x, hx, hx2⟩ := h
          have := List.all_eq_true.1 hk.1.2 x hx
          rw [this] at hx2; cases hx2
        · have h4 : cl = compZ (sortZ (colsM e)) := by rw [← hcl, columnsM, if_pos hk.1.1]
          rw [← h4, hla, ← hCl] at hlast
          have := hlast.1 h
          rw [hk.2] at this; cases this
    rw [putM, hk, if_neg (by decide)] at hM
    simp only [Prod.mk.injEq] at hM
    exact ⟨hM.1.symm, hM.2.symm⟩
  have hp0 : ∀ z : Bool, bt = z → (!z) = false → ab = false → ∀ z1 : Int, (C.length : Int) = z1 → decide (0 < z1) = false → putOk e by' = true := by
    intro z h1 h2 h3 z1 h4 h5
    have h5 := of_decide_eq_false h5
    exact hok (by rw [h1]; simpa using h2) h3 (by omega)
  have hp1 : ∀ z : Bool, bt = z → (!z) = false → ab = false → ∀ z1 : Int, (BY.length : Int) = z1 → decide (z1 ≤ la) = false → putOk e by' = true := by
    intro z h1 h2 h3 z1 h4 h5
    have h5 := of_decide_eq_false h5
    exact hok (by rw [h1]; simpa using h2) h3 (by omega)
  have hyes : putOk e by' = true → (builtM (mapE (putN by') e) = true → E = mapE (putN by') e ∧ err = 0) ∧ (builtM (mapE (putN by') e) = false → E = zeroX ∧ err = 3) := by
    intro h
    rw [putM, if_pos h] at hM
    refine ⟨fun h2 => ?_, fun h2 => ?_⟩
    · rw [if_pos h2] at hM; simp only [Prod.mk.injEq] at hM; exact ⟨hM.1.symm, hM.2.symm⟩
    · rw [if_neg (by rw [h2]; decide)] at hM; simp only [Prod.mk.injEq] at hM; exact ⟨hM.1.symm, hM.2.symm⟩
  clear hlast
  refine PCall.x (nt := 42) (res := [.cell 4 80, .tmp 5]) mixed tt_ok [(116, [1])] Try.func73 rfl rfl rfl c73 (Nat.le_of_ble_eq_true rfl) ?_
  intro cp cc lp Q' hcp hcc hlp hQ
  repeat' (first
    | (with_reducible refine Nm.mk ?_; intro z hz)
    | (with_reducible refine IfB.mk ?_ ?_ <;> (intro h; cases h))
    | (with_reducible refine Two.l ?_; refine Asm.mk ?_ ?_; focus (decide +kernel))
    | (with_reducible refine Two.r ?_)
    | (with_reducible refine Asm.mk ?_ ?_; focus kernel_rfl)
    | (with_reducible refine isCP hcp ?_; first | (refine xP hcp (hcol) ?_; skip) | (refine bP hcp (hbt) ?_; intro z hz) | (refine bP hcp (hany) ?_; intro z hz) | (refine exP hcp (hmap (hp0 _ (by assumption) (by assumption) (by assumption) _ (by assumption) (by assumption))) ?_; intro op2 n2 vk2 vn2 vs2 ar2 es2 hX hes2) | (refine exP hcp (hmap (hp1 _ (by assumption) (by assumption) (by assumption) _ (by assumption) (by assumption))) ?_; intro op2 n2 vk2 vn2 vs2 ar2 es2 hX hes2) | (refine bP hcp (ebuilt_c _ _ _ _ _ _ _ hes2) ?_; intro z hz))
    | (with_reducible refine isCC hcc ?_; first | (refine xA hcc (hcol) rfl ?_; skip) | (refine bA hcc (hbt) rfl ?_; intro z hz) | (refine bA hcc (hany) rfl ?_; intro z hz) | (refine exA hcc (hmap (hp0 _ (by assumption) (by assumption) (by assumption) _ (by assumption) (by assumption))) rfl ?_; intro op2 n2 vk2 vn2 vs2 ar2 es2 hX hes2) | (refine exA hcc (hmap (hp1 _ (by assumption) (by assumption) (by assumption) _ (by assumption) (by assumption))) rfl ?_; intro op2 n2 vk2 vn2 vs2 ar2 es2 hX hes2) | (refine bA hcc (ebuilt_c _ _ _ _ _ _ _ hes2) rfl ?_; intro z hz))
    | (with_reducible refine Ix.giveK (hix _ _ _ (by assumption) (by assumption) (by assumption) (by assumption)).1 (hix _ _ _ (by assumption) (by assumption) (by assumption) (by assumption)).2 rfl (by decide) ?_)
    | (with_reducible refine Asm.mk2 ?_ ?_)
    | ((fail_if_success (with_reducible first | refine hQ _ ?_ | refine Side.mk ?_ | refine isCP hcp ?_ | refine isCC hcc ?_ | refine isLP hlp ?_ | refine Ix.mk ?_ | refine SIx.mk ?_ | refine SEx.mk ?_ | refine EIx.mk ?_ | refine RIx.mk ?_ | show False | refine hR ?_ _ ?_ ?_ ?_ ?_ ?_ | refine hR2 ?_ _ ?_ ?_ ?_ ?_ ?_)); cbv))
  · obtain ⟨rfl, rfl⟩ := hno (.inl (by
      have h1 : bt = z := by assumption
      rw [h1]; simpa using hz))
    exact hQ _ rfl
  · obtain ⟨rfl, rfl⟩ := hno (.inr (.inl hz))
    exact hQ _ rfl
  · obtain ⟨rfl, rfl⟩ := hno (.inr (.inr (by
      have h1 := of_decide_eq_true hz
      have h2 : (BY.length : Int) = z := by assumption
      rename_i z1 h5 h3 _ _ _ _ _
      have h4 := of_decide_eq_true h3
      simp only [nc] at h5 h2
      simp only [nc'] at h5 h2
      rw [hBl] at h2
      refine ⟨by omega, ?_⟩
      rw [← h2] at h1
      exact h1)))
    exact hQ _ rfl
  · have hp := hp1 _ (by assumption) (by assumption) (by assumption) _ (by assumption) (by assumption)
    obtain ⟨rfl, rfl⟩ := (hyes hp).2 (by rw [hX]; rename_i h1; rw [h1]; simpa using hz)
    exact hQ _ rfl
  · have hp := hp1 _ (by assumption) (by assumption) (by assumption) _ (by assumption) (by assumption)
    obtain ⟨rfl, rfl⟩ := (hyes hp).1 (by rw [hX]; rename_i h1; rw [h1]; simpa using hz)
    refine hQ _ ?_
    rw [hX, cells_mk, hes2]
  · have hp := hp0 _ (by assumption) (by assumption) (by assumption) _ (by assumption) (by assumption)
    obtain ⟨rfl, rfl⟩ := (hyes hp).2 (by rw [hX]; rename_i h1; rw [h1]; simpa using hz)
    exact hQ _ rfl
  · have hp := hp0 _ (by assumption) (by assumption) (by assumption) _ (by assumption) (by assumption)
    obtain ⟨rfl, rfl⟩ := (hyes hp).1 (by rw [hX]; rename_i h1; rw [h1]; simpa using hz)
    refine hQ _ ?_
    rw [hX, cells_mk, hes2]
end Go.Proofs.Ytnhmnfokbinplaa
