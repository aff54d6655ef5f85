/- expr: Over, its walk; tallyref: values: all that CellSays asks; tallyref: Reckon; the law CellSays; Expressions: tallyref's eval; tallyref: Across; tallyref: Over, its walk; The law ExprOver. Own work; no condition. -/
import Derived.Test.YtnhmnfokbinplaaMo45
import Derived.Test.YtnhmnfokbinplaaMo44
import Derived.Test.YtnhmnfokbinplaaAbsQ
import Derived.Test.YtnhmnfokbinplaaAbsF
namespace Go.Proofs.Ytnhmnfokbinplaa
open Go Go.RowKit
set_option maxRecDepth 100000
set_option linter.unusedSimpArgs false
set_option linter.unusedVariables false

theorem kind_ok {K : List Int} {e : Ex} (h : (kindM K e).2 = 0) : builtM e = true ∧ e.fine K.length := by
  unfold kindM at h
  split at h
  · exact absurd h (by decide)
  rename_i hb
  have hb : builtM e = true := by simpa using hb
  split at h
  · exact absurd h (by decide)
  split at h
  · exact absurd h (by decide)
  rename_i hl
  exact ⟨hb, kind_fine hb (by simpa using hl)⟩
theorem over_run {e : Ex} {cols : List Vec} {n : Int} (hov : ∀ v, v ∈ cols → okVec v) (ho : e.okc) (hk : (kindM (kindsC cols) e).2 = 0) (hok : okCols cols n = true) (CL : List (List PV)) (hCL : cols.map valsC = CL) (i : Int) (hi0 : 0 ≤ i) (hiN : i < n) :
    PCall Try.prog (wk e).1 (.fn 133 [.ip [.sl CL], .ip [.int .i64 i]] :: (wk e).2) fun r => r = [(evalE (colF cols i.toNat) e).enc] := by
  obtain ⟨hb, hf⟩ := kind_ok hk
  rw [kindsC, List.length_map] at hf
  exact (work_fine (kc := 133) (cc0 := [.ip [.sl CL], .ip [.int .i64 i]]) (col := colF cols i.toNat) cols.length (fun q h0 hq => ⟨okV_colF hov _ _, colF_c cols CL hCL n hok i hi0 hiN q h0 hq⟩) _ e (Nat.le_refl _) (good_of_built hb) ho hf).2
theorem takeC {α : Type} {l : List α} {i : Nat} {x : α} (h : l[i]? = some x) : l.take (i + 1) = l.take i ++ [x] := by
  rw [List.take_add_one, h]; rfl
theorem okCols_take {cols : List Vec} {n : Int} {i : Nat} {c : Vec} (h : okCols (cols.take i) n = true) (hx : cols[i]? = some c) (hg : goodV c = true) (hl : (c.null.length : Int) = n) : okCols (cols.take (i + 1)) n = true := by
  rw [okCols, takeC hx, List.all_append]
  rw [okCols] at h
  rw [h]; simp [hg, hl]

set_option maxHeartbeats 4000000 in
theorem eover_c (cols : List Vec) (L : List (List PV)) (hL : cols.map Vec.cells = L) (hcl : cols.length ≤ 2000000000000) (hov : ∀ v, v ∈ cols → okVec v) (n : Int) (op m vk vn : Int) (vs : ByteArray) (ar : List Ex) (es : List (List PV)) (hes : ar.map Ex.cells = es) (hw : (Ex.mk op m ⟨vk, vn, vs⟩ ar).wide) (ho : (Ex.mk op m ⟨vk, vn, vs⟩ ar).okc) (A : Vec) (E : Int) (hM : overM (.mk op m ⟨vk, vn, vs⟩ ar) cols n = (A, E)) :
    PCall Try.prog 68 [.agg [.int .i64 op, .int .i64 m, .int .i64 vk, .int .i64 vn, .str vs, .sl es], .sl L, .int .i64 n] fun r => r = [A.enc, .int .i64 E] := by
  have b1 : L.length = cols.length := by rw [← hL]; simp
  have hkd0 : ∀ C, (kindsC cols).map i64c = C → _ := fun C hC => ekind_c (kindsC cols) C hC op m vk vn vs ar es hes hw
  have hcm := compile_all _ _ (Nat.le_refl _) hw
  rw [cells_mk, hes] at hcm
  obtain ⟨e, he⟩ : ∃ e, Ex.mk op m ⟨vk, vn, vs⟩ ar = e := ⟨_, rfl⟩
  rw [he] at hcm ho hM hkd0
  obtain ⟨⟨kk, ff⟩, hkm⟩ : ∃ p, kindM (kindsC cols) e = p := ⟨_, rfl⟩
  rw [hkm] at hkd0
  have hkd : ∀ C, (kindsC cols).map i64c = C → PCall Try.prog 110 [.agg [.int .i64 op, .int .i64 m, .int .i64 vk, .int .i64 vn, .str vs, .sl es], .sl C] fun r => r = [.int .i64 kk, .int .i64 ff] := hkd0
  clear hkd0
  have hrun : ff = 0 → okCols cols n = true → ∀ CL, cols.map valsC = CL → ∀ k c, wk e = (k, c) → ∀ i : Int, 0 ≤ i → i < n → PCall Try.prog k (.fn 133 [.ip [.sl CL], .ip [.int .i64 i]] :: c) fun r => r = [(evalE (colF cols i.toNat) e).enc] := by
    intro h0 hok CL hCL k c hk i hi0 hiN
    have := over_run hov ho (by rw [hkm]; exact h0) hok CL hCL i hi0 hiN
    rw [hk] at this
    exact this
  rw [overM, hkm] at hM
  have ex1 : n < 0 ∨ 4096 < n → A = Vec.zero ∧ E = 1 := by
    intro h; rw [if_pos h] at hM; simp only [Prod.mk.injEq] at hM; exact ⟨hM.1.symm, hM.2.symm⟩
  have ex2 : 0 ≤ n ∧ n ≤ 4096 → okCols cols n = false → A = Vec.zero ∧ E = 1 := by
    intro h h2; rw [if_neg (by omega), if_pos h2] at hM; simp only [Prod.mk.injEq] at hM; exact ⟨hM.1.symm, hM.2.symm⟩
  have ex3 : 0 ≤ n ∧ n ≤ 4096 → okCols cols n = true → ¬ ff = 0 → A = Vec.zero ∧ E = ff := by
    intro h h2 h3; rw [if_neg (by omega), if_neg (by rw [h2]; decide), if_pos h3] at hM; simp only [Prod.mk.injEq] at hM; exact ⟨hM.1.symm, hM.2.symm⟩
  have ex4 : 0 ≤ n ∧ n ≤ 4096 → okCols cols n = true → ff = 0 → A = (vfrom (mx kk 1) (overVals e cols n.toNat)).1 ∧ E = 0 := by
    intro h h2 h3; rw [if_neg (by omega), if_neg (by rw [h2]; decide), if_neg (by omega)] at hM; simp only [Prod.mk.injEq] at hM; exact ⟨hM.1.symm, hM.2.symm⟩
  clear hM
  refine PCall.x (nt := 88) (res := [.cell 6 34, .tmp 7]) mixed tt_ok [(999996, [67])] Try.func68 rfl rfl rfl c68 (Nat.le_of_ble_eq_true rfl) ?_
  intro cp cc lp Q' hcp hcc hlp hQ
  repeat' (first
    | (with_reducible refine Nm.mk ?_; intro z hz)
    | (with_reducible refine IfB.mk ?_ ?_ <;> (intro h; cases h))
    | (with_reducible refine Two.l ?_; refine Asm.mk ?_ ?_; focus (decide +kernel))
    | (with_reducible refine Two.r ?_)
    | (with_reducible refine Asm.mk ?_ ?_; focus (first | kernel_rfl | decide))
    | (with_reducible refine Asm.mk2 ?_ ?_)
    | ((fail_if_success (with_reducible first | refine hQ _ ?_ | refine Side.mk ?_ | refine isCP hcp ?_ | refine isCC hcc ?_ | refine isLP hlp ?_ | refine Ix.mk ?_ | refine SIx.mk ?_ | refine SEx.mk ?_ | refine EIx.mk ?_ | refine RIx.mk ?_ | show False | refine hR ?_ _ ?_ ?_ ?_ ?_ ?_ | refine hR2 ?_ _ ?_ ?_ ?_ ?_ ?_)); cbv))
  · obtain ⟨rfl, rfl⟩ := ex1 (.inl (of_decide_eq_true (by assumption)))
    exact hQ _ rfl
  · obtain ⟨rfl, rfl⟩ := ex1 (.inr (of_decide_eq_true (by assumption)))
    exact hQ _ rfl
  have hnb : 0 ≤ n ∧ n ≤ 4096 := by
    have h1 : decide (n < 0) = false := by assumption
    have h2 : decide (4096 < n) = false := by assumption
    simp only [decide_eq_false_iff_not] at h1 h2
    omega
  replace ex2 := ex2 hnb
  replace ex3 := ex3 hnb
  replace ex4 := ex4 hnb
  clear ex1
  simp only [nc] at hz
  simp only [nc'] at hz
  have hzl := lenZ (n := cols.length) b1 hz
  clear hz
  generalize z = zl at *
  refine mintX hlp 1 2 0 rfl rfl ?_
  refine mintT hlp 1 8 rfl ?_
  refine loopTz [(999996, [67])] (ι := Int × List (List PV) × Nat × List (List PV) × Nat) mixed tt_ok hcp hcc hlp [1, 2, 3, 6, 9, 26, 27] (fun p => [(8, .tok 4 p.2.1), (28, .p (.int .i64 p.1))])
    (fun p => [.cells [.p (.int .i64 op), .p (.int .i64 m), .p (.int .i64 vk), .p (.int .i64 vn), .p (.str vs), .p (.sl es)], .cells [.p (.int .i64 0), .full [], .full [], .full []], .cells [.tok 3 p.2.2.2.1], .spare p.2.2.2.2 1, .spare p.2.2.1 1])
    (fun p => Rng cols.length zl p.1 ∧ (kindsC (cols.take p.1.toNat)).map i64c = p.2.1 ∧ p.2.1.length = p.2.2.1 ∧ (cols.take p.1.toNat).map valsC = p.2.2.2.1 ∧ p.2.2.2.1.length = p.2.2.2.2 ∧ okCols (cols.take p.1.toNat) n = true) (fun p => (zl - p.1).toNat)
    (0, [], 0, [], 0) 5 (fun _ => rfl) ⟨Rng.start hzl (by omega), rfl, rfl, rfl, rfl, rfl⟩ ⟨rfl, rfl, trivial⟩ rfl ?_
  rintro R ⟨i, KL, k1, CL, c1⟩ ⟨rg, hKL, hk1, hCL, hc1, hok⟩ hR
  replace rg : Rng cols.length zl i := rg
  replace hKL : (kindsC (cols.take i.toNat)).map i64c = KL := hKL
  replace hk1 : KL.length = k1 := hk1
  replace hCL : (cols.take i.toNat).map valsC = CL := hCL
  replace hc1 : CL.length = c1 := hc1
  replace hok : okCols (cols.take i.toNat) n = true := hok
  have ok1 : okEs 1 KL = true := by rw [← hKL]; exact okEs_i64 _
  have ok2 : okEs 1 CL = true := by rw [← hCL]; exact okEs_valsC _
  have hlen : KL.length ≤ 2000000000000 ∧ CL.length ≤ 2000000000000 := by
    rw [← hKL, ← hCL]; simp only [kindsC, List.length_map, List.length_take]; omega
  have sd1 : KL.length + 1 ≤ maxLen ∧ (KL.length + 1) * 8 ≤ 140737488355328 := by rw [maxLen_eq]; omega
  have sd2 : CL.length + 1 ≤ maxLen ∧ (CL.length + 1) * 24 ≤ 140737488355328 := by rw [maxLen_eq]; omega
  have sd3 : n.toNat * 32 ≤ 140737488355328 ∧ n.toNat ≤ maxLen := by rw [maxLen_eq]; omega
  have hgd : ∀ a B N S n1 n2 n3, B.map boolc = n1 → N.map i64c = n2 → S.map strc = n3 → PCall Try.prog 37 [.agg [.int .i64 a, .sl n1, .sl n2, .sl n3]] fun r => r = [.bool (goodV ⟨a, B, N, S⟩)] := fun a B N S n1 n2 n3 h1 h2 h3 => good_c a B N S n1 n2 n3 h1 h2 h3
  have hvl : ∀ a B N S n1 n2 n3 (z : Int), B.map boolc = n1 → N.map i64c = n2 → S.map strc = n3 → (n1.length : Int) = z → (!decide (z = n)) = false → PCall Try.prog 40 [.agg [.int .i64 a, .sl n1, .sl n2, .sl n3]] fun r => r = [.sl ((valuesM ⟨a, B, N, S⟩).map Val.cells)] := fun a B N S n1 n2 n3 z h1 h2 h3 h4 h5 => vvalues_c a B N S n1 n2 n3 h1 h2 h3 (by
    have h6 : n1.length = B.length := by rw [← h1]; simp
    have h7 : z = n := by simpa using h5
    omega)
  have hend : decide (i < zl) = false → cols.take i.toNat = cols := fun h => by rw [List.take_of_length_le (by have := rg.stop h; omega)]
  have hke : decide (i < zl) = false → PCall Try.prog 110 [.agg [.int .i64 op, .int .i64 m, .int .i64 vk, .int .i64 vn, .str vs, .sl es], .sl KL] fun r => r = [.int .i64 kk, .int .i64 ff] := fun h => hkd KL (by rw [← hKL, hend h])
  repeat' (first
    | (with_reducible refine Nm.mk ?_; intro z hz)
    | (with_reducible refine IfB.mk ?_ ?_ <;> (intro h; cases h))
    | (with_reducible refine Two.l ?_; refine Asm.mk ?_ ?_; focus (decide +kernel))
    | (with_reducible refine Two.r ?_)
    | (with_reducible refine Asm.mk ?_ ?_; focus (first | exact ⟨hk1.symm, rfl, ok1, rfl, sd1.1, sd1.2⟩ | exact ⟨hc1.symm, rfl, ok2, rfl, sd2.1, sd2.2⟩ | exact ⟨hnb.1, Int.le_refl _, sd3.1, sd3.2⟩ | kernel_rfl))
    | (with_reducible refine isCP hcp ?_; first | (refine bP hcp (hgd _ _ _ _ _ _ _ (by assumption) (by assumption) (by assumption)) ?_; intro z hz) | (refine lP hcp (hvl _ _ _ _ _ _ _ _ (by assumption) (by assumption) (by assumption) (by assumption) (by assumption)) ?_; intro z hz) | (refine xP hcp (hke (by assumption)) ?_; skip) | (refine fnP hcp (hcm) ?_; intro k2 c2 hX))
    | (with_reducible refine isCC hcc ?_; first | (refine bA hcc (hgd _ _ _ _ _ _ _ (by assumption) (by assumption) (by assumption)) rfl ?_; intro z hz) | (refine lA hcc (hvl _ _ _ _ _ _ _ _ (by assumption) (by assumption) (by assumption) (by assumption) (by assumption)) rfl ?_; intro z hz) | (refine xA hcc (hke (by assumption)) rfl ?_; skip) | (refine fnA hcc (hcm) rfl ?_; intro k2 c2 hX))
    | (with_reducible refine IxV hL rg.lo (rg.lt (by assumption)) ?_; intro a B N S n1 n2 n3 hx h1 h2 h3)
    | (with_reducible refine Asm.mk2 ?_ ?_)
    | ((fail_if_success (with_reducible first | refine hQ _ ?_ | refine Side.mk ?_ | refine isCP hcp ?_ | refine isCC hcc ?_ | refine isLP hlp ?_ | refine Ix.mk ?_ | refine SIx.mk ?_ | refine SEx.mk ?_ | refine EIx.mk ?_ | refine RIx.mk ?_ | show False | refine hR ?_ _ ?_ ?_ ?_ ?_ ?_ | refine hR2 ?_ _ ?_ ?_ ?_ ?_ ?_)); cbv))
  · have hg : goodV ⟨a, B, N, S⟩ = false := by
      have h2 : goodV ⟨a, B, N, S⟩ = z := by assumption
      rw [h2]; simpa using hz
    obtain ⟨rfl, rfl⟩ := ex2 (okCols_at hx (.inl hg))
    exact hQ _ rfl
  · have hln : ¬ ((B.length : Int) = n) := by
      have h6 : n1.length = B.length := by rw [← h1]; simp
      have h7 : (n1.length : Int) = z := by assumption
      simp only [nc] at h7
      simp only [nc'] at h7
      have h8 : ¬ z = n := by simpa using hz
      omega
    obtain ⟨rfl, rfl⟩ := ex2 (okCols_at hx (.inr hln))
    exact hQ _ rfl
  · exact Side.mk ⟨hk1.symm, rfl, ok1, rfl, sd1.1, sd1.2⟩
  · exact Side.mk ⟨hc1.symm, rfl, ok2, rfl, sd2.1, sd2.2⟩
  · rename_i hlt zg hzg hgn zl2 hzl2 hln KL2 hKL2 k12 hk12 vl hvl2 CL2 hCL2 c12 hc12
    have hg : goodV ⟨a, B, N, S⟩ = true := by
      rw [hzg]; simpa using hgn
    have hlen2 : (B.length : Int) = n := by
      have h6 : n1.length = B.length := by rw [← h1]; simp
      have h8 : zl2 = n := by simpa using hln
      simp only [nc] at hzl2
      simp only [nc'] at hzl2
      omega
    have e1 : (i + 1).toNat = i.toNat + 1 := by have := rg.lo; omega
    rw [rg.wrap hlt] at hz
    refine hR (i + 1, KL2, k12, CL2, c12) _ ⟨rg.next hlt, ?_, ?_, ?_, ?_, ?_⟩ (rg.less hlt) ⟨rfl, hz ▸ rfl, trivial⟩ ⟨rfl, rfl, rfl, rfl, rfl, rfl, rfl, trivial⟩ rfl
    · show (kindsC (cols.take (i + 1).toNat)).map i64c = KL2
      rw [e1, takeC hx, kindsC, List.map_append, List.map_append, ← hKL2, ← hKL]; rfl
    · show KL2.length = k12
      rw [← hKL2, ← hk12, List.length_append]
    · show (cols.take (i + 1).toNat).map valsC = CL2
      rw [e1, takeC hx, List.map_append, hCL, ← hCL2, ← hvl2]; rfl
    · show CL2.length = c12
      rw [← hCL2, ← hc12, List.length_append]
    · show okCols (cols.take (i + 1).toNat) n = true
      rw [e1]; exact okCols_take hok hx hg hlen2
  · have hge : decide (i < zl) = false := by assumption
    obtain ⟨rfl, rfl⟩ := ex3 (by rw [← hend hge]; exact hok) (by simpa using hz)
    exact hQ _ rfl
  rename_i hge hff mN hmN L0 hL0
  have hok2 : okCols cols n = true := by rw [← hend hge]; exact hok
  have hCL2 : cols.map valsC = CL := by rw [← hCL, hend hge]
  have hff0 : ff = 0 := by simpa using hff
  have hw2 := hrun hff0 hok2 CL hCL2 k2 c2 hX
  obtain ⟨hA, hE⟩ := ex4 hok2 hff0
  simp only [nc] at hz
  simp only [nc'] at hz
  obtain rfl : n = z := by omega
  obtain ⟨OV, hOV⟩ : ∃ l, overVals e cols n.toNat = l := ⟨_, rfl⟩
  rw [hOV] at hA
  obtain ⟨OC, hOC⟩ : ∃ l, OV.map Val.cells = l := ⟨_, rfl⟩
  have hOl : OV.length * 32 ≤ 140737488351232 := by rw [← hOV, overVals_len]; omega
  have hzm : n.toNat = mN ∧ 0 ≤ n := by omega
  have hL02 : rowO e cols mN 0 = L0 := by rw [rowO_0, ← hL0]; rfl
  clear hke hkd hgd hvl rg hR hrun ex2 ex3 ex4 hKL ok1 ok2 sd1 sd2 hlen hcm hok hCL hend hge hff hL0
  refine loopTz [(999996, [67])] (ι := Int × List (List PV)) mixed tt_ok hcp hcc hlp [6, 9, 12, 14, 15, 69] (fun p => [(70, .p (.int .i64 p.1))])
    (fun p => [.cells [.p (.int .i64 op), .p (.int .i64 m), .p (.int .i64 vk), .p (.int .i64 vn), .p (.str vs), .p (.sl es)], .cells [.p (.int .i64 0), .full [], .full [], .full []], .cells [.tok 3 CL], .spare c1 1, .spare k1 1, .vec 0 p.2 3])
    (fun p => Rng mN n p.1 ∧ rowO e cols mN p.1.toNat = p.2) (fun p => (n - p.1).toNat)
    (0, L0) 6 (fun _ => rfl) ⟨Rng.start hzm (by omega), hL02⟩ ⟨rfl, trivial⟩ rfl ?_
  rintro R ⟨i, L2⟩ ⟨rg, hL2⟩ hR
  replace rg : Rng mN n i := rg
  replace hL2 : rowO e cols mN i.toNat = L2 := hL2
  have him : i.toNat ≤ mN := by have := rg.lo; have := rg.hi; have := rg.len; omega
  have hl2 : L2.length = mN := by rw [← hL2]; exact rowO_len e cols him
  have hw3 : decide (i < n) = true → PCall Try.prog k2 (.fn 133 [.ip [.sl CL], .ip [.int .i64 i]] :: c2) fun r => r = [(evalE (colF cols i.toNat) e).enc] := fun h => hw2 i rg.lo (of_decide_eq_true h)
  have hix : decide (i < n) = true → 0 ≤ i ∧ i < (mN : Int) := fun h => ⟨rg.lo, by have := of_decide_eq_true h; omega⟩
  have hil : decide (i < n) = true → i.toNat < L2.length := fun h => by have := hix h; omega
  have hfr : decide (i < n) = false → (L2.drop 0).take mN = OC := by
    intro h
    have h2 := of_decide_eq_false h
    have h3 : i.toNat = mN := by omega
    rw [List.drop_zero, List.take_of_length_le (by omega), ← hL2, h3, rowO_end, ← hOC, ← hOV]
    congr 2; omega
  repeat' (first
    | (with_reducible refine Nm.mk ?_; intro z hz)
    | (with_reducible refine IfB.mk ?_ ?_ <;> (intro h; cases h))
    | (with_reducible refine Two.l ?_; refine Asm.mk ?_ ?_; focus (decide +kernel))
    | (with_reducible refine Two.r ?_)
    | (with_reducible refine Asm.mk ?_ ?_; focus (first | exact hix (by assumption) | kernel_rfl))
    | (with_reducible refine isCP hcp ?_; first | (refine vP hcp (hw3 (by assumption)) ?_; intro v hv))
    | (with_reducible refine isCC hcc ?_; first | (refine vA hcc (hw3 (by assumption)) rfl ?_; intro v hv))
    | (with_reducible refine SEx.at_ i.toNat (by first | assumption | omega) (hil (by assumption)) rfl ?_; intro L3 hL3)
    | (with_reducible refine Asm.mk2 ?_ ?_)
    | ((fail_if_success (with_reducible first | refine hQ _ ?_ | refine Side.mk ?_ | refine isCP hcp ?_ | refine isCC hcc ?_ | refine isLP hlp ?_ | refine Ix.mk ?_ | refine SIx.mk ?_ | refine SEx.mk ?_ | refine EIx.mk ?_ | refine RIx.mk ?_ | show False | refine hR ?_ _ ?_ ?_ ?_ ?_ ?_ | refine hR2 ?_ _ ?_ ?_ ?_ ?_ ?_)); cbv))
  · have hlt : decide (i < n) = true := by assumption
    have hv2 : evalE (colF cols i.toNat) e = v := by assumption
    rw [rg.wrap hlt] at hz
    refine hR (i + 1, L3) _ ⟨rg.next hlt, ?_⟩ (rg.less hlt) ⟨hz ▸ rfl, trivial⟩ ⟨rfl, rfl, rfl, rfl, rfl, rfl, trivial⟩ rfl
    show rowO e cols mN (i + 1).toNat = L3
    rw [← hL3, rg.toNat, ← rowO_set e cols (rg.ltN hlt), hL2, hv2]; rfl
  · refine frzCC2 hcc 5 0 3 0 mN rfl (by decide) (by omega) (hfr (by assumption)) ?_
    refine veA hcc (vfrom_c _ OV OC hOC hOl) rfl ?_
    intro a n1 n2 n3 ve ha h1 h2 h3 hve
    repeat' (first
      | (with_reducible refine Nm.mk ?_; intro z hz)
      | (with_reducible refine IfB.mk ?_ ?_ <;> (intro h; cases h))
      | (with_reducible refine Two.l ?_; refine Asm.mk ?_ ?_; focus (decide +kernel))
      | (with_reducible refine Two.r ?_)
      | (with_reducible refine Asm.mk ?_ ?_; focus (first | kernel_rfl | decide))
      | (with_reducible refine Asm.mk2 ?_ ?_)
      | ((fail_if_success (with_reducible first | refine hQ _ ?_ | refine Side.mk ?_ | refine isCP hcp ?_ | refine isCC hcc ?_ | refine isLP hlp ?_ | refine Ix.mk ?_ | refine SIx.mk ?_ | refine SEx.mk ?_ | refine EIx.mk ?_ | refine RIx.mk ?_ | show False | refine hR ?_ _ ?_ ?_ ?_ ?_ ?_ | refine hR2 ?_ _ ?_ ?_ ?_ ?_ ?_)); cbv))
    refine hQ _ ?_
    rw [hA, hE, show mx kk 1 = z from by rw [mx]; assumption]
    rw [Vec.enc, ha, h1, h2, h3]
end Go.Proofs.Ytnhmnfokbinplaa

namespace Go.Proofs.Ytnhmnfokbinplaa
open Go Go.RowKit
set_option maxRecDepth 100000
set_option linter.unusedSimpArgs false
set_option linter.unusedVariables false

def strV (s : ByteArray) : Val := ⟨2, 0, s⟩
theorem str_l (s : ByteArray) : PCall Try.prog 95 [.str s] fun r => r = [(strV s).enc] := by
  refine PCall.x (nt := 5) (res := [.cell 2 25]) mixed tt_ok [] Try.func95 rfl rfl rfl c95 (Nat.le_of_ble_eq_true rfl) ?_
  intro cp cc lp Q' hcp hcc hlp hQ
  repeat' (first
    | (with_reducible refine Nm.mk ?_; intro z hz)
    | (with_reducible refine IfB.mk ?_ ?_ <;> (intro h; cases h))
    | (with_reducible refine Two.l ?_; refine Asm.mk ?_ ?_; focus (decide +kernel))
    | (with_reducible refine Two.r ?_)
    | (with_reducible refine Asm.mk ?_ ?_; focus (first | kernel_rfl | decide))
    | (with_reducible refine Asm.mk2 ?_ ?_)
    | ((fail_if_success (with_reducible first | refine hQ _ ?_ | refine Side.mk ?_ | refine isCP hcp ?_ | refine isCC hcc ?_ | refine isLP hlp ?_ | refine Ix.mk ?_ | refine SIx.mk ?_ | refine SEx.mk ?_ | refine EIx.mk ?_ | refine RIx.mk ?_ | show False | refine hR ?_ _ ?_ ?_ ?_ ?_ ?_ | refine hR2 ?_ _ ?_ ?_ ?_ ?_ ?_)); cbv))
  all_goals (refine hQ _ ?_; clear hQ hcp hcc hlp; subst_vars; simp_all [strV, Val.enc])
theorem clean_l (k n : Int) (s : ByteArray) : PCall Try.prog 49 [.agg [.int .i64 k, .int .i64 n, .str s]] fun r => r = [(clean ⟨k, n, s⟩).enc] := by
  refine PCall.x (nt := 16) (res := [.cell 2 25]) mixed tt_ok [] Try.func49 rfl rfl rfl c49 (Nat.le_of_ble_eq_true rfl) ?_
  intro cp cc lp Q' hcp hcc hlp hQ
  repeat' (first
    | (with_reducible refine Nm.mk ?_; intro z hz)
    | (with_reducible refine IfB.mk ?_ ?_ <;> (intro h; cases h))
    | (with_reducible refine Two.l ?_; refine Asm.mk ?_ ?_; focus (decide +kernel))
    | (with_reducible refine Two.r ?_)
    | (with_reducible refine Asm.mk ?_ ?_; focus (first | kernel_rfl | decide))
    | (with_reducible refine isCP hcp ?_; first | (refine vP hcp (num_l _) ?_; intro v hv) | (refine vP hcp (str_l _) ?_; intro v hv) | (refine vP hcp (none_l) ?_; intro v hv))
    | (with_reducible refine isCC hcc ?_; first | (refine vA hcc (num_l _) rfl ?_; intro v hv) | (refine vA hcc (str_l _) rfl ?_; intro v hv) | (refine vA hcc (none_l) rfl ?_; intro v hv))
    | (with_reducible refine Asm.mk2 ?_ ?_)
    | ((fail_if_success (with_reducible first | refine hQ _ ?_ | refine Side.mk ?_ | refine isCP hcp ?_ | refine isCC hcc ?_ | refine isLP hlp ?_ | refine Ix.mk ?_ | refine SIx.mk ?_ | refine SEx.mk ?_ | refine EIx.mk ?_ | refine RIx.mk ?_ | show False | refine hR ?_ _ ?_ ?_ ?_ ?_ ?_ | refine hR2 ?_ _ ?_ ?_ ?_ ?_ ?_)); cbv))
  all_goals (refine hQ _ ?_; clear hQ hcp hcc hlp; subst_vars; simp_all [clean, num, strV, Val.enc, Val.zero])
theorem truth_l (b : Bool) : PCall Try.prog 102 [.bool b] fun r => r = [(flag b).enc] := by
  have h1 := num_l 1
  have h0 := num_l 0
  refine PCall.x (nt := 6) (res := [.cell 2 25]) mixed tt_ok [] Try.func102 rfl rfl rfl c102 (Nat.le_of_ble_eq_true rfl) ?_
  intro cp cc lp Q' hcp hcc hlp hQ
  repeat' (first
    | (with_reducible refine Nm.mk ?_; intro z hz)
    | (with_reducible refine IfB.mk ?_ ?_ <;> (intro h; cases h))
    | (with_reducible refine Two.l ?_; refine Asm.mk ?_ ?_; focus (decide +kernel))
    | (with_reducible refine Two.r ?_)
    | (with_reducible refine Asm.mk ?_ ?_; focus (first | kernel_rfl | decide))
    | (with_reducible refine isCP hcp ?_; first | (refine vP hcp (h1) ?_; intro v hv) | (refine vP hcp (h0) ?_; intro v hv))
    | (with_reducible refine isCC hcc ?_; first | (refine vA hcc (h1) rfl ?_; intro v hv) | (refine vA hcc (h0) rfl ?_; intro v hv))
    | (with_reducible refine Asm.mk2 ?_ ?_)
    | ((fail_if_success (with_reducible first | refine hQ _ ?_ | refine Side.mk ?_ | refine isCP hcp ?_ | refine isCC hcc ?_ | refine isLP hlp ?_ | refine Ix.mk ?_ | refine SIx.mk ?_ | refine SEx.mk ?_ | refine EIx.mk ?_ | refine RIx.mk ?_ | show False | refine hR ?_ _ ?_ ?_ ?_ ?_ ?_ | refine hR2 ?_ _ ?_ ?_ ?_ ?_ ?_)); cbv))
  all_goals (refine hQ _ ?_; clear hQ hcp hcc hlp h1 h0; subst_vars; rfl)
theorem rtrue_l (k n : Int) (s : ByteArray) : PCall Try.prog 58 [.agg [.int .i64 k, .int .i64 n, .str s]] fun r => r = [.bool (trueV ⟨k, n, s⟩)] := by
  refine PCall.x (nt := 11) (res := [.tmp 2]) mixed tt_ok [] Try.func58 rfl rfl rfl c58 (Nat.le_of_ble_eq_true rfl) ?_
  intro cp cc lp Q' hcp hcc hlp hQ
  repeat' (first
    | (with_reducible refine Nm.mk ?_; intro z hz)
    | (with_reducible refine IfB.mk ?_ ?_ <;> (intro h; cases h))
    | (with_reducible refine Two.l ?_; refine Asm.mk ?_ ?_; focus (decide +kernel))
    | (with_reducible refine Two.r ?_)
    | (with_reducible refine Asm.mk ?_ ?_; focus (first | kernel_rfl | decide))
    | (with_reducible refine Asm.mk2 ?_ ?_)
    | ((fail_if_success (with_reducible first | refine hQ _ ?_ | refine Side.mk ?_ | refine isCP hcp ?_ | refine isCC hcc ?_ | refine isLP hlp ?_ | refine Ix.mk ?_ | refine SIx.mk ?_ | refine SEx.mk ?_ | refine EIx.mk ?_ | refine RIx.mk ?_ | show False | refine hR ?_ _ ?_ ?_ ?_ ?_ ?_ | refine hR2 ?_ _ ?_ ?_ ?_ ?_ ?_)); cbv))
  all_goals (refine hQ _ ?_; clear hQ hcp hcc hlp; subst_vars; simp_all [trueV])
theorem rnot_l (k n : Int) (s : ByteArray) : PCall Try.prog 59 [.agg [.int .i64 k, .int .i64 n, .str s]] fun r => r = [(vnot ⟨k, n, s⟩).enc] := by
  refine PCall.x (nt := 11) (res := [.cell 2 25]) mixed tt_ok [] Try.func59 rfl rfl rfl c59 (Nat.le_of_ble_eq_true rfl) ?_
  intro cp cc lp Q' hcp hcc hlp hQ
  repeat' (first
    | (with_reducible refine Nm.mk ?_; intro z hz)
    | (with_reducible refine IfB.mk ?_ ?_ <;> (intro h; cases h))
    | (with_reducible refine Two.l ?_; refine Asm.mk ?_ ?_; focus (decide +kernel))
    | (with_reducible refine Two.r ?_)
    | (with_reducible refine Asm.mk ?_ ?_; focus (first | kernel_rfl | decide))
    | (with_reducible refine isCP hcp ?_; first | (refine vP hcp (none_l) ?_; intro v hv) | (refine vP hcp (truth_l _) ?_; intro v hv))
    | (with_reducible refine isCC hcc ?_; first | (refine vA hcc (none_l) rfl ?_; intro v hv) | (refine vA hcc (truth_l _) rfl ?_; intro v hv))
    | (with_reducible refine Asm.mk2 ?_ ?_)
    | ((fail_if_success (with_reducible first | refine hQ _ ?_ | refine Side.mk ?_ | refine isCP hcp ?_ | refine isCC hcc ?_ | refine isLP hlp ?_ | refine Ix.mk ?_ | refine SIx.mk ?_ | refine SEx.mk ?_ | refine EIx.mk ?_ | refine RIx.mk ?_ | show False | refine hR ?_ _ ?_ ?_ ?_ ?_ ?_ | refine hR2 ?_ _ ?_ ?_ ?_ ?_ ?_)); cbv))
  all_goals (refine hQ _ ?_; clear hQ hcp hcc hlp; subst_vars; simp_all [vnot, Val.enc])
theorem rcat_l (k n : Int) (s : ByteArray) (k' n' : Int) (s' : ByteArray) (h : s.size ≤ 281474976710656) (h' : s'.size ≤ 281474976710656) : PCall Try.prog 56 [.agg [.int .i64 k, .int .i64 n, .str s], .agg [.int .i64 k', .int .i64 n', .str s']] fun r => r = [(catV ⟨k, n, s⟩ ⟨k', n', s'⟩).enc] := by
  have hb : ∀ (k n : Int) (s : ByteArray), s.size ≤ 281474976710656 → (clean ⟨k, n, s⟩).s.size ≤ 281474976710656 := by
    intro k n s h; unfold clean; split
    · show (0 : Nat) ≤ _; omega
    · split
      · exact h
      · show (0 : Nat) ≤ _; omega
  have h1 := hb k n s h
  have h2 := hb k' n' s' h'
  have hcat : catV ⟨k, n, s⟩ ⟨k', n', s'⟩ = catV (clean ⟨k, n, s⟩) (clean ⟨k', n', s'⟩) := by
    unfold catV clean
    by_cases a : k = 2 <;> by_cases b : k' = 2 <;> by_cases a1 : k = 1 <;> by_cases b1 : k' = 1 <;> simp [a, b, a1, b1, Val.zero] <;> omega
  rw [hcat]
  obtain ⟨u, hu⟩ : ∃ u, clean ⟨k, n, s⟩ = u := ⟨_, rfl⟩
  obtain ⟨v, hv⟩ : ∃ u, clean ⟨k', n', s'⟩ = u := ⟨_, rfl⟩
  have c1 := clean_l k n s
  have c2 := clean_l k' n' s'
  rw [hu] at h1 c1 ⊢
  rw [hv] at h2 c2 ⊢
  obtain ⟨uk, un, us⟩ := u
  obtain ⟨vk, vn, vs⟩ := v
  have hmx : ¬ maxI < ((us.size + vs.size : Nat) : Int) := by
    have : maxI = 9223372036854775807 := by decide
    simp only at h1 h2
    omega
  have hw : ∀ a b z : Int, (us.size : Int) = a → (vs.size : Int) = b → IntKind.i64.wrap (a + b) = z → z = us.size + vs.size := by
    intro a b z g1 g2 g3; simp only at h1 h2; rw [wrap_in (by omega)] at g3; omega
  have e1 : ∀ z : Int, z = us.size + vs.size → decide (1000 < z) = true → catV ⟨uk, un, us⟩ ⟨vk, vn, vs⟩ = Val.zero := by
    intro z g h; simp only [decide_eq_true_eq] at h; unfold catV; rw [if_pos]; right; right; show (1000 : Int) < us.size + vs.size; omega
  have e2 : ∀ z : Int, z = us.size + vs.size → decide (1000 < z) = false → uk = 2 → vk = 2 → catV ⟨uk, un, us⟩ ⟨vk, vn, vs⟩ = ⟨2, 0, us ++ vs⟩ := by
    intro z g h a b; simp only [decide_eq_false_iff_not] at h; unfold catV; rw [if_neg]
    simp only [not_or, Decidable.not_not]
    exact ⟨a, b, by omega⟩
  have e3 : ¬ uk = 2 ∨ ¬ vk = 2 → catV ⟨uk, un, us⟩ ⟨vk, vn, vs⟩ = Val.zero := by
    intro h; unfold catV; rw [if_pos]; rcases h with h | h
    · exact .inl h
    · exact .inr (.inl h)
  clear hb hcat hu hv h h'
  simp only [Val.enc] at c1 c2
  refine PCall.x (nt := 34) (res := [.cell 4 25]) mixed tt_ok [] Try.func56 rfl rfl rfl c56 (Nat.le_of_ble_eq_true rfl) ?_
  intro cp cc lp Q' hcp hcc hlp hQ
  repeat' (first
    | (with_reducible refine Nm.mk ?_; intro z hz)
    | (with_reducible refine IfB.mk ?_ ?_ <;> (intro h; cases h))
    | (with_reducible refine Two.l ?_; refine Asm.mk ?_ ?_; focus (decide +kernel))
    | (with_reducible refine Two.r ?_)
    | (with_reducible refine Asm.mk ?_ ?_; focus (first | exact hmx | kernel_rfl | decide))
    | (with_reducible refine isCP hcp ?_; first | (refine xP hcp (c1) ?_; skip) | (refine xP hcp (c2) ?_; skip) | (refine vP hcp (none_l) ?_; intro v hv) | (refine vP hcp (str_l _) ?_; intro v hv))
    | (with_reducible refine isCC hcc ?_; first | (refine xA hcc (c1) rfl ?_; skip) | (refine xA hcc (c2) rfl ?_; skip) | (refine vA hcc (none_l) rfl ?_; intro v hv) | (refine vA hcc (str_l _) rfl ?_; intro v hv))
    | (with_reducible refine Asm.mk2 ?_ ?_)
    | ((fail_if_success (with_reducible first | refine hQ _ ?_ | refine Side.mk ?_ | refine isCP hcp ?_ | refine isCC hcc ?_ | refine isLP hlp ?_ | refine Ix.mk ?_ | refine SIx.mk ?_ | refine SEx.mk ?_ | refine EIx.mk ?_ | refine RIx.mk ?_ | show False | refine hR ?_ _ ?_ ?_ ?_ ?_ ?_ | refine hR2 ?_ _ ?_ ?_ ?_ ?_ ?_)); cbv))
  · refine hQ _ ?_
    rw [e3 (.inl (by simpa using hz))]; clear hQ hcp hcc hlp c1 c2; subst_vars; rfl
  · refine hQ _ ?_
    rw [e3 (.inr (by simpa using hz))]; clear hQ hcp hcc hlp c1 c2; subst_vars; rfl
  · refine hQ _ ?_
    have g := hw _ _ _ (show (us.size : Int) = _ by assumption) (show (vs.size : Int) = _ by assumption) (by assumption)
    rw [e1 _ g (by assumption)]; clear hQ hcp hcc hlp c1 c2 hw e1 e2 e3; subst hv; rfl
  · refine hQ _ ?_
    have g := hw _ _ _ (show (us.size : Int) = _ by assumption) (show (vs.size : Int) = _ by assumption) (by assumption)
    have a : uk = 2 := by have h : (!decide (uk = 2)) = false := by assumption
                          simpa using h
    have b : vk = 2 := by have h : (!decide (vk = 2)) = false := by assumption
                          simpa using h
    rw [e2 _ g (by assumption) a b]; clear hQ hcp hcc hlp c1 c2 hw e1 e2 e3; subst hv; subst hz; rfl

theorem less_cmp : ∀ a b : List UInt8, (if (a == b) = true then (0 : Int) else if Op.bytesLess a b = true then -1 else 1) = Lib.compareBytes a b
  | [], [] => by simp [Lib.compareBytes]
  | [], _ :: _ => by simp [Lib.compareBytes, Op.bytesLess]
  | _ :: _, [] => by simp [Lib.compareBytes, Op.bytesLess]
  | x :: a, y :: b => by
    have ih := less_cmp a b
    rw [Lib.compareBytes, ← ih]
    by_cases h1 : x < y
    · have : x ≠ y := by rintro rfl; exact UInt8.lt_irrefl _ h1
      simp [Op.bytesLess, h1, this]
    · by_cases h2 : y < x
      · have : x ≠ y := by rintro rfl; exact UInt8.lt_irrefl _ h2
        simp [Op.bytesLess, h1, h2, this]
      · have : x = y := by
          rw [UInt8.lt_iff_toNat_lt] at h1 h2
          exact UInt8.toNat_inj.1 (by omega)
        subst this
        simp [Op.bytesLess, h1]
theorem cmp_str (a b : ByteArray) : cmpB (sless a b) (sbeq a b) = cmpS a b := by
  unfold cmpS
  rw [← less_cmp]
  unfold cmpB sless sbeq
  rw [ByteArray.toList_eq, ByteArray.toList_eq]
theorem cmpS_self (a : ByteArray) : cmpS a a = 0 := by unfold cmpS; rw [← less_cmp]; simp
theorem cmp_int (a b : Int) : cmpB (decide (a < b)) (decide (a = b)) = cmpI a b := by
  unfold cmpB cmpI
  by_cases h : a = b
  · subst h; simp
  · by_cases g : a < b <;> simp [h, g] <;> omega
theorem cmp_ne {a b : Int} (h : ¬ a = b) : cmpB (decide (a < b)) false = cmpI a b := by
  rw [← cmp_int, decide_eq_false h]
theorem cmpI_ne {a b : Int} (h : ¬ a = b) : ¬ cmpI a b = 0 := by unfold cmpI; split <;> (try split) <;> omega
theorem cmpI_self (a : Int) : cmpI a a = 0 := by unfold cmpI; simp
theorem clean_k1 {v : Val} (h : (clean v).k = 1) : (clean v).s = ⟨#[]⟩ := by
  unfold clean at h ⊢; split at h
  · rename_i g; rw [if_pos g]
  · split at h
    · cases h
    · cases h
theorem clean_k2 {v : Val} (h : ¬ (clean v).k = 1) : (clean v).n = 0 := by
  unfold clean at h ⊢; split at h
  · exact absurd rfl h
  · rename_i g; rw [if_neg g]; split <;> rfl
theorem rorder_l (k n : Int) (s : ByteArray) (k' n' : Int) (s' : ByteArray) : PCall Try.prog 51 [.agg [.int .i64 k, .int .i64 n, .str s], .agg [.int .i64 k', .int .i64 n', .str s']] fun r => r = [.int .i64 (orderV ⟨k, n, s⟩ ⟨k', n', s'⟩)] := by
  have c1 := clean_l k n s
  have c2 := clean_l k' n' s'
  have a1 := @clean_k1 ⟨k, n, s⟩
  have a2 := @clean_k1 ⟨k', n', s'⟩
  have b1 := @clean_k2 ⟨k, n, s⟩
  have b2 := @clean_k2 ⟨k', n', s'⟩
  unfold orderV
  obtain ⟨u, hu⟩ : ∃ u, clean ⟨k, n, s⟩ = u := ⟨_, rfl⟩
  obtain ⟨v, hv⟩ : ∃ u, clean ⟨k', n', s'⟩ = u := ⟨_, rfl⟩
  rw [hu] at c1 a1 b1 ⊢
  rw [hv] at c2 a2 b2 ⊢
  obtain ⟨uk, un, us⟩ := u
  obtain ⟨vk, vn, vs⟩ := v
  simp only [Val.enc] at c1 c2
  simp only at a1 a2 b1 b2 ⊢
  have e1 : (!decide (uk = vk)) = true → cmpB (decide (uk < vk)) false = orI [cmpI uk vk, cmpI un vn, cmpS us vs] := by
    intro h; simp only [Bool.not_eq_true', decide_eq_false_iff_not] at h
    rw [cmp_ne h]; unfold orI; rw [if_neg (cmpI_ne h)]
  have e2 : (!decide (uk = vk)) = false → decide (uk = 1) = true → cmpB (decide (un < vn)) (decide (un = vn)) = orI [cmpI uk vk, cmpI un vn, cmpS us vs] := by
    intro h g; simp only [Bool.not_eq_false', decide_eq_true_eq] at h g
    subst h
    rw [cmp_int, a1 g, a2 g, cmpS_self, cmpI_self]
    simp only [orI, if_true]; split
    · rename_i q; exact q
    · rfl
  have e3 : (!decide (uk = vk)) = false → decide (uk = 1) = false → cmpB (sless us vs) (sbeq us vs) = orI [cmpI uk vk, cmpI un vn, cmpS us vs] := by
    intro h g; simp only [Bool.not_eq_false', decide_eq_true_eq, decide_eq_false_iff_not] at h g
    subst h
    rw [cmp_str, b1 g, b2 g, cmpI_self, cmpI_self]
    simp only [orI, if_true]; split
    · rename_i q; exact q
    · rfl
  obtain ⟨Z, hZ⟩ : ∃ Z, orI [cmpI uk vk, cmpI un vn, cmpS us vs] = Z := ⟨_, rfl⟩
  rw [hZ] at e1 e2 e3 ⊢
  clear hu hv a1 a2 b1 b2 hZ
  refine PCall.x (nt := 45) (res := [.tmp 4]) mixed tt_ok [] Try.func51 rfl rfl rfl c51 (Nat.le_of_ble_eq_true rfl) ?_
  intro cp cc lp Q' hcp hcc hlp hQ
  repeat' (first
    | (with_reducible refine Nm.mk ?_; intro z hz)
    | (with_reducible refine IfB.mk ?_ ?_ <;> (intro h; cases h))
    | (with_reducible refine Two.l ?_; refine Asm.mk ?_ ?_; focus (decide +kernel))
    | (with_reducible refine Two.r ?_)
    | (with_reducible refine Asm.mk ?_ ?_; focus (first | kernel_rfl | decide))
    | (with_reducible refine isCP hcp ?_; first | (refine xP hcp (c1) ?_; skip) | (refine xP hcp (c2) ?_; skip) | (refine iP hcp (rcmp_c _ _) ?_; intro z hz))
    | (with_reducible refine isCC hcc ?_; first | (refine xA hcc (c1) rfl ?_; skip) | (refine xA hcc (c2) rfl ?_; skip) | (refine iA hcc (rcmp_c _ _) rfl ?_; intro z hz))
    | (with_reducible refine Asm.mk2 ?_ ?_)
    | ((fail_if_success (with_reducible first | refine hQ _ ?_ | refine Side.mk ?_ | refine isCP hcp ?_ | refine isCC hcc ?_ | refine isLP hlp ?_ | refine Ix.mk ?_ | refine SIx.mk ?_ | refine SEx.mk ?_ | refine EIx.mk ?_ | refine RIx.mk ?_ | show False | refine hR ?_ _ ?_ ?_ ?_ ?_ ?_ | refine hR2 ?_ _ ?_ ?_ ?_ ?_ ?_)); cbv))
  all_goals (refine hQ _ ?_)
  · rw [← e1 (by assumption)]; clear hQ hcp hcc hlp c1 c2 e1 e2 e3; subst_vars; rfl
  · rw [← e2 (by assumption) (by assumption)]; clear hQ hcp hcc hlp c1 c2 e1 e2 e3; subst_vars; rfl
  · rw [← e3 (by assumption) (by assumption)]; clear hQ hcp hcc hlp c1 c2 e1 e2 e3; subst_vars; rfl
theorem rtest_l (op k n : Int) (s : ByteArray) (k' n' : Int) (s' : ByteArray) : PCall Try.prog 53 [.int .i64 op, .agg [.int .i64 k, .int .i64 n, .str s], .agg [.int .i64 k', .int .i64 n', .str s']] fun r => r = [(testV op ⟨k, n, s⟩ ⟨k', n', s'⟩).enc] := by
  have c1 := clean_l k n s
  have c2 := clean_l k' n' s'
  obtain ⟨q, hq⟩ : ∃ q, testV op ⟨k, n, s⟩ ⟨k', n', s'⟩ = q := ⟨_, rfl⟩
  rw [hq]
  unfold testV at hq
  obtain ⟨u, hu⟩ : ∃ u, clean ⟨k, n, s⟩ = u := ⟨_, rfl⟩
  obtain ⟨v, hv⟩ : ∃ u, clean ⟨k', n', s'⟩ = u := ⟨_, rfl⟩
  rw [hu, hv] at hq
  rw [hu] at c1
  rw [hv] at c2
  obtain ⟨uk, un, us⟩ := u
  obtain ⟨vk, vn, vs⟩ := v
  have ho := rorder_l uk un us vk vn vs
  obtain ⟨o, hoo⟩ : ∃ o, orderV ⟨uk, un, us⟩ ⟨vk, vn, vs⟩ = o := ⟨_, rfl⟩
  rw [hoo] at ho hq
  simp only [Val.enc] at c1 c2
  simp only at hq
  clear hu hv hoo
  refine PCall.x (nt := 56) (res := [.cell 6 25]) mixed tt_ok [] Try.func53 rfl rfl rfl c53 (Nat.le_of_ble_eq_true rfl) ?_
  intro cp cc lp Q' hcp hcc hlp hQ
  repeat' (first
    | (with_reducible refine Nm.mk ?_; intro z hz)
    | (with_reducible refine IfB.mk ?_ ?_ <;> (intro h; cases h))
    | (with_reducible refine Two.l ?_; refine Asm.mk ?_ ?_; focus (decide +kernel))
    | (with_reducible refine Two.r ?_)
    | (with_reducible refine Asm.mk ?_ ?_; focus (first | kernel_rfl | decide))
    | (with_reducible refine isCP hcp ?_; first | (refine xP hcp (c1) ?_; skip) | (refine xP hcp (c2) ?_; skip) | (refine xP hcp (ho) ?_; skip) | (refine vP hcp (none_l) ?_; intro v hv) | (refine vP hcp (truth_l _) ?_; intro v hv))
    | (with_reducible refine isCC hcc ?_; first | (refine xA hcc (c1) rfl ?_; skip) | (refine xA hcc (c2) rfl ?_; skip) | (refine xA hcc (ho) rfl ?_; skip) | (refine vA hcc (none_l) rfl ?_; intro v hv) | (refine vA hcc (truth_l _) rfl ?_; intro v hv))
    | (with_reducible refine Asm.mk2 ?_ ?_)
    | ((fail_if_success (with_reducible first | refine hQ _ ?_ | refine Side.mk ?_ | refine isCP hcp ?_ | refine isCC hcc ?_ | refine isLP hlp ?_ | refine Ix.mk ?_ | refine SIx.mk ?_ | refine SEx.mk ?_ | refine EIx.mk ?_ | refine RIx.mk ?_ | show False | refine hR ?_ _ ?_ ?_ ?_ ?_ ?_ | refine hR2 ?_ _ ?_ ?_ ?_ ?_ ?_)); cbv))
  all_goals (refine hQ _ ?_; clear hQ hcp hcc hlp c1 c2 ho; rw [← hq]; clear hq)
  all_goals first
    | (have a : uk = 0 := of_decide_eq_true (by assumption)
       rw [if_pos (.inl a), hv]; rfl)
    | (have a : vk = 0 := of_decide_eq_true (by assumption)
       rw [if_pos (.inr (.inl a)), hv]; rfl)
    | (have a : ¬ uk = 0 := of_decide_eq_false (by assumption)
       have b : ¬ vk = 0 := of_decide_eq_false (by assumption)
       first
         | (have c := of_decide_eq_true (show decide (op = _) = true by assumption)
            subst c
            rw [if_neg (by omega)]
            subst_vars
            rfl)
         | (have c1 : ¬ op = 12 := of_decide_eq_false (by assumption)
            have c2 : ¬ op = 13 := of_decide_eq_false (by assumption)
            have c3 : ¬ op = 14 := of_decide_eq_false (by assumption)
            have c4 : ¬ op = 15 := of_decide_eq_false (by assumption)
            have c5 : ¬ op = 16 := of_decide_eq_false (by assumption)
            have c6 : ¬ op = 17 := of_decide_eq_false (by assumption)
            rw [if_pos (by omega), hv]; rfl))
theorem end_l (op k n : Int) (s : ByteArray) : PCall Try.prog 109 [.agg [.int .i64 k, .int .i64 n, .str s], .ip [.int .i64 op]] fun r => r = [.bool (isT ⟨k, n, s⟩ (decide (op = 20)))] := by
  refine PCall.x (nt := 15) (res := [.tmp 3]) mixed tt_ok [] Try.func109 rfl rfl rfl c109 (Nat.le_of_ble_eq_true rfl) ?_
  intro cp cc lp Q' hcp hcc hlp hQ
  repeat' (first
    | (with_reducible refine Nm.mk ?_; intro z hz)
    | (with_reducible refine IfB.mk ?_ ?_ <;> (intro h; cases h))
    | (with_reducible refine Two.l ?_; refine Asm.mk ?_ ?_; focus (decide +kernel))
    | (with_reducible refine Two.r ?_)
    | (with_reducible refine Asm.mk ?_ ?_; focus (first | kernel_rfl | decide))
    | (with_reducible refine Asm.mk2 ?_ ?_)
    | ((fail_if_success (with_reducible first | refine hQ _ ?_ | refine Side.mk ?_ | refine isCP hcp ?_ | refine isCC hcc ?_ | refine isLP hlp ?_ | refine Ix.mk ?_ | refine SIx.mk ?_ | refine SEx.mk ?_ | refine EIx.mk ?_ | refine RIx.mk ?_ | show False | refine hR ?_ _ ?_ ?_ ?_ ?_ ?_ | refine hR2 ?_ _ ?_ ?_ ?_ ?_ ?_)); cbv))
  all_goals (refine hQ _ ?_; clear hQ hcp hcc hlp; subst_vars; simp_all [isT])
theorem rboth_l (op k n : Int) (s : ByteArray) (k' n' : Int) (s' : ByteArray) : PCall Try.prog 60 [.int .i64 op, .agg [.int .i64 k, .int .i64 n, .str s], .agg [.int .i64 k', .int .i64 n', .str s']] fun r => r = [(both op ⟨k, n, s⟩ ⟨k', n', s'⟩).enc] := by
  obtain ⟨q, hq⟩ : ∃ q, both op ⟨k, n, s⟩ ⟨k', n', s'⟩ = q := ⟨_, rfl⟩
  rw [hq]
  unfold both at hq
  have h1 := end_l op k n s
  have h2 := end_l op k' n' s'
  refine PCall.x (nt := 42) (res := [.cell 6 25]) mixed tt_ok [(109, [0])] Try.func60 rfl rfl rfl c60 (Nat.le_of_ble_eq_true rfl) ?_
  intro cp cc lp Q' hcp hcc hlp hQ
  repeat' (first
    | (with_reducible refine Nm.mk ?_; intro z hz)
    | (with_reducible refine IfB.mk ?_ ?_ <;> (intro h; cases h))
    | (with_reducible refine Two.l ?_; refine Asm.mk ?_ ?_; focus (decide +kernel))
    | (with_reducible refine Two.r ?_)
    | (with_reducible refine Asm.mk ?_ ?_; focus (first | kernel_rfl | decide))
    | (with_reducible refine isCP hcp ?_; first | (refine bP hcp (h1) ?_; intro z hz) | (refine bP hcp (h2) ?_; intro z hz) | (refine vP hcp (none_l) ?_; intro v hv) | (refine vP hcp (truth_l _) ?_; intro v hv))
    | (with_reducible refine isCC hcc ?_; first | (refine bA hcc (h1) rfl ?_; intro z hz) | (refine bA hcc (h2) rfl ?_; intro z hz) | (refine vA hcc (none_l) rfl ?_; intro v hv) | (refine vA hcc (truth_l _) rfl ?_; intro v hv))
    | (with_reducible refine Asm.mk2 ?_ ?_)
    | ((fail_if_success (with_reducible first | refine hQ _ ?_ | refine Side.mk ?_ | refine isCP hcp ?_ | refine isCC hcc ?_ | refine isLP hlp ?_ | refine Ix.mk ?_ | refine SIx.mk ?_ | refine SEx.mk ?_ | refine EIx.mk ?_ | refine RIx.mk ?_ | show False | refine hR ?_ _ ?_ ?_ ?_ ?_ ?_ | refine hR2 ?_ _ ?_ ?_ ?_ ?_ ?_)); cbv))
  all_goals (refine hQ _ ?_; clear hQ hcp hcc hlp h1 h2; rw [← hq]; clear hq)
  all_goals (simp only [] at *)
  all_goals first
    | (have a : op = 19 := by have h : (!decide (op = 19)) = false := by assumption
                              simpa using h
       subst a
       simp_all [Val.enc]; done)
    | (have a : ¬ op = 19 := by have h : (!decide (op = 19)) = true := by assumption
                                simpa using h
       simp_all [Val.enc]; done)
end Go.Proofs.Ytnhmnfokbinplaa

namespace Go.Proofs.Ytnhmnfokbinplaa
open Go Go.RowKit
set_option maxRecDepth 100000
set_option linter.unusedSimpArgs false
set_option linter.unusedVariables false

abbrev In64 (n : Int) : Prop := -9223372036854775808 ≤ n ∧ n ≤ 9223372036854775807
theorem uabs4 {n : Int} (h : In64 n) : (dig (uabs n)).length ≤ 4 := dig4 (by have := uabs_le h; omega)
theorem clean_in {v : Val} (h : In64 v.n) : In64 (clean v).n := by
  unfold clean; split
  · exact h
  · split
    · show In64 0; decide
    · decide
theorem clean_k0 (v : Val) : (clean v).k = 1 ↔ v.k = 1 := by
  unfold clean; split
  · rename_i h; simp [h]
  · rename_i h; split <;> simp [h, Val.zero]
theorem clean_n {v : Val} (h : v.k = 1) : (clean v).n = v.n := by unfold clean; rw [if_pos h]
theorem reckon_clean (op : Int) (a b : Val) : reckon op (clean a) (clean b) = reckon op a b := by
  unfold reckon
  simp only [clean_k0]
  split
  · rename_i h; rw [clean_n h.1, clean_n h.2]
  · rfl
theorem uabs_small {a b c : Int} (ha : In64 a) (h : uabs c ≤ uabs a + b) (hb : b ≤ 18446744073709551616) : (dig (uabs c)).length ≤ 10 := by
  have := uabs_le ha
  exact Nat.le_trans (dig_len 5 (uabs c) (by omega)) (by decide)
theorem tmod_range {x y : Int} (hx : In64 x) : In64 (x.tmod y) := by
  have h3 : (x.tmod y).natAbs ≤ x.natAbs := by rw [Int.natAbs_tmod]; exact Nat.mod_le _ _
  have h4 : 0 ≤ x → 0 ≤ x.tmod y := fun h => Int.tmod_nonneg _ h
  have h5 : x ≤ 0 → x.tmod y ≤ 0 := fun h => by
    have := Int.tmod_nonneg y (a := -x) (by omega)
    rw [Int.neg_tmod] at this; omega
  generalize x.tmod y = d at *
  omega
theorem uabs_tdiv {x y : Int} (hx : In64 x) : (dig (uabs (x.tdiv y))).length ≤ 10 := by
  have h3 : (x.tdiv y).natAbs ≤ x.natAbs := by rw [Int.natAbs_tdiv]; exact Nat.div_le_self _ _
  have : uabs (x.tdiv y) ≤ 9223372036854775808 := by
    generalize x.tdiv y = d at *
    unfold uabs; split <;> omega
  exact Nat.le_trans (dig_len 4 _ (by omega)) (by decide)

set_option maxHeartbeats 4000000 in
theorem rreckon_l (op k n : Int) (s : ByteArray) (k' n' : Int) (s' : ByteArray) (hn : In64 n) (hn' : In64 n') : PCall Try.prog 54 [.int .i64 op, .agg [.int .i64 k, .int .i64 n, .str s], .agg [.int .i64 k', .int .i64 n', .str s']] fun r => r = [(reckon op ⟨k, n, s⟩ ⟨k', n', s'⟩).enc] := by
  have c1 := clean_l k n s
  have c2 := clean_l k' n' s'
  rw [← reckon_clean]
  have i1 := clean_in (v := ⟨k, n, s⟩) hn
  have i2 := clean_in (v := ⟨k', n', s'⟩) hn'
  obtain ⟨u, hu⟩ : ∃ u, clean ⟨k, n, s⟩ = u := ⟨_, rfl⟩
  obtain ⟨v, hv⟩ : ∃ u, clean ⟨k', n', s'⟩ = u := ⟨_, rfl⟩
  rw [hu] at c1 i1 ⊢
  rw [hv] at c2 i2 ⊢
  clear hu hv hn hn'
  obtain ⟨uk, x, us⟩ := u
  obtain ⟨vk, y, vs⟩ := v
  simp only at i1 i2
  simp only [Val.enc] at c1 c2
  have lx := uabs4 i1
  have ly := uabs4 i2
  have o1 := longOf_c x i1
  have o2 := longOf_c y i2
  have pa := plus_c x y (by omega) (by omega)
  have ps := plus_c x (-y) (by omega) (by have e : uabs (-y) = uabs y := by unfold uabs; split <;> split <;> omega
                                          rw [e]; omega)
  have pm := times_c' x y (by omega) (by omega)
  have va := value_c (x + y) (by
    have := uabs_add x y
    have := uabs_small (a := x) (b := uabs y) (c := x + y) i1 this (by have := uabs_le i2; omega)
    omega)
  have vs' := value_c (x + -y) (by
    have := uabs_add x (-y)
    have e : uabs (-y) = uabs y := by unfold uabs; split <;> split <;> omega
    rw [e] at this
    have := uabs_small (a := x) (b := uabs y) (c := x + -y) i1 this (by have := uabs_le i2; omega)
    omega)
  have vm := value_c (x * y) (by
    have e : uabs (x * y) = uabs x * uabs y := by
      have := sgn_mul x y
      rw [← this]; exact sgn_abs (Int.mul_nonneg (uabs_nn x) (uabs_nn y))
    rw [e]
    have := dig_mul (uabs_nn x) (uabs_nn y)
    omega)
  have vq := value_c (x.tdiv y) (by have := uabs_tdiv (y := y) i1; omega)
  have vr := value_c (x.tmod y) (by have := uabs4 (tmod_range (y := y) i1); omega)
  have tn : PCall Try.prog 106 [.agg [.bool (!decide (y < 0)), .sl (longD y)]] fun r => r = [.agg (longZ (-y))] := by
    have := trim_c (!decide (y < 0)) (dig (uabs y)) (okD_dig _) (longD y) rfl (by omega)
    rw [lval_dig' (uabs_nn y)] at this
    have e : sgn (!decide (y < 0)) (uabs y) = -y := by
      unfold sgn uabs
      by_cases g : y < 0 <;> simp [g]
    rw [e] at this; exact this
  have dv : decide (y = 0) = false → PCall Try.prog 108 [.agg (longZ x), .agg (longZ y)] fun r => r = [.agg (longZ (x.tdiv y)), .agg (longZ (x.tmod y))] := fun h => divided_c x y (of_decide_eq_false h) (by omega) (by omega)
  -- the answers
  have rz : (!decide (uk = 1)) = true ∨ (!decide (vk = 1)) = true → reckon op ⟨uk, x, us⟩ ⟨vk, y, vs⟩ = Val.zero := by
    intro h; unfold reckon; rw [if_neg]
    rintro ⟨a, b⟩
    simp only at a b
    simp [a, b] at h
  have rr : (!decide (uk = 1)) = false → (!decide (vk = 1)) = false → reckon op ⟨uk, x, us⟩ ⟨vk, y, vs⟩ = optNum (reckN op x y) := by
    intro a b; unfold reckon; rw [if_pos]
    simpa using And.intro a b
  have r7 : op = 7 → optNum (in64 (x + y)) = optNum (reckN op x y) := by rintro rfl; rfl
  have r8 : op = 8 → optNum (in64 (x + -y)) = optNum (reckN op x y) := by rintro rfl; rfl
  have r9 : op = 9 → optNum (in64 (x * y)) = optNum (reckN op x y) := by rintro rfl; rfl
  have r10 : op = 10 → ¬ y = 0 → optNum (in64 (x.tdiv y)) = optNum (reckN op x y) := by
    rintro rfl h; unfold reckN; simp [h]
  have r11 : op = 11 → ¬ y = 0 → optNum (in64 (x.tmod y)) = optNum (reckN op x y) := by
    rintro rfl h
    have e : in64 (x.tmod y) = some (x.tmod y) := by unfold in64; rw [if_pos (tmod_range i1)]
    unfold reckN; simp [h, e]
  have r0 : op = 10 ∨ op = 11 → y = 0 → Val.zero = optNum (reckN op x y) := by
    rintro (rfl | rfl) h <;> unfold reckN <;> simp [h, optNum]
  have rn : ¬ op = 7 → ¬ op = 8 → ¬ op = 9 → ¬ op = 10 → ¬ op = 11 → Val.zero = optNum (reckN op x y) := by
    intro a b c d e; unfold reckN; simp [a, b, c, d, e, optNum]
  -- shapes
  unfold longZ at o1 o2 pa ps pm va vs' vm vq vr tn dv
  generalize longD x = X at *
  generalize longD y = Y at *
  generalize longD (x + y) = A at *
  generalize longD (x + -y) = S at *
  generalize longD (-y) = Y' at *
  generalize longD (x * y) = M at *
  generalize longD (x.tdiv y) = D at *
  generalize longD (x.tmod y) = E at *
  generalize decide (x < 0) = bx at *
  generalize decide (y < 0) = by' at *
  generalize decide (x + y < 0) = ba at *
  generalize decide (x + -y < 0) = bs at *
  generalize decide (-y < 0) = bn at *
  generalize decide (x * y < 0) = bm at *
  generalize decide (x.tdiv y < 0) = bd at *
  generalize decide (x.tmod y < 0) = be at *
  have tn' : ∀ z : Bool, (!by') = z → PCall Try.prog 106 [.agg [.bool z, .sl Y]] fun r => r = [.agg [.bool bn, .sl Y']] := by rintro z rfl; exact tn
  clear tn lx ly i1 i2
  refine PCall.x (nt := 74) (res := [.cell 6 25]) mixed tt_ok [] Try.func54 rfl rfl rfl c54 (Nat.le_of_ble_eq_true rfl) ?_
  intro cp cc lp Q' hcp hcc hlp hQ
  repeat' (first
    | (with_reducible refine Nm.mk ?_; intro z hz)
    | (with_reducible refine IfB.mk ?_ ?_ <;> (intro h; cases h))
    | (with_reducible refine Two.l ?_; refine Asm.mk ?_ ?_; focus (decide +kernel))
    | (with_reducible refine Two.r ?_)
    | (with_reducible refine Asm.mk ?_ ?_; focus (first | kernel_rfl | decide))
    | (with_reducible refine isCP hcp ?_; first | (refine xP hcp (c1) ?_; skip) | (refine xP hcp (c2) ?_; skip) | (refine vP hcp (none_l) ?_; intro v hv) | (refine xP hcp (o1) ?_; skip) | (refine xP hcp (o2) ?_; skip) | (refine xP hcp (tn' _ (by assumption)) ?_; skip) | (refine xP hcp (pa) ?_; skip) | (refine xP hcp (ps) ?_; skip) | (refine xP hcp (pm) ?_; skip) | (refine vP hcp (va) ?_; intro v hv) | (refine vP hcp (vs') ?_; intro v hv) | (refine vP hcp (vm) ?_; intro v hv) | (refine xP hcp (dv (by assumption)) ?_; skip) | (refine vP hcp (vq) ?_; intro v hv) | (refine vP hcp (vr) ?_; intro v hv))
    | (with_reducible refine isCC hcc ?_; first | (refine xA hcc (c1) rfl ?_; skip) | (refine xA hcc (c2) rfl ?_; skip) | (refine vA hcc (none_l) rfl ?_; intro v hv) | (refine xA hcc (o1) rfl ?_; skip) | (refine xA hcc (o2) rfl ?_; skip) | (refine xA hcc (tn' _ (by assumption)) rfl ?_; skip) | (refine xA hcc (pa) rfl ?_; skip) | (refine xA hcc (ps) rfl ?_; skip) | (refine xA hcc (pm) rfl ?_; skip) | (refine vA hcc (va) rfl ?_; intro v hv) | (refine vA hcc (vs') rfl ?_; intro v hv) | (refine vA hcc (vm) rfl ?_; intro v hv) | (refine xA hcc (dv (by assumption)) rfl ?_; skip) | (refine vA hcc (vq) rfl ?_; intro v hv) | (refine vA hcc (vr) rfl ?_; intro v hv))
    | (with_reducible refine Asm.mk2 ?_ ?_)
    | ((fail_if_success (with_reducible first | refine hQ _ ?_ | refine Side.mk ?_ | refine isCP hcp ?_ | refine isCC hcc ?_ | refine isLP hlp ?_ | refine Ix.mk ?_ | refine SIx.mk ?_ | refine SEx.mk ?_ | refine EIx.mk ?_ | refine RIx.mk ?_ | show False | refine hR ?_ _ ?_ ?_ ?_ ?_ ?_ | refine hR2 ?_ _ ?_ ?_ ?_ ?_ ?_)); cbv))
  all_goals (refine hQ _ ?_; clear hQ hcp hcc hlp c1 c2 o1 o2 pa ps pm va vs' vm dv vq vr tn')
  all_goals first
    | (rw [rz (by first | exact .inl (by assumption) | exact .inr (by assumption))]; rw [hv]; rfl)
    | (rw [rr (by assumption) (by assumption)]
       first
         | (have a : op = 7 := of_decide_eq_true (by assumption)
            rw [← r7 a]; rw [hv]; rfl)
         | (have a : op = 8 := of_decide_eq_true (by assumption)
            rw [← r8 a]; rw [hv]; rfl)
         | (have a : op = 9 := of_decide_eq_true (by assumption)
            rw [← r9 a]; rw [hv]; rfl)
         | (have a : op = 10 ∨ op = 11 := by first | exact .inl (of_decide_eq_true (by assumption)) | exact .inr (of_decide_eq_true (by assumption))
            have b : y = 0 := of_decide_eq_true (by assumption)
            rw [← r0 a b]; rw [hv]; rfl)
         | (have a : op = 10 := of_decide_eq_true (by assumption)
            have b : ¬ y = 0 := of_decide_eq_false (by assumption)
            rw [← r10 a b]; rw [hv]; rfl)
         | (have a : op = 11 := of_decide_eq_true (by assumption)
            have b : ¬ y = 0 := of_decide_eq_false (by assumption)
            rw [← r11 a b]; rw [hv]; rfl)
         | (rw [← rn (of_decide_eq_false (by assumption)) (of_decide_eq_false (by assumption)) (of_decide_eq_false (by assumption)) (of_decide_eq_false (by assumption)) (of_decide_eq_false (by assumption))]; rw [hv]; rfl)
         | exact absurd (of_decide_eq_true (show decide (op = 10) = true by assumption)) (of_decide_eq_false (by assumption)))
end Go.Proofs.Ytnhmnfokbinplaa

namespace Go.Proofs.Ytnhmnfokbinplaa
open Go Go.RowKit
set_option maxRecDepth 100000
set_option linter.unusedSimpArgs false
set_option linter.unusedVariables false

theorem Ix.giveW {l : List (List PV)} {v : List Val} {n : Int} {K : List PV → Prop} (hl : v.map Val.cells = l) (h : 0 ≤ n ∧ n < v.length) (k : ∀ a b c, (v[n.toNat]?).getD Val.zero = ⟨a, b, c⟩ → K [.int .i64 a, .int .i64 b, .str c]) : Ix 3 l n K := by
  have hlt : n.toNat < v.length := by omega
  have hx : v[n.toNat]? = some v[n.toNat] := List.getElem?_eq_getElem hlt
  refine ⟨v[n.toNat].cells, h.1, by rw [← hl, List.getElem?_map, hx]; rfl, rfl, by decide, k _ _ _ ?_⟩
  rw [hx]; rfl
theorem Ix.giveE {es : Nat} {l : List (List PV)} {n : Int} {K : List PV → Prop} {e : List PV} (h0 : 0 ≤ n) (h : l[n.toNat]? = some e) (he : e.length = es) (hes : es ≠ 0) (k : K e) : Ix es l n K := ⟨⟨e, h0, h, he, hes, k⟩⟩
def EvalC (row : List Val) (R : List (List PV)) (e : Ex) : Prop := PCall Try.prog 134 [.agg e.cells, .sl R] fun r => r = [(evalE (colOf row) e).enc]
theorem okEs_vals (l : List Val) : okEs 3 (l.map Val.cells) = true := by
  simp only [okEs, List.all_map, List.all_eq_true]
  intro e _
  simp [Val.cells, PV.one]
def gL (l : List Val) (i : Nat) : Val := (l[i]?).getD Val.zero
set_option maxHeartbeats 8000000 in
theorem reval1_c (row : List Val) (R : List (List PV)) (hRw : row.map Val.cells = R) (hr : rowOk row) (op m vk vn : Int) (vs : ByteArray) (ar : List Ex) (es : List (List PV)) (hes : ar.map Ex.cells = es) (hg : goodE (.mk op m ⟨vk, vn, vs⟩ ar) = true) (ho : okcL ar) (hv0 : okV ⟨vk, vn, vs⟩)
    (IH : ∀ x, x ∈ ar → EvalC row R x) : PCall Try.prog 134 [.agg [.int .i64 op, .int .i64 m, .int .i64 vk, .int .i64 vn, .str vs, .sl es], .sl R] fun r => r = [(evalE (colOf row) (.mk op m ⟨vk, vn, vs⟩ ar)).enc] := by
  have hel : es.length = ar.length := by rw [← hes]; simp
  have hRl : R.length = row.length := by rw [← hRw]; simp
  rw [goodE, Bool.and_eq_true, Bool.not_eq_true'] at hg
  have hbad := hg.1
  have har := badE_arity hbad
  clear hg
  have hm0 : decide (op = 1) = true → 0 ≤ m := by
    intro h
    have h1 := of_decide_eq_true h
    simp only [badE, Bool.or_eq_false_iff, Bool.and_eq_false_iff, decide_eq_false_iff_not] at hbad
    rcases hbad.1.2 with h2 | h2
    · exact absurd h1 h2
    · omega
  clear hbad
  have ha3 : 0 ≤ arityE op ∧ arityE op ≤ 3 := by rw [har]; refine ⟨by omega, ?_⟩; rw [← har]; unfold arityE; (repeat' split) <;> omega
  have hopr : 1 ≤ op ∧ op ≤ 21 := by
    have := ha3.1
    unfold arityE at this
    (repeat' split at this) <;> omega
  have hal2 : ar.length = (arityE op).toNat := by omega
  obtain ⟨V, hV⟩ : ∃ V, evalL (colOf row) ar = V := ⟨_, rfl⟩
  have hVl : V.length = ar.length := by rw [← hV, evalL_eq]; simp
  have hVok : ∀ x, x ∈ V → okV x := by rw [← hV]; exact okV_evalL (fun n => okV_colOf hr n) ar ho
  obtain ⟨CV, hCV⟩ : ∃ C, V.map Val.cells = C := ⟨_, rfl⟩
  obtain ⟨⟨k0, n0, s0⟩, hy0⟩ : ∃ y, gL V 0 = y := ⟨_, rfl⟩
  obtain ⟨⟨k1, n1, s1⟩, hy1⟩ : ∃ y, gL V 1 = y := ⟨_, rfl⟩
  obtain ⟨⟨k2, n2, s2⟩, hy2⟩ : ∃ y, gL V 2 = y := ⟨_, rfl⟩
  have hok : ∀ i, okV (gL V i) := by
    intro i; rw [gL]
    cases h : V[i]? with
    | none => exact okV_zero
    | some x => exact hVok x (List.mem_of_getElem? h)
  have ok0 := hok 0
  have ok1 := hok 1
  rw [hy0] at ok0
  rw [hy1] at ok1
  have hget : ∀ i, i < V.length → CV[i]? = some (gL V i).cells := by
    intro i h; rw [← hCV, List.getElem?_map, gL, List.getElem?_eq_getElem h]; rfl
  have i0 : 1 ≤ arityE op → CV[Int.toNat 0]? = some [.int .i64 k0, .int .i64 n0, .str s0] := by
    intro h; have := hget 0 (by omega); rw [hy0] at this; exact this
  have i1 : 2 ≤ arityE op → CV[Int.toNat 1]? = some [.int .i64 k1, .int .i64 n1, .str s1] := by
    intro h; have := hget 1 (by omega); rw [hy1] at this; exact this
  have i2 : 3 ≤ arityE op → CV[Int.toNat 2]? = some [.int .i64 k2, .int .i64 n2, .str s2] := by
    intro h; have := hget 2 (by omega); rw [hy2] at this; exact this
  have a1 : decide (op = 1) = false → decide (op = 2) = false → 1 ≤ arityE op := by
    simp only [decide_eq_false_iff_not]; intro h1 h2; unfold arityE; (repeat' split) <;> omega
  have a2 : decide (op = 1) = false → decide (op = 2) = false → decide (op = 3) = false → decide (op = 4) = false → decide (op = 5) = false → decide (op = 6) = false → 2 ≤ arityE op := by
    simp only [decide_eq_false_iff_not]; intro h1 h2 h3 h4 h5 h6; unfold arityE; (repeat' split) <;> omega
  have a3 : decide (op ≤ 20) = false → 3 ≤ arityE op := by
    simp only [decide_eq_false_iff_not]; intro h1; unfold arityE; (repeat' split) <;> omega
  have hx1 : In64 n0 := ok0.1
  have hx2 : In64 n1 := ok1.1
  have hn : ∀ v : Val, num 0 = v → In64 v.n := by rintro v rfl; exact ⟨by decide, by decide⟩
  have hs0 : s0.size ≤ 281474976710656 := by have := ok0.2; have h2 : s0.size ≤ 140737488355328 := this; omega
  have hs1 : s1.size ≤ 281474976710656 := by have := ok1.2; have h2 : s1.size ≤ 140737488355328 := this; omega
  clear hok
  obtain ⟨q, hq⟩ : ∃ q, evalE (colOf row) (.mk op m ⟨vk, vn, vs⟩ ar) = q := ⟨_, rfl⟩
  rw [hq]
  rw [evalE, hV] at hq
  refine PCall.x (nt := 149) (res := [.cell 4 25]) mixed tt_ok [] Try.func134 rfl rfl rfl c134 (Nat.le_of_ble_eq_true rfl) ?_
  intro cp cc lp Q' hcp hcc hlp hQ
  repeat' (first
    | (with_reducible refine Nm.mk ?_; intro z hz)
    | (with_reducible refine IfB.mk ?_ ?_ <;> (intro h; cases h))
    | (with_reducible refine Two.l ?_; refine Asm.mk ?_ ?_; focus (decide +kernel))
    | (with_reducible refine Two.r ?_)
    | (with_reducible refine Asm.mk ?_ ?_; focus (first | kernel_rfl | decide))
    | (with_reducible refine Asm.mk2 ?_ ?_)
    | ((fail_if_success (with_reducible first | refine hQ _ ?_ | refine Side.mk ?_ | refine isCP hcp ?_ | refine isCC hcc ?_ | refine isLP hlp ?_ | refine Ix.mk ?_ | refine SIx.mk ?_ | refine SEx.mk ?_ | refine EIx.mk ?_ | refine RIx.mk ?_ | show False | refine hR ?_ _ ?_ ?_ ?_ ?_ ?_ | refine hR2 ?_ _ ?_ ?_ ?_ ?_ ?_)); cbv))
  simp only [nc] at hz
  simp only [nc'] at hz
  have hzl := lenZ (n := ar.length) hel hz
  clear hz
  generalize z = zl at *
  refine mintT hlp 3 5 rfl ?_
  refine loopT (ι := Int × List (List PV) × Nat) mixed tt_ok hcp hcc hlp [1, 2, 4, 9, 10] (fun p => [(5, .tok 2 p.2.1), (11, .p (.int .i64 p.1))]) (fun p => [.cells [.p (.int .i64 op), .p (.int .i64 m), .p (.int .i64 vk), .p (.int .i64 vn), .p (.str vs), .p (.sl es)], .cells [.p (.int .i64 0), .p (.int .i64 0), .p (.str ⟨⟨[]⟩⟩)], .spare p.2.2 3])
    (fun p => Rng ar.length zl p.1 ∧ (V.take p.1.toNat).map Val.cells = p.2.1 ∧ p.2.1.length = p.2.2) (fun p => (zl - p.1).toNat) (0, [], 0) 3 (fun _ => rfl) ⟨Rng.start hzl (by omega), rfl, rfl⟩ ⟨rfl, rfl, trivial⟩ rfl ?_
  rintro Q2 ⟨i, C1, m1⟩ ⟨rg, hC1, hm1⟩ hR
  replace rg : Rng ar.length zl i := rg
  replace hC1 : (V.take i.toNat).map Val.cells = C1 := hC1
  replace hm1 : C1.length = m1 := hm1
  have hoke : okEs 3 C1 = true := by rw [← hC1]; exact okEs_vals _
  have hCl : C1.length ≤ 3 := by rw [← hC1, List.length_map, List.length_take]; omega
  have hpc : ∀ (op' m' vk' vn' : Int) (vs' : ByteArray) (ar' : List Ex) (es' : List (List PV)), ar[i.toNat]? = some (.mk op' m' ⟨vk', vn', vs'⟩ ar') → ar'.map Ex.cells = es' →
      PCall Try.prog 134 [.agg [.int .i64 op', .int .i64 m', .int .i64 vk', .int .i64 vn', .str vs', .sl es'], .sl R] fun r => r = [(evalE (colOf row) (.mk op' m' ⟨vk', vn', vs'⟩ ar')).enc] := by
    intro op' m' vk' vn' vs' ar' es' hx he
    have := IH _ (List.mem_of_getElem? hx)
    rw [EvalC, cells_mk, he] at this
    exact this
  have hend : decide (i < zl) = false → C1 = CV := by
    intro h; rw [← hC1, rg.take_ hVl h, hCV]
  have j0 : decide (i < zl) = false → 1 ≤ arityE op → C1[Int.toNat 0]? = some [.int .i64 k0, .int .i64 n0, .str s0] := fun h g => by rw [hend h]; exact i0 g
  have j1 : decide (i < zl) = false → 2 ≤ arityE op → C1[Int.toNat 1]? = some [.int .i64 k1, .int .i64 n1, .str s1] := fun h g => by rw [hend h]; exact i1 g
  have j2 : decide (i < zl) = false → 3 ≤ arityE op → C1[Int.toNat 2]? = some [.int .i64 k2, .int .i64 n2, .str s2] := fun h g => by rw [hend h]; exact i2 g
  have hrow : decide (op = 1) = true → ∀ z : Int, (R.length : Int) = z → decide (z ≤ m) = false → 0 ≤ m ∧ m < row.length := by
    intro h z hz h2; have := hm0 h; simp only [decide_eq_false_iff_not] at h2; omega
  repeat' (first
    | (with_reducible refine Nm.mk ?_; intro z hz)
    | (with_reducible refine IfB.mk ?_ ?_ <;> (intro h; cases h))
    | (with_reducible refine Two.l ?_; refine Asm.mk ?_ ?_; focus (decide +kernel))
    | (with_reducible refine Two.r ?_)
    | (with_reducible refine Asm.mk ?_ ?_; focus (show (_ : Bool) = true; kernel_rfl))
    | (with_reducible refine isCP hcp ?_; first | (refine vP hcp (hpc _ _ _ _ _ _ _ (by assumption) (by assumption)) ?_; intro v hv) | (refine vP hcp (none_l) ?_; intro v hv) | (refine vP hcp (clean_l _ _ _) ?_; intro v hv) | (refine vP hcp (num_l _) ?_; intro v hv) | (refine vP hcp (rreckon_l _ _ _ _ _ _ _ (hn _ (by assumption)) hx1) ?_; intro v hv) | (refine vP hcp (rreckon_l _ _ _ _ _ _ _ hx1 hx2) ?_; intro v hv) | (refine vP hcp (rnot_l _ _ _) ?_; intro v hv) | (refine vP hcp (truth_l _) ?_; intro v hv) | (refine vP hcp (rtest_l _ _ _ _ _ _ _) ?_; intro v hv) | (refine vP hcp (rcat_l _ _ _ _ _ _ hs0 hs1) ?_; intro v hv) | (refine vP hcp (rboth_l _ _ _ _ _ _ _) ?_; intro v hv) | (refine bP hcp (rtrue_l _ _ _) ?_; intro z hz))
    | (with_reducible refine isCC hcc ?_; first | (refine vA hcc (hpc _ _ _ _ _ _ _ (by assumption) (by assumption)) rfl ?_; intro v hv) | (refine vA hcc (none_l) rfl ?_; intro v hv) | (refine vA hcc (clean_l _ _ _) rfl ?_; intro v hv) | (refine vA hcc (num_l _) rfl ?_; intro v hv) | (refine vA hcc (rreckon_l _ _ _ _ _ _ _ (hn _ (by assumption)) hx1) rfl ?_; intro v hv) | (refine vA hcc (rreckon_l _ _ _ _ _ _ _ hx1 hx2) rfl ?_; intro v hv) | (refine vA hcc (rnot_l _ _ _) rfl ?_; intro v hv) | (refine vA hcc (truth_l _) rfl ?_; intro v hv) | (refine vA hcc (rtest_l _ _ _ _ _ _ _) rfl ?_; intro v hv) | (refine vA hcc (rcat_l _ _ _ _ _ _ hs0 hs1) rfl ?_; intro v hv) | (refine vA hcc (rboth_l _ _ _ _ _ _ _) rfl ?_; intro v hv) | (refine bA hcc (rtrue_l _ _ _) rfl ?_; intro z hz))
    | (with_reducible refine Ix.ex hes rg.lo (rg.lt (by assumption)) ?_; intro op' m' vk' vn' vs' ar' es' hx hes')
    | (with_reducible refine Ix.giveW hRw (hrow (by assumption) _ (by assumption) (by assumption)) ?_; intro ra rb rc hrx)
    | (with_reducible refine Ix.giveE (by decide) (j0 (by assumption) (a1 (by assumption) (by assumption))) rfl (by decide) ?_)
    | (with_reducible refine Ix.giveE (by decide) (j1 (by assumption) (a2 (by assumption) (by assumption) (by assumption) (by assumption) (by assumption) (by assumption))) rfl (by decide) ?_)
    | (with_reducible refine Ix.giveE (by decide) (j2 (by assumption) (a3 (by assumption))) rfl (by decide) ?_)
    | (with_reducible refine Asm.mk2 ?_ ?_)
    | ((fail_if_success (with_reducible first | refine hQ _ ?_ | refine Side.mk ?_ | refine isCP hcp ?_ | refine isCC hcc ?_ | refine isLP hlp ?_ | refine Ix.mk ?_ | refine SIx.mk ?_ | refine SEx.mk ?_ | refine EIx.mk ?_ | refine RIx.mk ?_ | show False | refine hR ?_ _ ?_ ?_ ?_ ?_ ?_ | refine hR2 ?_ _ ?_ ?_ ?_ ?_ ?_)); cbv))
  · refine Side.mk ⟨hm1.symm, rfl, hoke, rfl, ?_, ?_⟩ <;> (clear hR hQ; simp only [List.length_cons, List.length_nil, maxLen]; omega)
  · have hlt : decide (i < zl) = true := by assumption
    rw [rg.wrap hlt] at hz
    rename_i v hv C3 hC3 m3 hm3
    have hVi : V[i.toNat]? = some v := by rw [← hV, evalL_eq, List.getElem?_map, hx, ← hv]; rfl
    refine hR (i + 1, C3, m3) _ ⟨rg.next hlt, ?_, ?_⟩ (rg.less hlt) ⟨rfl, hz ▸ rfl, trivial⟩ ⟨rfl, rfl, rfl, rfl, rfl, trivial⟩ rfl
    · show (V.take (i + 1).toNat).map Val.cells = C3
      rw [rg.take hVi, List.map_append, hC1, ← hC3]; rfl
    · show C3.length = m3
      rw [← hC3, ← hm3, List.length_append]
  all_goals
    (have e0 : (V[0]?).getD Val.zero = ⟨k0, n0, s0⟩ := hy0
     have e1 : (V[1]?).getD Val.zero = ⟨k1, n1, s1⟩ := hy1
     have e2 : (V[2]?).getD Val.zero = ⟨k2, n2, s2⟩ := hy2
     refine hQ _ ?_
     rw [← hq]
     clear hQ hR hcp hcc hlp hpc IH j0 j1 j2 i0 i1 i2 a1 a2 a3 hget hend hm0 hn hs0 hs1 hx1 hx2 ok0 ok1 hy0 hy1 hy2 hq hVok hC1 hm1 hoke hCl hV
     show [PV.agg _] = [PV.agg _]
     rw [evOp]
     simp only [nc] at *
     simp only [nc'] at *
     simp only [decide_eq_true_eq, decide_eq_false_iff_not, Bool.not_eq_true', Bool.not_eq_false'] at *
     repeat (first | rw [if_pos (by omega)] | rw [if_neg (by omega)])
     first
       | (simp only [e0, e1, e2]; subst_vars; rfl)
       | (subst_vars; rfl)
       | (rw [colOf, if_pos (by omega)]; subst_vars; rfl)
       | (rw [colOf, if_neg (by omega), hrx]; subst_vars; rfl)
       | (simp only [e0, e1, e2]; simp only [vlenV]; first | rw [if_pos (by assumption)] | rw [if_neg (by assumption)]; subst_vars; rfl)
       | (simp only [e0, e1, e2]; first | rw [if_pos (by assumption)] | rw [if_neg (by rw [show trueV ⟨k0, n0, s0⟩ = false by assumption]; decide)]))
theorem reval_all (row : List Val) (R : List (List PV)) (hRw : row.map Val.cells = R) (hr : rowOk row) : ∀ (n : Nat) (e : Ex), e.sz ≤ n → goodE e = true → e.okc → EvalC row R e
  | 0, .mk op m v ar, h, _, _ => by simp [Ex.sz] at h
  | n + 1, .mk op m ⟨vk, vn, vs⟩ ar, h, hg, ho => by
    rw [EvalC, cells_mk]
    refine reval1_c row R hRw hr op m vk vn vs ar _ rfl hg ho.2 ho.1 fun x hx => reval_all row R hRw hr n x ?_ ?_ (okc_mem ho.2 hx)
    · have := sz_mem hx
      simp only [Ex.sz] at h; omega
    · rw [goodE, Bool.and_eq_true, goodL_all, List.all_eq_true] at hg
      exact hg.2 x hx
end Go.Proofs.Ytnhmnfokbinplaa

namespace Go.Proofs.Ytnhmnfokbinplaa
open Go Go.RowKit
set_option maxRecDepth 100000
set_option linter.unusedSimpArgs false
set_option linter.unusedVariables false

def nrow (k i m0 : Nat) : Nat := if k = 0 then i else m0

theorem rowsAt_push (cols : List Vec) (n : Nat) : rowsAt cols (n + 1) 0 n = rowsAt cols n 0 n ++ List.replicate 1 [] := by
  simp [rowsAt, List.range_succ]

set_option maxHeartbeats 1000000 in
theorem across_c (cols : List Vec) (L : List (List PV)) (hL : cols.map Vec.cells = L) (hn : ∀ c, c ∈ cols → c.null.length ≤ 1048577) (hlen : cols.length ≤ 2000000000000) :
    PCall Try.prog 26 [.sl L] fun r => r = [.sl (rowsP (tableM cols).1), .int .i64 (tableM cols).2] := by
  have hLl : L.length = cols.length := by rw [← hL]; simp
  refine PCall.x (nt := 56) (res := [.tmp 2, .tmp 3]) mixed tt_ok [] Try.func26 rfl rfl rfl c26 (Nat.le_of_ble_eq_true rfl) ?_
  intro cp cc lp Q' hcp hcc hlp hQ
  repeat' (first
    | (with_reducible refine Nm.mk ?_; intro z hz)
    | (with_reducible refine IfB.mk ?_ ?_ <;> (intro h; cases h))
    | (with_reducible refine Two.l ?_; refine Asm.mk ?_ ?_; focus (decide +kernel))
    | (with_reducible refine Two.r ?_)
    | (with_reducible refine Asm.mk ?_ ?_; focus (first | kernel_rfl | decide))
    | (with_reducible refine Asm.mk2 ?_ ?_)
    | ((fail_if_success (with_reducible first | refine hQ _ ?_ | refine Side.mk ?_ | refine isCP hcp ?_ | refine isCC hcc ?_ | refine isLP hlp ?_ | refine Ix.mk ?_ | refine SIx.mk ?_ | refine SEx.mk ?_ | refine EIx.mk ?_ | refine RIx.mk ?_ | show False | refine hR ?_ _ ?_ ?_ ?_ ?_ ?_ | refine hR2 ?_ _ ?_ ?_ ?_ ?_ ?_)); cbv))
  simp only [nc] at hz
  simp only [nc'] at hz
  have hzc : z.toNat = cols.length ∧ 0 ≤ z := by omega
  obtain ⟨hzc, hz0⟩ := hzc
  clear hz
  generalize z = z0 at *
  obtain ⟨m0, hm0⟩ : ∃ m, len0 cols = m := ⟨_, rfl⟩
  refine mintRT hlp 3 4 rfl ?_
  refine loopT (ι := Int × Nat × Nat × Nat × List (List (List PV))) mixed tt_ok hcp hcc hlp [0, 9, 10] (fun p => [(4, .rvec 0 p.2.1 p.2.2.2.1), (11, .p (.int .i64 p.1))]) (fun p => [.rvec p.2.1 p.2.2.1 p.2.2.2.2 3])
    (fun p => (0 ≤ p.1 ∧ p.1 ≤ z0) ∧ nrow p.1.toNat 0 m0 = p.2.2.2.1 ∧ rowsAt cols p.2.2.2.1 p.1.toNat 0 = p.2.2.2.2 ∧ ∀ (k : Nat) c, k < p.1.toNat → cols[k]? = some c → okCol m0 c = true) (fun p => (z0 - p.1).toNat) (0, 0, 0, 0, []) 1 (fun _ => rfl) ⟨⟨by omega, by omega⟩, rfl, rfl, fun k c hk => by simp at hk⟩ ⟨rfl, rfl, trivial⟩ rfl ?_
  rintro R ⟨k, g, j, nr, ls⟩ ⟨⟨hk0, hk1⟩, hnr, hls, hok⟩ hR
  replace hk0 : 0 ≤ k := hk0
  replace hk1 : k ≤ z0 := hk1
  replace hnr : nrow k.toNat 0 m0 = nr := hnr
  replace hls : rowsAt cols nr k.toNat 0 = ls := hls
  replace hok : ∀ (j : Nat) c, j < k.toNat → cols[j]? = some c → okCol m0 c = true := hok
  have hlsl : ls.length = nr := by rw [← hls]; exact rowsAt_len _ _ _ _
  have hkl : decide (k < z0) = true → k < cols.length := by simp only [decide_eq_true_eq]; omega
  have h0l : decide (k < z0) = true → (0 : Int) < cols.length := by simp only [decide_eq_true_eq]; omega
  have hstep : decide (k < z0) = true → IntKind.i64.wrap (k + 1) = k + 1 := by simp only [decide_eq_true_eq]; intro h; exact wrap_in (by omega)
  have hgd : ∀ a B N S n1 n2 n3, B.map boolc = n1 → N.map i64c = n2 → S.map strc = n3 → PCall Try.prog 34 [.agg [.int .i64 a, .sl n1, .sl n2, .sl n3]] fun r => r = [.bool (goodV ⟨a, B, N, S⟩)] := fun a B N S n1 n2 n3 h1 h2 h3 => rgood_c a B N S n1 n2 n3 h1 h2 h3
  have hvl : ∀ a B N S n1 n2 n3, cols[k.toNat]? = some ⟨a, B, N, S⟩ → B.map boolc = n1 → N.map i64c = n2 → S.map strc = n3 → PCall Try.prog 35 [.agg [.int .i64 a, .sl n1, .sl n2, .sl n3]] fun r => r = [.sl ((valuesM ⟨a, B, N, S⟩).map Val.cells)] := fun a B N S n1 n2 n3 hx h1 h2 h3 => rvalues_c a B N S n1 n2 n3 h1 h2 h3 (hn _ (List.mem_of_getElem? hx))
  have hcol : ∀ {a B N S} {n1 : List (List PV)}, cols[k.toNat]? = some ⟨a, B, N, S⟩ → B.map boolc = n1 → n1.length = B.length ∧ B.length ≤ 1048577 := by
    intro a B N S n1 hx h1
    exact ⟨by rw [← h1]; simp, hn _ (List.mem_of_getElem? hx)⟩
  have bad1 : ∀ {a B N S}, cols[k.toNat]? = some ⟨a, B, N, S⟩ → goodV ⟨a, B, N, S⟩ = false → tableM cols = ([], 1) := by
    intro a B N S hx hg
    have := tok_at hx (by simp [okCol, hg])
    simp [tableM, this]
  have bad2 : ∀ {a B N S}, cols[k.toNat]? = some ⟨a, B, N, S⟩ → ¬ B.length = m0 → tableM cols = ([], 1) := by
    intro a B N S hx hg
    have := tok_at hx (by simp [okCol, hm0, hg])
    simp [tableM, this]
  have hm00 : ∀ {a B N S}, cols[Int.toNat 0]? = some ⟨a, B, N, S⟩ → m0 = B.length := by
    intro a B N S hx; rw [← hm0]; exact len0_at hx
  repeat' (first
    | (with_reducible refine Nm.mk ?_; intro z hz)
    | (with_reducible refine IfB.mk ?_ ?_ <;> (intro h; cases h))
    | (with_reducible refine Two.l ?_; refine Asm.mk ?_ ?_; focus (decide +kernel))
    | (with_reducible refine Two.r ?_)
    | (with_reducible refine Asm.mk ?_ ?_; focus (first | exact ⟨rfl, hlsl.symm⟩ | kernel_rfl))
    | (with_reducible refine isCP hcp ?_; first | (refine bP hcp (hgd _ _ _ _ _ _ _ (by assumption) (by assumption) (by assumption)) ?_; intro z hz) | (refine lP hcp (hvl _ _ _ _ _ _ _ (by assumption) (by assumption) (by assumption) (by assumption)) ?_; intro z hz))
    | (with_reducible refine isCC hcc ?_; first | (refine bA hcc (hgd _ _ _ _ _ _ _ (by assumption) (by assumption) (by assumption)) rfl ?_; intro z hz) | (refine lA hcc (hvl _ _ _ _ _ _ _ (by assumption) (by assumption) (by assumption) (by assumption)) rfl ?_; intro z hz))
    | (with_reducible refine IxV hL hk0 (hkl (by assumption)) ?_; intro a B N S n1 n2 n3 hx h1 h2 h3)
    | (with_reducible refine IxV hL (by decide) (h0l (by assumption)) ?_; intro a0 B0 N0 S0 m1 m2 m3 hx0 g1 g2 g3)
    | (with_reducible refine Asm.mk2 ?_ ?_)
    | ((fail_if_success (with_reducible first | refine hQ _ ?_ | refine Side.mk ?_ | refine isCP hcp ?_ | refine isCC hcc ?_ | refine isLP hlp ?_ | refine Ix.mk ?_ | refine SIx.mk ?_ | refine SEx.mk ?_ | refine EIx.mk ?_ | refine RIx.mk ?_ | show False | refine hR ?_ _ ?_ ?_ ?_ ?_ ?_ | refine hR2 ?_ _ ?_ ?_ ?_ ?_ ?_)); cbv))
  all_goals (try simp only [nc] at *)
  all_goals (try simp only [nc'] at *)
  · refine hQ _ ?_
    have hg : goodV ⟨a, B, N, S⟩ = false := by
      have h2 : goodV ⟨a, B, N, S⟩ = z := by assumption
      rw [h2]; simpa using hz
    rw [bad1 hx hg]; rfl
  · refine hQ _ ?_
    rw [bad2 hx (fun h => ?_)]
    · rfl
    · have := hm00 hx0
      obtain ⟨q1, _⟩ := hcol hx h1
      have q2 : m1.length = B0.length := by rw [← g1]; simp
      simp at hz
      omega
  · rename_i zL hzL
    have hgood : goodV ⟨a, B, N, S⟩ = true := by
      have q : ∀ {w : Bool}, goodV ⟨a, B, N, S⟩ = w → (!w) = false → goodV ⟨a, B, N, S⟩ = true := by intro w h h'; rw [h]; simpa using h'
      exact q (by assumption) (by assumption)
    have hBm : B.length = m0 := by
      have hee := not_dec (by assumption)
      have := hm00 hx0
      obtain ⟨q1, _⟩ := hcol hx h1
      have q2 : m1.length = B0.length := by rw [← g1]; simp
      omega
    have hvM : valuesM ⟨a, B, N, S⟩ = (List.range m0).map (atV a B N S) := by rw [valuesM, if_pos hgood]; show (List.range B.length).map _ = _; rw [hBm]
    rw [hvM] at hzL
    have hz1 : z = (m0 : Int) := by rw [← hz, ← hzL]; simp
    have hmb : m0 ≤ 1048577 := by have := (hcol hx h1).2; omega
    have hkz2 : decide (k < z0) = true := by assumption
    have hkc := hkl hkz2
    clear hgd hvl bad1 bad2
    have hx0k := hx
    clear hz
    generalize z = zi at *
    refine loopT (ι := Int × Nat × Nat × Nat × List (List (List PV))) mixed tt_ok hcp hcc hlp [0, 5, 9, 10, 11, 31, 32] (fun p => [(4, .rvec 0 p.2.1 p.2.2.2.1), (33, .p (.int .i64 p.1))]) (fun p => [.rvec p.2.1 p.2.2.1 p.2.2.2.2 3, .cells [.p (.int .i64 a), .p (.sl n1), .p (.sl n2), .p (.sl n3)]])
      (fun p => (0 ≤ p.1 ∧ p.1 ≤ zi) ∧ nrow k.toNat p.1.toNat m0 = p.2.2.2.1 ∧ rowsAt cols p.2.2.2.1 k.toNat p.1.toNat = p.2.2.2.2) (fun p => (zi - p.1).toNat) (0, _, _, nr, ls) 2 (fun _ => rfl) ⟨⟨by omega, by omega⟩, hnr, hls⟩ ⟨rfl, rfl, trivial⟩ rfl ?_
    rintro R2 ⟨i, g2, j2, n2r, l2⟩ ⟨⟨hi0, hi1⟩, hn2, hl2⟩ hR2
    replace hi0 : 0 ≤ i := hi0
    replace hi1 : i ≤ zi := hi1
    replace hn2 : nrow k.toNat i.toNat m0 = n2r := hn2
    replace hl2 : rowsAt cols n2r k.toNat i.toNat = l2 := hl2
    have hll : l2.length = n2r := by rw [← hl2]; exact rowsAt_len _ _ _ _
    have hil : decide (i < zi) = true → i < ((List.range m0).map (atV a B N S)).length := by simp only [decide_eq_true_eq, List.length_map, List.length_range]; omega
    obtain ⟨l0, hl0⟩ : ∃ l, (cols.take k.toNat).map (fun c => cellAt c i.toNat) = l := ⟨_, rfl⟩
    have hok3 : okEs 3 l0 = true := by rw [← hl0]; exact List.all_eq_true.2 fun e he => by obtain ⟨c, _, rfl⟩ := List.mem_map.1 he; rfl
    have hl0n : l0.length ≤ 2000000000000 := by rw [← hl0, List.length_map, List.length_take]; omega
    have hrowA : ∀ q, i.toNat = q → decide (i < zi) = true → decide (k = 0) = false → l2[q]? = some l0 := by
      rintro q rfl h h0
      simp only [decide_eq_true_eq] at h
      simp only [decide_eq_false_iff_not] at h0
      have : n2r = m0 := by rw [← hn2, nrow, if_neg (by omega)]
      rw [← hl2, rowsAt_get cols k.toNat i.toNat (by omega), if_neg (by omega), hl0]
    have hrowB : ∀ q LS, i.toNat = q → l2 ++ List.replicate 1 [] = LS → decide (i < zi) = true → decide (k = 0) = true → LS[q]? = some l0 := by
      rintro q LS rfl rfl h h0
      simp only [decide_eq_true_eq] at h h0
      have : n2r = i.toNat := by rw [← hn2, nrow, if_pos (by omega)]
      rw [List.getElem?_append_right (by omega), ← hl0, h0, hll, this]
      simp
    have hnF : decide (i < zi) = true → decide (k = 0) = false → i < (n2r : Int) := by
      intro h h0
      simp only [decide_eq_true_eq] at h
      simp only [decide_eq_false_iff_not] at h0
      have : n2r = m0 := by rw [← hn2, nrow, if_neg (by omega)]
      omega
    have hnE : decide (k = 0) = true → n2r = i.toNat := by
      intro h0
      simp only [decide_eq_true_eq] at h0
      rw [← hn2, nrow, if_pos (by omega)]
    have hpb : decide (i < zi) = true → decide (k = 0) = true → n2r + 1 ≤ 1048577 := by
      intro h h0
      have := hnE h0
      simp only [decide_eq_true_eq] at h
      omega
    have hnT : ∀ {q : Nat}, n2r + 1 = q → decide (k = 0) = true → i < (q : Int) := by
      rintro q rfl h0
      have := hnE h0
      omega
    have hstA : ∀ {z1 z2 : Nat} {L1 : List (List PV)} {LS : List (List (List PV))}, i.toNat = z1 → i.toNat = z2 → l2.set z1 L1 = LS → decide (i < zi) = true → decide (k = 0) = false → z1 = z2 ∧ z1 = z2 ∧ z2 < LS.length := by
      rintro z1 z2 L1 LS rfl rfl rfl h h0
      have := hnF h h0
      rw [List.length_set]
      exact ⟨rfl, rfl, by omega⟩
    have hstB : ∀ {z1 z2 : Nat} {L1 : List (List PV)} {l3 LS : List (List (List PV))}, i.toNat = z1 → i.toNat = z2 → l2 ++ List.replicate 1 [] = l3 → l3.set z1 L1 = LS → decide (k = 0) = true → z1 = z2 ∧ z1 = z2 ∧ z2 < LS.length := by
      rintro z1 z2 L1 l3 LS rfl rfl rfl rfl h0
      have := hnE h0
      rw [List.length_set, List.length_append, List.length_replicate]
      exact ⟨rfl, rfl, by omega⟩
    repeat' (first
      | (with_reducible refine Nm.mk ?_; intro z hz)
      | (with_reducible refine IfB.mk ?_ ?_ <;> (intro h; cases h))
      | (with_reducible refine Two.l ?_; refine Asm.mk ?_ ?_; focus (decide +kernel))
      | (with_reducible refine Two.r ?_)
      | (with_reducible refine Asm.mk ?_ ?_; focus (first | rfl | exact ⟨hi0, hnF (by assumption) (by assumption)⟩ | exact ⟨hi0, hnT (by assumption) (by assumption)⟩ | exact ⟨rfl, rfl, hstA (by assumption) (by assumption) (by assumption) (by assumption) (by assumption)⟩ | exact ⟨rfl, rfl, hstB (by assumption) (by assumption) (by assumption) (by assumption) (by assumption)⟩ | (refine ⟨rfl, rfl, hrowA _ (by assumption) (by assumption) (by assumption), hok3, rfl, ?_, ?_⟩ <;> (clear hR hR2 hQ; simp only [List.length_cons, List.length_nil, maxLen]; omega)) | (refine ⟨rfl, rfl, hrowB _ _ (by assumption) (by assumption) (by assumption) (by assumption), hok3, rfl, ?_, ?_⟩ <;> (clear hR hR2 hQ; simp only [List.length_cons, List.length_nil, maxLen]; omega)) | (refine ⟨rfl, hll.symm, by omega, ?_, ?_⟩ <;> (have := hpb (by assumption) (by assumption); clear hR hR2 hQ; simp only [maxLen]; omega)) | (show (_ : Bool) = true; kernel_rfl)))
      | (with_reducible refine Ix.map hzL cells_len (by decide) hi0 (hil (by assumption)) ?_; intro x hx)
      | (with_reducible refine RIx.at_ l0 (hrowA _ (by assumption) (by assumption) (by assumption)) ?_)
      | (with_reducible refine RIx.at_ l0 (hrowB _ _ (by assumption) (by assumption) (by assumption) (by assumption)) ?_)
      | (with_reducible refine Asm.mk2 ?_ ?_)
      | ((fail_if_success (with_reducible first | refine hQ _ ?_ | refine Side.mk ?_ | refine isCP hcp ?_ | refine isCC hcc ?_ | refine isLP hlp ?_ | refine Ix.mk ?_ | refine SIx.mk ?_ | refine SEx.mk ?_ | refine EIx.mk ?_ | refine RIx.mk ?_ | show False | refine hR ?_ _ ?_ ?_ ?_ ?_ ?_ | refine hR2 ?_ _ ?_ ?_ ?_ ?_ ?_)); cbv))
    all_goals (try simp only [nc] at *)
    all_goals (try simp only [nc'] at *)
    · have := hpb (by assumption) (by assumption)
      refine ⟨?_⟩
      refine ⟨trivial, hll.symm, by omega, ?_, ?_⟩ <;> (first | omega | (simp only [maxLen]; omega))
    · have hlt : decide (i < zi) = true := by assumption
      have h0 : decide (k = 0) = true := by assumption
      have hw : IntKind.i64.wrap (i + 1) = i + 1 := by simp only [decide_eq_true_eq] at hlt; exact wrap_in (by omega)
      rw [hw] at hz
      subst hz
      have hx2 : cellAt ⟨a, B, N, S⟩ i.toNat = [PV.int IntKind.i64 x.k, PV.int IntKind.i64 x.n, PV.str x.s] := by
        simp only [decide_eq_true_eq] at hlt
        rw [List.getElem?_map, List.getElem?_range (by omega)] at hx
        simp only [Option.map_some, Option.some.injEq] at hx
        rw [← hx]; rfl
      rename_i zg hzg zj hzj zn hzn zp hzp zr hzr zj2 hzj2 zl hzl zs hzs
      have hrw := hrowB _ _ hzr hzp hlt h0
      have hne := hnE h0
      simp only [decide_eq_true_eq] at hlt h0
      refine hR2 (i + 1, _, _, _, _) _ ⟨⟨by show 0 ≤ i + 1; omega, by show i + 1 ≤ zi; omega⟩, ?_, ?_⟩ (by show (zi - (i + 1)).toNat < (zi - i).toNat; omega) ⟨rfl, rfl, trivial⟩ ⟨rfl, rfl, rfl, rfl, rfl, rfl, rfl, trivial⟩ rfl
      · show nrow k.toNat (i + 1).toNat m0 = zn
        rw [nrow, if_pos (by omega)]; omega
      · show rowsAt cols zn k.toNat (i + 1).toNat = zs
        have hpu : rowsAt cols zn k.toNat i.toNat = zp := by
          rw [← hzp, ← hl2, ← hzn, hne, show k.toNat = 0 by omega]; exact rowsAt_push cols i.toNat
        rw [← hzs, ← hzl, ← hzr, show (i + 1).toNat = i.toNat + 1 by omega, ← hx2, ← rowsAt_step (by omega) hx0k (by rw [hpu, hzr]; exact hrw), hpu]
    · have hlt : decide (i < zi) = true := by assumption
      have h0 : decide (k = 0) = false := by assumption
      have hw : IntKind.i64.wrap (i + 1) = i + 1 := by simp only [decide_eq_true_eq] at hlt; exact wrap_in (by omega)
      rw [hw] at hz
      subst hz
      have hx2 : cellAt ⟨a, B, N, S⟩ i.toNat = [PV.int IntKind.i64 x.k, PV.int IntKind.i64 x.n, PV.str x.s] := by
        simp only [decide_eq_true_eq] at hlt
        rw [List.getElem?_map, List.getElem?_range (by omega)] at hx
        simp only [Option.map_some, Option.some.injEq] at hx
        rw [← hx]; rfl
      rename_i zr hzr zj2 hzj2 zl hzl zs hzs
      have hrw := hrowA _ hzr hlt h0
      have hnf := hnF hlt h0
      simp only [decide_eq_true_eq] at hlt
      simp only [decide_eq_false_iff_not] at h0
      refine hR2 (i + 1, _, _, _, _) _ ⟨⟨by show 0 ≤ i + 1; omega, by show i + 1 ≤ zi; omega⟩, ?_, ?_⟩ (by show (zi - (i + 1)).toNat < (zi - i).toNat; omega) ⟨rfl, rfl, trivial⟩ ⟨rfl, rfl, rfl, rfl, rfl, rfl, rfl, trivial⟩ rfl
      · show nrow k.toNat (i + 1).toNat m0 = n2r
        rw [← hn2, nrow, nrow, if_neg (by omega), if_neg (by omega)]
      · show rowsAt cols n2r k.toNat (i + 1).toNat = zs
        rw [← hzs, ← hzl, ← hzr, show (i + 1).toNat = i.toNat + 1 by omega, ← hx2, ← rowsAt_step (by omega) hx0k (by rw [hl2, hzr]; exact hrw), hl2]
    · have hge : decide (i < zi) = false := by assumption
      have hw := hstep hkz2
      rw [hw] at hz
      subst hz
      simp only [decide_eq_false_iff_not] at hge
      simp only [decide_eq_true_eq] at hkz2
      have hie : i.toNat = m0 := by omega
      have hn2m : n2r = m0 := by rw [← hn2, nrow]; split <;> omega
      have hoks : ∀ (j : Nat) c, j < (k + 1).toNat → cols[j]? = some c → okCol m0 c = true := by
        intro j c hj hc
        by_cases h : j < k.toNat
        · exact hok j c h hc
        · have : j = k.toNat := by omega
          subst this
          rw [hx0k] at hc
          cases hc
          simp [okCol, hgood, hBm]
      refine hR (k + 1, _, _, _, _) _ ⟨⟨by show 0 ≤ k + 1; omega, by show k + 1 ≤ z0; omega⟩, ?_, ?_, hoks⟩ (by show (z0 - (k + 1)).toNat < (z0 - k).toNat; omega) ⟨rfl, rfl, trivial⟩ ⟨rfl, rfl, rfl, trivial⟩ rfl
      · show nrow (k + 1).toNat 0 m0 = n2r
        rw [nrow, if_neg (by omega), hn2m]
      · show rowsAt cols n2r (k + 1).toNat 0 = l2
        rw [show (k + 1).toNat = k.toNat + 1 by omega, hn2m, ← rowsAt_end, ← hl2, hie, hn2m]
  · refine hQ _ ?_
    have hge : decide (k < z0) = false := by assumption
    simp only [decide_eq_false_iff_not] at hge
    have htok : tokM cols = true := tok_up fun j c hj => by
      rw [hm0]
      exact hok j c (by have := (List.getElem?_eq_some_iff.1 hj).1; omega) hj
    have hnn : nr = m0 := by
      by_cases h0 : k = 0
      · have hnil : cols = [] := List.length_eq_zero_iff.1 (by omega)
        rw [← hnr, ← hm0, hnil, nrow, h0]; rfl
      · rw [← hnr, nrow, if_neg (by omega)]
    have hT : tableM cols = (ls, 0) := by
      rw [tableM, htok, if_pos rfl, hm0, ← hls, hnn, show k.toNat = cols.length by omega]
    rw [hT, ← hz]; rfl
end Go.Proofs.Ytnhmnfokbinplaa

namespace Go.Proofs.Ytnhmnfokbinplaa
open Go Go.RowKit
set_option maxRecDepth 100000
set_option linter.unusedSimpArgs false
set_option linter.unusedVariables false

theorem ref_run {e : Ex} {cols : List Vec} (hov : ∀ v, v ∈ cols → okVec v) (ho : e.okc) (hk : (kindM (kindsC cols) e).2 = 0) (i : Nat) (R : List (List PV)) (hR : (rowF cols i).map Val.cells = R) :
    PCall Try.prog 134 [.agg e.cells, .sl R] fun r => r = [(evalE (colF cols i) e).enc] := by
  obtain ⟨hb, _⟩ := kind_ok hk
  have := reval_all (rowF cols i) R hR (rowOk_rowF hov i) _ e (Nat.le_refl _) (good_of_built hb) ho
  rw [EvalC, colOf_rowF] at this
  exact this
theorem okCols_tok {cols : List Vec} {n : Int} (h : okCols cols n = true) : tokM cols = true ∧ (cols ≠ [] → (len0 cols : Int) = n) := by
  have hall : ∀ c, c ∈ cols → goodV c = true ∧ (c.null.length : Int) = n := by
    intro c hc
    have := List.all_eq_true.1 h c hc
    rw [Bool.and_eq_true, decide_eq_true_eq] at this
    exact this
  cases cols with
  | nil => exact ⟨rfl, fun h => absurd rfl h⟩
  | cons a r =>
    have h0 := (hall a (by simp)).2
    refine ⟨List.all_eq_true.2 fun c hc => ?_, fun _ => h0⟩
    have h1 := hall c hc
    rw [okCol, h1.1, Bool.true_and, decide_eq_true_eq]
    show c.null.length = a.null.length
    omega
theorem rowsP_len {cols : List Vec} {n : Int} (h : okCols cols n = true) : (rowsP (tableM cols).1).length = len0 cols := by
  rw [tableM, if_pos (okCols_tok h).1]
  simp [rowsP, rowsAt]
theorem rowsP_get {cols : List Vec} {n : Int} (h : okCols cols n = true) {i : Nat} (hi : i < len0 cols) : (rowsP (tableM cols).1)[i]? = some [.sl ((rowF cols i).map Val.cells)] := by
  rw [tableM, if_pos (okCols_tok h).1, rowsP, List.getElem?_map]
  show Option.map _ ((rowsAt cols (len0 cols) cols.length 0)[i]?) = _
  rw [rowsAt_get cols _ _ hi, if_neg (Nat.not_lt_zero i), List.take_length]
  simp only [Option.map_some, rowF, List.map_map]; rfl

set_option maxHeartbeats 4000000 in
theorem rover_c (cols : List Vec) (L : List (List PV)) (hL : cols.map Vec.cells = L) (hcl : cols.length ≤ 2000000000000) (hov : ∀ v, v ∈ cols → okVec v) (n : Int) (op m vk vn : Int) (vs : ByteArray) (ar : List Ex) (es : List (List PV)) (hes : ar.map Ex.cells = es) (hw : (Ex.mk op m ⟨vk, vn, vs⟩ ar).wide) (ho : (Ex.mk op m ⟨vk, vn, vs⟩ ar).okc) (A : Vec) (E : Int) (hM : overM (.mk op m ⟨vk, vn, vs⟩ ar) cols n = (A, E)) :
    PCall Try.prog 69 [.agg [.int .i64 op, .int .i64 m, .int .i64 vk, .int .i64 vn, .str vs, .sl es], .sl L, .int .i64 n] fun r => r = [A.enc, .int .i64 E] := by
  have b1 : L.length = cols.length := by rw [← hL]; simp
  have hkd0 : ∀ C, (kindsC cols).map i64c = C → _ := fun C hC => rkind_c (kindsC cols) C hC op m vk vn vs ar es hes hw
  obtain ⟨e, he⟩ : ∃ e, Ex.mk op m ⟨vk, vn, vs⟩ ar = e := ⟨_, rfl⟩
  have hce : e.cells = [.int .i64 op, .int .i64 m, .int .i64 vk, .int .i64 vn, .str vs, .sl es] := by rw [← he, cells_mk, hes]
  rw [he] at ho hM hkd0
  obtain ⟨⟨kk, ff⟩, hkm⟩ : ∃ p, kindM (kindsC cols) e = p := ⟨_, rfl⟩
  rw [hkm] at hkd0
  have hkd : ∀ C, (kindsC cols).map i64c = C → PCall Try.prog 112 [.agg [.int .i64 op, .int .i64 m, .int .i64 vk, .int .i64 vn, .str vs, .sl es], .sl C] fun r => r = [.int .i64 kk, .int .i64 ff] := hkd0
  clear hkd0
  have hrun : ff = 0 → ∀ (i : Nat) R, (rowF cols i).map Val.cells = R → PCall Try.prog 134 [.agg [.int .i64 op, .int .i64 m, .int .i64 vk, .int .i64 vn, .str vs, .sl es], .sl R] fun r => r = [(evalE (colF cols i) e).enc] := by
    intro h0 i R hR
    have := ref_run hov ho (by rw [hkm]; exact h0) i R hR
    rw [hce] at this
    exact this
  rw [overM, hkm] at hM
  have ex1 : n < 0 ∨ 4096 < n → A = Vec.zero ∧ E = 1 := by
    intro h; rw [if_pos h] at hM; simp only [Prod.mk.injEq] at hM; exact ⟨hM.1.symm, hM.2.symm⟩
  have ex2 : 0 ≤ n ∧ n ≤ 4096 → okCols cols n = false → A = Vec.zero ∧ E = 1 := by
    intro h h2; rw [if_neg (by omega), if_pos h2] at hM; simp only [Prod.mk.injEq] at hM; exact ⟨hM.1.symm, hM.2.symm⟩
  have ex3 : 0 ≤ n ∧ n ≤ 4096 → okCols cols n = true → ¬ ff = 0 → A = Vec.zero ∧ E = ff := by
    intro h h2 h3; rw [if_neg (by omega), if_neg (by rw [h2]; decide), if_pos h3] at hM; simp only [Prod.mk.injEq] at hM; exact ⟨hM.1.symm, hM.2.symm⟩
  have ex4 : 0 ≤ n ∧ n ≤ 4096 → okCols cols n = true → ff = 0 → A = (vfrom (mx kk 1) (overVals e cols n.toNat)).1 ∧ E = 0 := by
    intro h h2 h3; rw [if_neg (by omega), if_neg (by rw [h2]; decide), if_neg (by omega)] at hM; simp only [Prod.mk.injEq] at hM; exact ⟨hM.1.symm, hM.2.symm⟩
  clear hM
  refine PCall.x (nt := 92) (res := [.cell 6 34, .tmp 7]) mixed tt_ok [] Try.func69 rfl rfl rfl c69 (Nat.le_of_ble_eq_true rfl) ?_
  intro cp cc lp Q' hcp hcc hlp hQ
  repeat' (first
    | (with_reducible refine Nm.mk ?_; intro z hz)
    | (with_reducible refine IfB.mk ?_ ?_ <;> (intro h; cases h))
    | (with_reducible refine Two.l ?_; refine Asm.mk ?_ ?_; focus (decide +kernel))
    | (with_reducible refine Two.r ?_)
    | (with_reducible refine Asm.mk ?_ ?_; focus (first | kernel_rfl | decide))
    | (with_reducible refine Asm.mk2 ?_ ?_)
    | ((fail_if_success (with_reducible first | refine hQ _ ?_ | refine Side.mk ?_ | refine isCP hcp ?_ | refine isCC hcc ?_ | refine isLP hlp ?_ | refine Ix.mk ?_ | refine SIx.mk ?_ | refine SEx.mk ?_ | refine EIx.mk ?_ | refine RIx.mk ?_ | show False | refine hR ?_ _ ?_ ?_ ?_ ?_ ?_ | refine hR2 ?_ _ ?_ ?_ ?_ ?_ ?_)); cbv))
  · obtain ⟨rfl, rfl⟩ := ex1 (.inl (of_decide_eq_true (by assumption)))
    exact hQ _ rfl
  · obtain ⟨rfl, rfl⟩ := ex1 (.inr (of_decide_eq_true (by assumption)))
    exact hQ _ rfl
  have hnb : 0 ≤ n ∧ n ≤ 4096 := by
    have h1 : decide (n < 0) = false := by assumption
    have h2 : decide (4096 < n) = false := by assumption
    simp only [decide_eq_false_iff_not] at h1 h2
    omega
  replace ex2 := ex2 hnb
  replace ex3 := ex3 hnb
  replace ex4 := ex4 hnb
  clear ex1
  simp only [nc] at hz
  simp only [nc'] at hz
  have hzl := lenZ (n := cols.length) b1 hz
  clear hz
  generalize z = zl at *
  have hac : okCols cols n = true → PCall Try.prog 26 [.sl L] fun r => r = [.sl (rowsP (tableM cols).1), .int .i64 (tableM cols).2] := fun h => across_c cols L hL (fun c hc => by
    have := List.all_eq_true.1 h c hc
    rw [Bool.and_eq_true, decide_eq_true_eq] at this
    omega) hcl
  obtain ⟨RL, hRL⟩ : ∃ l, rowsP (tableM cols).1 = l := ⟨_, rfl⟩
  obtain ⟨re, hre⟩ : ∃ l, (tableM cols).2 = l := ⟨_, rfl⟩
  rw [hRL, hre] at hac
  refine mintT hlp 1 8 rfl ?_
  refine loopT (ι := Int × List (List PV) × Nat) mixed tt_ok hcp hcc hlp [1, 2, 3, 6, 27, 28] (fun p => [(8, .tok 2 p.2.1), (29, .p (.int .i64 p.1))])
    (fun p => [.cells [.p (.int .i64 op), .p (.int .i64 m), .p (.int .i64 vk), .p (.int .i64 vn), .p (.str vs), .p (.sl es)], .cells [.p (.int .i64 0), .full [], .full [], .full []], .spare p.2.2 1])
    (fun p => Rng cols.length zl p.1 ∧ (kindsC (cols.take p.1.toNat)).map i64c = p.2.1 ∧ p.2.1.length = p.2.2 ∧ okCols (cols.take p.1.toNat) n = true) (fun p => (zl - p.1).toNat)
    (0, [], 0) 3 (fun _ => rfl) ⟨Rng.start hzl (by omega), rfl, rfl, rfl⟩ ⟨rfl, rfl, trivial⟩ rfl ?_
  rintro R ⟨i, KL, k1⟩ ⟨rg, hKL, hk1, hok⟩ hR
  replace rg : Rng cols.length zl i := rg
  replace hKL : (kindsC (cols.take i.toNat)).map i64c = KL := hKL
  replace hk1 : KL.length = k1 := hk1
  replace hok : okCols (cols.take i.toNat) n = true := hok
  have ok1 : okEs 1 KL = true := by rw [← hKL]; exact okEs_i64 _
  have hlen : KL.length ≤ 2000000000000 := by
    rw [← hKL]; simp only [kindsC, List.length_map, List.length_take]; omega
  have sd1 : KL.length + 1 ≤ maxLen ∧ (KL.length + 1) * 8 ≤ 140737488355328 := by rw [maxLen_eq]; omega
  have hgd : ∀ a B N S n1 n2 n3, B.map boolc = n1 → N.map i64c = n2 → S.map strc = n3 → PCall Try.prog 34 [.agg [.int .i64 a, .sl n1, .sl n2, .sl n3]] fun r => r = [.bool (goodV ⟨a, B, N, S⟩)] := fun a B N S n1 n2 n3 h1 h2 h3 => rgood_c a B N S n1 n2 n3 h1 h2 h3
  have hend : decide (i < zl) = false → cols.take i.toNat = cols := fun h => by rw [List.take_of_length_le (by have := rg.stop h; omega)]
  have hke : decide (i < zl) = false → PCall Try.prog 112 [.agg [.int .i64 op, .int .i64 m, .int .i64 vk, .int .i64 vn, .str vs, .sl es], .sl KL] fun r => r = [.int .i64 kk, .int .i64 ff] := fun h => hkd KL (by rw [← hKL, hend h])
  have hac2 : decide (i < zl) = false → PCall Try.prog 26 [.sl L] fun r => r = [.sl RL, .int .i64 re] := fun h => hac (by rw [← hend h]; exact hok)
  repeat' (first
    | (with_reducible refine Nm.mk ?_; intro z hz)
    | (with_reducible refine IfB.mk ?_ ?_ <;> (intro h; cases h))
    | (with_reducible refine Two.l ?_; refine Asm.mk ?_ ?_; focus (decide +kernel))
    | (with_reducible refine Two.r ?_)
    | (with_reducible refine Asm.mk ?_ ?_; focus kernel_rfl)
    | (with_reducible refine isCP hcp ?_; first | (refine bP hcp (hgd _ _ _ _ _ _ _ (by assumption) (by assumption) (by assumption)) ?_; intro z hz) | (refine xP hcp (hke (by assumption)) ?_; skip) | (refine xP hcp (hac2 (by assumption)) ?_; skip))
    | (with_reducible refine isCC hcc ?_; first | (refine bA hcc (hgd _ _ _ _ _ _ _ (by assumption) (by assumption) (by assumption)) rfl ?_; intro z hz) | (refine xA hcc (hke (by assumption)) rfl ?_; skip) | (refine xA hcc (hac2 (by assumption)) rfl ?_; skip))
    | (with_reducible refine IxV hL rg.lo (rg.lt (by assumption)) ?_; intro a B N S n1 n2 n3 hx h1 h2 h3)
    | (with_reducible refine Asm.mk2 ?_ ?_)
    | ((fail_if_success (with_reducible first | refine hQ _ ?_ | refine Side.mk ?_ | refine isCP hcp ?_ | refine isCC hcc ?_ | refine isLP hlp ?_ | refine Ix.mk ?_ | refine SIx.mk ?_ | refine SEx.mk ?_ | refine EIx.mk ?_ | refine RIx.mk ?_ | show False | refine hR ?_ _ ?_ ?_ ?_ ?_ ?_ | refine hR2 ?_ _ ?_ ?_ ?_ ?_ ?_)); cbv))
  · have hg : goodV ⟨a, B, N, S⟩ = false := by
      have h2 : goodV ⟨a, B, N, S⟩ = z := by assumption
      rw [h2]; simpa using hz
    obtain ⟨rfl, rfl⟩ := ex2 (okCols_at hx (.inl hg))
    exact hQ _ rfl
  · have hln : ¬ ((B.length : Int) = n) := by
      have h6 : n1.length = B.length := by rw [← h1]; simp
      have h7 : (n1.length : Int) = z := by assumption
      simp only [nc] at h7
      simp only [nc'] at h7
      have h8 : ¬ z = n := by simpa using hz
      omega
    obtain ⟨rfl, rfl⟩ := ex2 (okCols_at hx (.inr hln))
    exact hQ _ rfl
  · exact Side.mk ⟨hk1.symm, rfl, ok1, rfl, sd1.1, sd1.2⟩
  · rename_i hlt zg hzg hgn zl2 hzl2 hln KL2 hKL2 k12 hk12
    have hg : goodV ⟨a, B, N, S⟩ = true := by
      rw [hzg]; simpa using hgn
    have hlen2 : (B.length : Int) = n := by
      have h6 : n1.length = B.length := by rw [← h1]; simp
      have h8 : zl2 = n := by simpa using hln
      simp only [nc] at hzl2
      simp only [nc'] at hzl2
      omega
    have e1 : (i + 1).toNat = i.toNat + 1 := rg.toNat
    rw [rg.wrap hlt] at hz
    refine hR (i + 1, KL2, k12) _ ⟨rg.next hlt, ?_, ?_, ?_⟩ (rg.less hlt) ⟨rfl, hz ▸ rfl, trivial⟩ ⟨rfl, rfl, rfl, rfl, rfl, rfl, trivial⟩ rfl
    · show (kindsC (cols.take (i + 1).toNat)).map i64c = KL2
      rw [e1, takeC hx, kindsC, List.map_append, List.map_append, ← hKL2, ← hKL]; rfl
    · show KL2.length = k12
      rw [← hKL2, ← hk12, List.length_append]
    · show okCols (cols.take (i + 1).toNat) n = true
      rw [e1]; exact okCols_take hok hx hg hlen2
  · have hge : decide (i < zl) = false := by assumption
    obtain ⟨rfl, rfl⟩ := ex3 (by rw [← hend hge]; exact hok) (by simpa using hz)
    exact hQ _ rfl
  rename_i hge
  have hok2 : okCols cols n = true := by rw [← hend hge]; exact hok
  have hff0 : ff = 0 := by simpa using hz
  have hrun2 := hrun hff0
  obtain ⟨hA, hE⟩ := ex4 hok2 hff0
  obtain ⟨mN, hmN⟩ : ∃ k, n.toNat = k := ⟨_, rfl⟩
  obtain ⟨OV, hOV⟩ : ∃ l, overVals e cols mN = l := ⟨_, rfl⟩
  rw [hmN, hOV] at hA
  obtain ⟨OC, hOC⟩ : ∃ l, OV.map Val.cells = l := ⟨_, rfl⟩
  have hOl : OV.length * 32 ≤ 140737488351232 := by rw [← hOV, overVals_len]; omega
  have hzm : n.toNat = mN ∧ 0 ≤ n := by omega
  have hnn : (len0 cols : Int) = n ∨ cols = [] := by
    by_cases h : cols = []
    · exact .inr h
    · exact .inl ((okCols_tok hok2).2 h)
  have hRLl : RL.length = len0 cols := by rw [← hRL]; exact rowsP_len hok2
  have hget : ∀ i : Nat, i < len0 cols → RL[i]? = some [.sl ((rowF cols i).map Val.cells)] := fun i h => by rw [← hRL]; exact rowsP_get hok2 h
  clear hke hkd hgd hac hac2 rg hR hrun ex2 ex3 ex4 hKL ok1 sd1 hlen hok hend hge hz hRL hre
  refine mintT hlp 3 15 rfl ?_
  refine loopT (ι := Int × List (List PV) × Nat) mixed tt_ok hcp hcc hlp [2, 3, 6, 11, 13] (fun p => [(15, .tok 3 p.2.1), (16, .p (.int .i64 p.1))])
    (fun p => [.cells [.p (.int .i64 op), .p (.int .i64 m), .p (.int .i64 vk), .p (.int .i64 vn), .p (.str vs), .p (.sl es)], .cells [.p (.int .i64 0), .full [], .full [], .full []], .spare k1 1, .spare p.2.2 3])
    (fun p => Rng mN n p.1 ∧ (overVals e cols p.1.toNat).map Val.cells = p.2.1 ∧ p.2.1.length = p.2.2) (fun p => (n - p.1).toNat)
    (0, [], 0) 4 (fun _ => rfl) ⟨Rng.start hzm (by omega), rfl, rfl⟩ ⟨rfl, rfl, trivial⟩ rfl ?_
  rintro R ⟨i, OL, o1⟩ ⟨rg, hOL, ho1⟩ hR
  replace rg : Rng mN n i := rg
  replace hOL : (overVals e cols i.toNat).map Val.cells = OL := hOL
  replace ho1 : OL.length = o1 := ho1
  have him : i.toNat ≤ mN := by have := rg.lo; have := rg.hi; have := rg.len; omega
  have hOLl : OL.length ≤ 4096 := by rw [← hOL, List.length_map, overVals_len]; omega
  have ok2 : okEs 3 OL = true := by rw [← hOL]; exact okEs_vals _
  have sd2 : OL.length + 1 ≤ maxLen ∧ (OL.length + 1) * 32 ≤ 140737488355328 := by rw [maxLen_eq]; omega
  obtain ⟨Ri, hRi⟩ : ∃ l, (rowF cols i.toNat).map Val.cells = l := ⟨_, rfl⟩
  have hr1 : ∀ z : Int, (RL.length : Int) = z → decide (i < z) = true → RL[i.toNat]? = some [.sl Ri] := by
    intro z hz h
    have h2 := of_decide_eq_true h
    rw [hget i.toNat (by have := rg.lo; omega), hRi]
  have hev1 := hrun2 i.toNat Ri hRi
  have hev2 : ∀ z : Int, (RL.length : Int) = z → decide (i < z) = false → decide (i < n) = true → PCall Try.prog 134 [.agg [.int .i64 op, .int .i64 m, .int .i64 vk, .int .i64 vn, .str vs, .sl es], .sl []] fun r => r = [(evalE (colF cols i.toNat) e).enc] := by
    intro z hz h h2
    have h3 := of_decide_eq_false h
    have h4 := of_decide_eq_true h2
    refine hrun2 i.toNat [] ?_
    rcases hnn with h5 | h5
    · omega
    · rw [h5]; rfl
  have hfr : ∀ kind, decide (i < n) = false → PCall Try.prog 22 [.int .i64 kind, .sl OL] fun r => r = [(vfrom kind OV).1.enc, .int .i64 (vfrom kind OV).2] := by
    intro kind h
    refine rfrom_c kind OV OL ?_ hOl
    have h2 := of_decide_eq_false h
    rw [← hOV, ← hOL, show i.toNat = mN from by have := rg.stop h; omega]
  repeat' (first
    | (with_reducible refine Nm.mk ?_; intro z hz)
    | (with_reducible refine IfB.mk ?_ ?_ <;> (intro h; cases h))
    | (with_reducible refine Two.l ?_; refine Asm.mk ?_ ?_; focus (decide +kernel))
    | (with_reducible refine Two.r ?_)
    | (with_reducible refine Asm.mk ?_ ?_; focus kernel_rfl)
    | (with_reducible refine isCP hcp ?_; first | (refine vP hcp (hev1) ?_; intro v hv) | (refine vP hcp (hev2 _ (by assumption) (by assumption) (by assumption)) ?_; intro v hv) | (refine veP hcp (hfr _ (by assumption)) ?_; intro a n1 n2 n3 ve ha h1 h2 h3 hve))
    | (with_reducible refine isCC hcc ?_; first | (refine vA hcc (hev1) rfl ?_; intro v hv) | (refine vA hcc (hev2 _ (by assumption) (by assumption) (by assumption)) rfl ?_; intro v hv) | (refine veA hcc (hfr _ (by assumption)) rfl ?_; intro a n1 n2 n3 ve ha h1 h2 h3 hve))
    | (with_reducible refine Ix.giveK rg.lo (hr1 _ (by assumption) (by assumption)) rfl (by decide) ?_)
    | (with_reducible refine Asm.mk2 ?_ ?_)
    | ((fail_if_success (with_reducible first | refine hQ _ ?_ | refine Side.mk ?_ | refine isCP hcp ?_ | refine isCC hcc ?_ | refine isLP hlp ?_ | refine Ix.mk ?_ | refine SIx.mk ?_ | refine SEx.mk ?_ | refine EIx.mk ?_ | refine RIx.mk ?_ | show False | refine hR ?_ _ ?_ ?_ ?_ ?_ ?_ | refine hR2 ?_ _ ?_ ?_ ?_ ?_ ?_)); cbv))
  · exact Side.mk ⟨ho1.symm, rfl, ok2, rfl, sd2.1, sd2.2⟩
  · have hlt : decide (i < n) = true := by assumption
    have hv2 : evalE (colF cols i.toNat) e = v := by assumption
    rename_i OL2 hOL2 o2 ho2
    rw [rg.wrap hlt] at hz
    refine hR (i + 1, OL2, o2) _ ⟨rg.next hlt, ?_, ?_⟩ (rg.less hlt) ⟨rfl, hz ▸ rfl, trivial⟩ ⟨rfl, rfl, rfl, rfl, rfl, trivial⟩ rfl
    · show (overVals e cols (i + 1).toNat).map Val.cells = OL2
      rw [rg.toNat, overVals_step, List.map_append, hOL, ← hOL2, hv2]; rfl
    · show OL2.length = o2
      rw [← hOL2, ← ho2, List.length_append]
  · exact Side.mk ⟨ho1.symm, rfl, ok2, rfl, sd2.1, sd2.2⟩
  · have hlt : decide (i < n) = true := by assumption
    have hv2 : evalE (colF cols i.toNat) e = v := by assumption
    rename_i OL2 hOL2 o2 ho2
    rw [rg.wrap hlt] at hz
    refine hR (i + 1, OL2, o2) _ ⟨rg.next hlt, ?_, ?_⟩ (rg.less hlt) ⟨rfl, hz ▸ rfl, trivial⟩ ⟨rfl, rfl, rfl, rfl, rfl, trivial⟩ rfl
    · show (overVals e cols (i + 1).toNat).map Val.cells = OL2
      rw [rg.toNat, overVals_step, List.map_append, hOL, ← hOL2, hv2]; rfl
    · show OL2.length = o2
      rw [← hOL2, ← ho2, List.length_append]
  · refine hQ _ ?_
    rw [hA, hE, show mx kk 1 = z from by rw [mx]; assumption]
    rw [Vec.enc, ha, h1, h2, h3]
end Go.Proofs.Ytnhmnfokbinplaa

namespace Go.Proofs.Ytnhmnfokbinplaa
open Go Go.RowKit
set_option maxRecDepth 100000
set_option linter.unusedSimpArgs false
set_option linter.unusedVariables false

theorem exprOver_c (cols : List Vec) (L : List (List PV)) (hL : cols.map Vec.cells = L) (hcl : cols.length ≤ 2000000000000) (hov : ∀ v, v ∈ cols → okVec v) (n : Int) (op m vk vn : Int) (vs : ByteArray) (ar : List Ex) (es : List (List PV)) (hes : ar.map Ex.cells = es) (hw : (Ex.mk op m ⟨vk, vn, vs⟩ ar).wide) (ho : (Ex.mk op m ⟨vk, vn, vs⟩ ar).okc) :
    PCall Try.prog 15 [.agg [.int .i64 op, .int .i64 m, .int .i64 vk, .int .i64 vn, .str vs, .sl es], .sl L, .int .i64 n] fun r => r = [.bool true] := by
  obtain ⟨⟨A, E⟩, hM⟩ : ∃ p, overM (.mk op m ⟨vk, vn, vs⟩ ar) cols n = p := ⟨_, rfl⟩
  have h1 := eover_c cols L hL hcl hov n op m vk vn vs ar es hes hw ho A E hM
  have h2 := rover_c cols L hL hcl hov n op m vk vn vs ar es hes hw ho A E hM
  have h3 := num_c E
  obtain ⟨a, B, N, S⟩ := A
  obtain ⟨n1, g1⟩ : ∃ l, B.map boolc = l := ⟨_, rfl⟩
  obtain ⟨n2, g2⟩ : ∃ l, N.map i64c = l := ⟨_, rfl⟩
  obtain ⟨n3, g3⟩ : ∃ l, S.map strc = l := ⟨_, rfl⟩
  rw [Vec.enc, g1, g2, g3] at h1 h2
  have h4 := sameVec_c a B N S n1 n2 n3 g1 g2 g3
  replace h1 : PCall Try.prog 68 [.agg [.int .i64 op, .int .i64 m, .int .i64 vk, .int .i64 vn, .str vs, .sl es], .sl L, .int .i64 n] fun r => r = [.agg [.int .i64 a, .sl n1, .sl n2, .sl n3], .int .i64 E] := h1
  replace h2 : PCall Try.prog 69 [.agg [.int .i64 op, .int .i64 m, .int .i64 vk, .int .i64 vn, .str vs, .sl es], .sl L, .int .i64 n] fun r => r = [.agg [.int .i64 a, .sl n1, .sl n2, .sl n3], .int .i64 E] := h2
  clear hM hL hov hw ho hes
  refine PCall.x (nt := 34) (res := [.tmp 6]) mixed tt_ok [] Try.func15 rfl rfl rfl c15 (Nat.le_of_ble_eq_true rfl) ?_
  intro cp cc lp Q' hcp hcc hlp hQ
  repeat' (first
    | (with_reducible refine Nm.mk ?_; intro z hz)
    | (with_reducible refine IfB.mk ?_ ?_ <;> (intro h; cases h))
    | (with_reducible refine Two.l ?_; refine Asm.mk ?_ ?_; focus (decide +kernel))
    | (with_reducible refine Two.r ?_)
    | (with_reducible refine Asm.mk ?_ ?_; focus (first | kernel_rfl | decide))
    | (with_reducible refine isCP hcp ?_; first | (refine xP hcp (h1) ?_; skip) | (refine xP hcp (h2) ?_; skip) | (refine xP hcp (h3) ?_; skip) | (refine bP hcp (h4) ?_; intro z hz))
    | (with_reducible refine isCC hcc ?_; first | (refine xA hcc (h1) rfl ?_; skip) | (refine xA hcc (h2) rfl ?_; skip) | (refine xA hcc (h3) rfl ?_; skip) | (refine bA hcc (h4) rfl ?_; intro z hz))
    | (with_reducible refine Asm.mk2 ?_ ?_)
    | ((fail_if_success (with_reducible first | refine hQ _ ?_ | refine Side.mk ?_ | refine isCP hcp ?_ | refine isCC hcc ?_ | refine isLP hlp ?_ | refine Ix.mk ?_ | refine SIx.mk ?_ | refine SEx.mk ?_ | refine EIx.mk ?_ | refine RIx.mk ?_ | show False | refine hR ?_ _ ?_ ?_ ?_ ?_ ?_ | refine hR2 ?_ _ ?_ ?_ ?_ ?_ ?_)); cbv))
  all_goals
    (refine hQ _ ?_
     clear hQ h1 h2 h3 h4 hcp hcc hlp
     simp_all)

theorem cells30' : Try.prog.cellsOf 30 = 1 := by kernel_rfl
theorem cells31' : Try.prog.cellsOf 31 = 1 := by kernel_rfl
theorem cells32' : Try.prog.cellsOf 32 = 1 := by kernel_rfl
theorem cells34' : Try.prog.cellsOf 34 = 4 := by kernel_rfl
theorem bytes34 : Try.prog.bytesOf 34 = 80 := by kernel_rfl
theorem lists30 {n : Nat} {x : PV} (h : Fits Try.prog n 30 [x]) : ∃ l : List Bool, x = .sl (l.map boolc) := by
  obtain ⟨m, es, rfl, h1, _, h4⟩ := h.slice Try.underlying30
  simp only [List.cons.injEq, and_true] at h1
  subst h1
  obtain ⟨l, rfl, _⟩ := elems_of (enc := boolc) (ok := fun _ => True) (fun x hx => by
    obtain ⟨v, e⟩ := (h4 x hx).2.bool Try.underlying4
    exact ⟨v, e.symm, trivial⟩)
  exact ⟨l, rfl⟩
theorem lists31 {n : Nat} {x : PV} (h : Fits Try.prog n 31 [x]) : ∃ l : List Int, x = .sl (l.map i64c) ∧ ∀ v, v ∈ l → -9223372036854775808 ≤ v ∧ v ≤ 9223372036854775807 := by
  obtain ⟨m, es, rfl, h1, _, h4⟩ := h.slice Try.underlying31
  simp only [List.cons.injEq, and_true] at h1
  subst h1
  obtain ⟨l, rfl, hl⟩ := elems_of (enc := i64c) (ok := fun v => -9223372036854775808 ≤ v ∧ v ≤ 9223372036854775807) (fun x hx => by
    obtain ⟨v, e, w⟩ := (h4 x hx).2.int Try.underlying2
    simp only [Lit.wf, Bool.and_eq_true, decide_eq_true_eq] at w
    have e1 : IntKind.min .i64 = -9223372036854775808 := by decide
    have e2 : IntKind.max .i64 = 9223372036854775807 := by decide
    exact ⟨v, e.symm, by omega, by omega⟩)
  exact ⟨l, rfl, hl⟩
theorem lists32 {n : Nat} {x : PV} (h : Fits Try.prog n 32 [x]) : ∃ l : List ByteArray, x = .sl (l.map strc) ∧ ∀ v, v ∈ l → v.size ≤ 140737488355328 := by
  obtain ⟨m, es, rfl, h1, _, h4⟩ := h.slice Try.underlying32
  simp only [List.cons.injEq, and_true] at h1
  subst h1
  obtain ⟨l, rfl, hl⟩ := elems_of (enc := strc) (ok := fun v => v.size ≤ 140737488355328) (fun x hx => by
    obtain ⟨v, e, w⟩ := (h4 x hx).2.str Try.underlying9
    have : reachBytes = 140737488351232 := by decide
    exact ⟨v, e.symm, by omega⟩)
  exact ⟨l, rfl, hl⟩
theorem cellsVecK {n : Nat} {cs : List PV} (h : Fits Try.prog n 34 cs) : ∃ v : Vec, v.cells = cs ∧ okVec v := by
  obtain ⟨m, rfl, hl, hf⟩ := h.struct Try.underlying34
  rw [cells34'] at hl
  obtain ⟨a, b, c, d, rfl⟩ : ∃ a b c d, cs = [a, b, c, d] := by
    match cs, hl with
    | [a, b, c, d], _ => exact ⟨a, b, c, d, rfl⟩
  have h0 : Fits Try.prog m 3 (([a, b, c, d].drop 0).take (Try.prog.cellsOf 3)) := hf 0 _ rfl
  have h1 : Fits Try.prog m 30 (([a, b, c, d].drop 1).take (Try.prog.cellsOf 30)) := hf 1 _ rfl
  have h2 : Fits Try.prog m 31 (([a, b, c, d].drop 2).take (Try.prog.cellsOf 31)) := hf 2 _ rfl
  have h3 : Fits Try.prog m 32 (([a, b, c, d].drop 3).take (Try.prog.cellsOf 32)) := hf 3 _ rfl
  rw [cells3] at h0
  rw [cells30'] at h1
  rw [cells31'] at h2
  rw [cells32'] at h3
  have h0 : Fits Try.prog m 3 [a] := h0
  obtain ⟨k, e0, w0⟩ := h0.int Try.underlying3
  obtain ⟨B, rfl⟩ := lists30 (x := b) h1
  obtain ⟨N, rfl, hN⟩ := lists31 (x := c) h2
  obtain ⟨S, rfl, hS⟩ := lists32 (x := d) h3
  simp only [List.cons.injEq, and_true] at e0
  subst e0
  exact ⟨⟨k, B, N, S⟩, rfl, hN, hS⟩
theorem fits43K {n : Nat} {x : PV} (h : FitsA Try.prog n 43 x) : ∃ l : List Vec, x = .sl (l.map Vec.cells) ∧ l.length ≤ 2000000000000 ∧ ∀ v, v ∈ l → okVec v := by
  obtain ⟨m, es, rfl, h1, ⟨_, hb⟩, h4⟩ := (h.one Try.underlying43 rfl).slice Try.underlying43
  simp only [List.cons.injEq, and_true] at h1
  subst h1
  obtain ⟨l, rfl, hl⟩ := elems_of (enc := Vec.cells) (ok := okVec) (fun x hx => cellsVecK (h4 x hx).2)
  rw [bytes34, List.length_map] at hb
  have : reachBytes = 140737488351232 := by decide
  exact ⟨l, rfl, by omega, hl⟩
theorem exprOver_law {k0 k1 k2 : Nat} {x0 x1 x2 : PV} (f0 : FitsA Try.prog k0 80 x0) (f1 : FitsA Try.prog k1 43 x1) (f2 : FitsA Try.prog k2 3 x2) : PCall Try.prog 15 [x0, x1, x2] fun r => r = [.bool true] := by
  obtain ⟨op, m, vk, vn, vs, ar, rfl, hw, ho⟩ := fits80 f0
  obtain ⟨cols, rfl, hcl, hov⟩ := fits43K f1
  obtain ⟨n, e, _⟩ := (f2.one Try.underlying3 rfl).int Try.underlying3
  simp only [List.cons.injEq, and_true] at e
  subst e
  exact exprOver_c cols _ rfl hcl hov n op m vk vn vs ar _ rfl hw ho
end Go.Proofs.Ytnhmnfokbinplaa
