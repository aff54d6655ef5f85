/- tallyref: numbers as lists of digits: times. Own work; no condition. -/
import Derived.Test.YtnhmnfokbinplaaLg9
namespace Go.Proofs.Ytnhmnfokbinplaa
open Go Go.RowKit
set_option maxRecDepth 100000
set_option linter.unusedSimpArgs false
set_option linter.unusedVariables false

set_option maxHeartbeats 8000000 in
theorem times_c' (x y : Int) (lx : (dig (uabs x)).length ≤ 200) (ly : (dig (uabs y)).length ≤ 200) : PCall Try.prog 107 [.agg (longZ x), .agg (longZ y)] fun r => r = [.agg (longZ (x * y))] := by
  have ox := okD_dig (uabs x)
  have oy := okD_dig (uabs y)
  have nx := uabs_nn x
  have ny := uabs_nn y
  have vx := lval_dig' nx
  have vy := lval_dig' ny
  have hmul := sgn_mul x y
  have hlv : ∀ i, 0 ≤ timesV (uabs x) (dig (uabs y)) i ∧ (dig (timesV (uabs x) (dig (uabs y)) i)).length ≤ 400 := by
    intro i
    obtain ⟨h1, h2⟩ := lval_drop_dig ny (i + 1).toNat
    have := dig_mul nx h1
    exact ⟨Int.mul_nonneg nx h1, by unfold timesV; omega⟩
  have hend : timesV (uabs x) (dig (uabs y)) (-1) = uabs x * uabs y := by
    unfold timesV; simp [vy]
  obtain ⟨q1, q2, hQ0⟩ : ∃ q1 q2, longZ (x * y) = [.bool q1, .sl q2] := ⟨_, _, rfl⟩
  rw [hQ0]
  unfold longZ longD
  obtain ⟨m, hm⟩ : ∃ m, decide (x < 0) = m := ⟨_, rfl⟩
  obtain ⟨m', hm'⟩ : ∃ m, decide (y < 0) = m := ⟨_, rfl⟩
  rw [hm, hm'] at hmul ⊢
  generalize ha : uabs x = a at *
  generalize hdx : dig a = dx at *
  generalize hdy : dig (uabs y) = dy at *
  obtain ⟨X, hX⟩ : ∃ X, dx.map u32c = X := ⟨_, rfl⟩
  obtain ⟨Y, hY⟩ : ∃ Y, dy.map u32c = Y := ⟨_, rfl⟩
  rw [hX, hY]
  have h1 : X.length = dx.length := by rw [← hX]; simp
  have h2 : Y.length = dy.length := by rw [← hY]; simp
  have hst0 : ∀ s z : Int, (Y.length : Int) = s → IntKind.i64.wrap (s - 1) = z → (-1 ≤ z ∧ z < dy.length) ∧ timesV a dy z = 0 := by
    intro s z h g
    rw [wrap_in (by omega)] at g
    refine ⟨by omega, ?_⟩
    unfold timesV; rw [List.drop_eq_nil_of_le (by omega)]; simp [lval]
  -- the last step
  have hfinal : PCall Try.prog 106 [.agg [.bool (m != m'), .sl ((dig (a * uabs y)).map u32c)]] fun r => r = [.agg [.bool q1, .sl q2]] := by
    have hl := dig_mul nx ny
    have := trim_c (m != m') (dig (a * uabs y)) (okD_dig _) _ rfl (by rw [hdx, hdy] at hl; omega)
    rw [lval_dig' (Int.mul_nonneg nx ny), hmul, hQ0] at this
    exact this
  have hfin : ∀ (i : Int) (D : List (List PV)) (z : Bool), (dig (timesV a dy i)).map u32c = D → (-1 ≤ i) → decide (0 ≤ i) = false → (!(m == m')) = z → PCall Try.prog 106 [.agg [.bool z, .sl D]] fun r => r = [.agg [.bool q1, .sl q2]] := by
    intro i D z hD hi h hz
    simp only [decide_eq_false_iff_not] at h
    rw [show i = -1 by omega, hend] at hD
    have : (m != m') = z := by rw [← hz]; rfl
    rw [← hD, ← this]; exact hfinal
  clear hfinal hend
  refine PCall.x (nt := 76) (res := [.cell 4 134]) mixed tt_ok [] Try.func107 rfl rfl rfl c107 (Nat.le_of_ble_eq_true rfl) ?_
  intro cp cc lp Q' hcp hcc hlp hQ
  repeat' (first
    | (with_reducible refine Nm.mk ?_; intro z hz)
    | (with_reducible refine IfB.mk ?_ ?_ <;> (intro h; cases h))
    | (with_reducible refine Asm.mk ?_ ?_; focus (first | kernel_rfl | decide))
    | (with_reducible refine Asm.mk2 ?_ ?_)
    | ((fail_if_success (with_reducible refine hQ _ ?_)); (fail_if_success (with_reducible refine Side.mk ?_)); (fail_if_success (with_reducible refine isCP hcp ?_)); (fail_if_success (with_reducible refine isCC hcc ?_)); (fail_if_success (with_reducible refine isLP hlp ?_)); (fail_if_success (with_reducible refine Ix.mk ?_)); (fail_if_success (with_reducible refine SIx.mk ?_)); (fail_if_success (with_reducible refine SEx.mk ?_)); (fail_if_success (with_reducible refine EIx.mk ?_)); (fail_if_success (with_reducible show False)); (fail_if_success (with_reducible refine hR ?_ _ ?_ ?_ ?_ ?_ ?_)); (fail_if_success (with_reducible refine hR2 ?_ _ ?_ ?_ ?_ ?_ ?_)); cbv))
  obtain ⟨hz0, hzt⟩ := hst0 _ _ (by assumption) hz
  clear hst0
  refine forgetX hlp 3 1 rfl rfl rfl ?_
  refine loopT (ι := Int × List (List PV)) mixed tt_ok hcp hcc hlp [2, 3, 4, 5] (fun p => [(6, .p (.int .i64 p.1))])
    (fun p => [.cells [.p (.bool m), .p (.sl X)], .cells [.p (.bool m'), .p (.sl Y)], .cells [.p (.bool false), .full []], .cells [.p (.bool false), .p (.sl p.2)]])
    (fun p => (-1 ≤ p.1 ∧ p.1 < dy.length) ∧ (dig (timesV a dy p.1)).map u32c = p.2) (fun p => (p.1 + 1).toNat) (z, []) 4 (fun _ => rfl) ⟨hz0, by show (dig (timesV a dy z)).map u32c = []; rw [hzt, dig_zero]; rfl⟩ ⟨rfl, trivial⟩ rfl ?_
  rintro R ⟨i, D⟩ ⟨⟨hi0, hi1⟩, hD⟩ hR
  have hi0 : -1 ≤ i := hi0
  have hi1 : i < (dy.length : Int) := hi1
  have hD : (dig (timesV a dy i)).map u32c = D := hD
  obtain ⟨v0, vl⟩ := hlv i
  have hDl : D.length ≤ 400 := by rw [← hD]; simpa using vl
  have hDok : okEs 1 D = true := by rw [← hD]; exact ok_u32 _
  have hk : decide (0 ≤ i) = true → 0 ≤ i := of_decide_eq_true
  have hiN : decide (0 ≤ i) = true → i.toNat < dy.length := by intro h; have := hk h; omega
  -- out shifted
  obtain ⟨E1, hE1⟩ : ∃ E1, (dig (65536 * timesV a dy i)).map u32c = E1 := ⟨_, rfl⟩
  have ht1 : ∀ L1, [[.int .u32 0]] ++ D = L1 → PCall Try.prog 106 [.agg [.bool false, .sl L1]] fun r => r = [.agg [.bool false, .sl E1]] := by
    intro L1 h
    have := trim_c false (0 :: dig (timesV a dy i)) (okD_cons.2 ⟨by omega, okD_dig _⟩) L1 (by rw [List.map_cons, hD, ← h]; rfl) (by simp; omega)
    rw [lval, lval_dig' v0, Int.zero_add, show sgn false (65536 * timesV a dy i) = 65536 * timesV a dy i from rfl, longZ_pos (by omega), hE1] at this
    exact this
  have hs1 : ([[PV.int .u32 0]]).length + D.length ≤ maxLen ∧ (([[PV.int .u32 0]]).length + D.length) * 4 ≤ 140737488355328 := by
    simp only [List.length_cons, List.length_nil, maxLen]; omega
  have hfin' := hfin i D
  repeat' (first
    | (with_reducible refine Nm.mk ?_; intro z hz)
    | (with_reducible refine IfB.mk ?_ ?_ <;> (intro h; cases h))
    | (with_reducible refine Asm.mk ?_ ?_; focus (first | kernel_rfl | decide))
    | (with_reducible refine isCP hcp ?_; first | (refine xP hcp (hfin' _ hD hi0 (by assumption) (by assumption)) ?_; skip) | (refine xP hcp (ht1 _ (by assumption)) ?_; skip))
    | (with_reducible refine isCC hcc ?_; first | (refine xA hcc (hfin' _ hD hi0 (by assumption) (by assumption)) rfl ?_; skip) | (refine xA hcc (ht1 _ (by assumption)) rfl ?_; skip))
    | (with_reducible refine Asm.mk2 ?_ ?_)
    | ((fail_if_success (with_reducible refine hQ _ ?_)); (fail_if_success (with_reducible refine Side.mk ?_)); (fail_if_success (with_reducible refine isCP hcp ?_)); (fail_if_success (with_reducible refine isCC hcc ?_)); (fail_if_success (with_reducible refine isLP hlp ?_)); (fail_if_success (with_reducible refine Ix.mk ?_)); (fail_if_success (with_reducible refine SIx.mk ?_)); (fail_if_success (with_reducible refine SEx.mk ?_)); (fail_if_success (with_reducible refine EIx.mk ?_)); (fail_if_success (with_reducible show False)); (fail_if_success (with_reducible refine hR ?_ _ ?_ ?_ ?_ ?_ ?_)); (fail_if_success (with_reducible refine hR2 ?_ _ ?_ ?_ ?_ ?_ ?_)); cbv))
  · exact Side.mk ⟨rfl, hDok, hs1⟩
  · rename Int => zl
    have hzl := hz
    clear hz
    have hge := hk (by assumption)
    obtain ⟨yi, hyi⟩ : ∃ yi, dy[i.toNat]? = some yi := ⟨_, List.getElem?_eq_getElem (hiN (by assumption))⟩
    have hyr : 0 ≤ yi ∧ yi < 65536 := oy yi (List.mem_of_getElem? hyi)
    rename Nat => mm
    refine mintX hlp 1 5 1 rfl rfl ?_
    refine loopT (ι := Int × Int × List (List PV) × Nat) mixed tt_ok hcp hcc hlp [2, 3, 4, 5, 6, 7, 29, 30] (fun p => [(8, .p (.int .u64 p.2.1)), (31, .p (.int .i64 p.1))])
      (fun p => [.cells [.p (.bool m), .p (.sl X)], .cells [.p (.bool m'), .p (.sl Y)], .cells [.p (.bool false), .full []], .cells [.p (.bool false), .p (.sl E1)], .spare mm 1, .cells [.p (.bool false), .tok 6 p.2.2.1], .spare p.2.2.2 1])
      (fun p => XI dx yi p.1 p.2.1 p.2.2.1 p.2.2.2) (fun p => (zl - p.1).toNat) (0, 0, [], 0) 7 (fun _ => rfl) ⟨by omega, by omega, ⟨[], MulI.start _ _, rfl⟩, rfl⟩ ⟨rfl, rfl, trivial⟩ rfl ?_
    rintro R2 ⟨j, c, L, k⟩ hj hR2
    have hj : XI dx yi j c L k := hj
    have hj0 := hj.j0
    have hj1 : j ≤ (dx.length : Int) := hj.j1
    have hkk := hj.len
    have hzl : (X.length : Int) = zl := hzl
    have hok : okEs 1 L = true := by obtain ⟨o, _, hL⟩ := hj.o; rw [← hL]; exact ok_u32 o
    have hLl : L.length + 1 ≤ maxLen ∧ (L.length + 1) * 4 ≤ 140737488355328 := by
      obtain ⟨o, ho, hL⟩ := hj.o
      have : L.length = j.toNat := by rw [← hL, List.length_map, ho.len]
      have : (dx.length : Int) ≤ 200 := by omega
      exact ⟨by simp only [maxLen]; omega, by omega⟩
    have hkj : decide (j < zl) = true → j < dx.length := by intro h; simp only [decide_eq_true_eq] at h; omega
    have hiy : i < (dy.length : Int) := hi1
    have hstep : decide (j < zl) = true → ∀ u b w d g h t e q f : Int, dx[j.toNat]? = some u → IntKind.u64.wrap u = b → dy[i.toNat]? = some w → IntKind.u64.wrap w = d → IntKind.u64.wrap (b * d) = g → IntKind.u64.wrap (c + g) = h → IntKind.u64.wrap ((BitVec.ofInt IntKind.u64.bits h &&& BitVec.ofInt IntKind.u64.bits 65535).toNat : Int) = t → IntKind.u32.wrap t = e →
        h.fdiv (2 ^ (min (16 : Int).toNat IntKind.u64.bits)) = q → IntKind.i64.wrap (j + 1) = f → XI dx yi (j + 1) q (L ++ [[.int .u32 e]]) (k + 1) ∧ f = j + 1 ∧ (zl - (j + 1)).toNat < (zl - j).toNat := by
      intro hc u b w d g h t e q f k1 k2 k3 k4 k5 k6 k7 k8 k9 k10
      have hlt := hkj hc
      simp only [decide_eq_true_eq] at hc
      rw [hyi] at k3
      simp only [Option.some.injEq] at k3
      subst k3
      obtain ⟨st, ru, rp, rc0, rc1⟩ := hj.step ox hyr k1
      rw [IntWalk.u64_in _ (by omega)] at k2
      rw [IntWalk.u64_in _ (by omega)] at k4
      subst k2 k4
      rw [IntWalk.u64_in _ (by omega)] at k5
      subst k5
      rw [IntWalk.u64_in _ (by omega)] at k6
      subst k6
      rw [and16u _ (by omega)] at k7
      subst k7
      rw [IntWalk.u32_in _ (by omega)] at k8
      rw [shr16u] at k9
      rw [wrap_in (by omega)] at k10
      subst k8 k9
      exact ⟨st, k10.symm, by omega⟩
    -- behind the inner loop
    obtain ⟨V1, hV1⟩ : ∃ V, (dig (yi * a)).map u32c = V := ⟨_, rfl⟩
    obtain ⟨V2, hV2⟩ : ∃ V, (dig (timesV a dy (i - 1))).map u32c = V := ⟨_, rfl⟩
    have hya : 0 ≤ yi * a := Int.mul_nonneg hyr.1 nx
    have hpart : decide (j < zl) = false → ∀ (e : Int) (L2 : List (List PV)), IntKind.u32.wrap c = e → L ++ [[.int .u32 e]] = L2 → PCall Try.prog 106 [.agg [.bool false, .sl L2]] fun r => r = [.agg [.bool false, .sl V1]] := by
      intro h e L2 he hL2
      simp only [decide_eq_false_iff_not] at h
      obtain ⟨o, oo, oL, ol, ov, c0, c1⟩ := hj.stop (by omega) (by omega)
      rw [IntWalk.u32_in _ (by omega)] at he
      have := trim_c false o oo L2 (by rw [oL, he, hL2]) ol
      rw [ov, vx, show sgn false (yi * a) = yi * a from rfl, longZ_pos hya, hV1] at this
      exact this
    have hsum : PCall Try.prog 104 [.agg [.bool false, .sl E1], .agg [.bool false, .sl V1]] fun r => r = [.agg [.bool false, .sl V2]] := by
      have e1 := timesV_step (a := a) hge hyi
      have b1 := (hlv (i - 1)).2
      have b0 := (hlv (i - 1)).1
      have u1 : uabs (65536 * timesV a dy i) = 65536 * timesV a dy i := by unfold uabs; rw [if_neg (by omega)]
      have u2 : uabs (yi * a) = yi * a := by unfold uabs; rw [if_neg (by omega)]
      have l1 := dig_len_le (m := 65536 * timesV a dy i) (n := timesV a dy (i - 1)) (by omega) (by omega)
      have l2 := dig_len_le (m := yi * a) (n := timesV a dy (i - 1)) (by omega) (by omega)
      have := plus_c (65536 * timesV a dy i) (yi * a) (by rw [u1]; omega) (by rw [u2]; omega)
      rw [longZ_pos (by omega), longZ_pos hya, ← e1, longZ_pos b0, hE1, hV1, hV2] at this
      exact this
    have hnext : ∀ f : Int, IntKind.i64.wrap (i - 1) = f → f = i - 1 ∧ (-1 ≤ i - 1 ∧ i - 1 < dy.length) ∧ (i - 1 + 1).toNat < (i + 1).toNat := by
      intro f h; rw [wrap_in (by omega)] at h; omega
    have hlen1 : dx.length ≤ 200 := lx
    clear hfin hfin' ht1
    have i0' : 0 ≤ i := hge
    repeat' (first
      | (with_reducible refine Nm.mk ?_; intro z hz)
      | (with_reducible refine IfB.mk ?_ ?_ <;> (intro h; cases h))
      | (with_reducible refine Asm.mk ?_ ?_; focus kernel_rfl)
      | (with_reducible refine isCP hcp ?_; first | (refine xP hcp (hpart (by assumption) _ _ (by assumption) (by assumption)) ?_; skip) | (refine xP hcp (hsum) ?_; skip))
      | (with_reducible refine isCC hcc ?_; first | (refine xA hcc (hpart (by assumption) _ _ (by assumption) (by assumption)) rfl ?_; skip) | (refine xA hcc (hsum) rfl ?_; skip))
      | (with_reducible refine Ix.map hX u32c_len (by decide) hj0 (hkj (by assumption)) ?_; intro u hu)
      | (with_reducible refine Ix.map hY u32c_len (by decide) i0' hiy ?_; intro w hw)
      | (with_reducible refine Asm.mk2 ?_ ?_)
      | ((fail_if_success (with_reducible refine hQ _ ?_)); (fail_if_success (with_reducible refine Side.mk ?_)); (fail_if_success (with_reducible refine isCP hcp ?_)); (fail_if_success (with_reducible refine isCC hcc ?_)); (fail_if_success (with_reducible refine isLP hlp ?_)); (fail_if_success (with_reducible refine Ix.mk ?_)); (fail_if_success (with_reducible refine SIx.mk ?_)); (fail_if_success (with_reducible refine SEx.mk ?_)); (fail_if_success (with_reducible refine EIx.mk ?_)); (fail_if_success (with_reducible show False)); (fail_if_success (with_reducible refine hR ?_ _ ?_ ?_ ?_ ?_ ?_)); (fail_if_success (with_reducible refine hR2 ?_ _ ?_ ?_ ?_ ?_ ?_)); cbv))
    all_goals first
      | exact Side.mk ⟨hkk.symm, rfl, hok, rfl, hLl.1, hLl.2⟩
      | (refine Side.mk ?_; decide)
      | (rename_i y0 hy0 y1 hy1 y2 hy2 y3 hy3 y4 hy4
         obtain ⟨g1, g2, g3⟩ := hstep (by assumption) _ _ _ _ _ _ _ _ _ _ hu (by assumption) hw (by assumption) (by assumption) (by assumption) hy0 hy1 hy4 hz
         exact hR2 (j + 1, y4, y2, y3) _ (by show XI dx yi (j + 1) y4 y2 y3; rw [← hy2, ← hy3, hkk]; exact g1) g3 ⟨rfl, g2 ▸ rfl, trivial⟩ ⟨rfl, rfl, rfl, rfl, rfl, rfl, rfl, rfl, trivial⟩ rfl)
      | (obtain ⟨g1, g2, g3⟩ := hnext _ hz
         exact hR (i - 1, V2) _ ⟨g2, hV2⟩ g3 ⟨g1 ▸ rfl, trivial⟩ ⟨rfl, rfl, rfl, rfl, trivial⟩ rfl)
  · exact hQ _ rfl
end Go.Proofs.Ytnhmnfokbinplaa
