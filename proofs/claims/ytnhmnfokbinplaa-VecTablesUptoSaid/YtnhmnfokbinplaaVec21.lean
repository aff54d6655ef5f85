/- tallyref: Across. Own work; no condition. -/
import Derived.Test.YtnhmnfokbinplaaVec9
import Derived.Test.YtnhmnfokbinplaaVec20
namespace Go.Proofs.Ytnhmnfokbinplaa
open Go Go.RowKit
set_option maxRecDepth 100000
set_option linter.unusedSimpArgs false
set_option linter.unusedVariables false

def nrow (k i m0 : Nat) : Nat := if k = 0 then i else m0

theorem rowsAt_push (cols : List Vec) (n : Nat) : rowsAt cols (n + 1) 0 n = rowsAt cols n 0 n ++ List.replicate 1 [] := by
  simp [rowsAt, List.range_succ]

set_option maxHeartbeats 1000000 in
theorem across_c (cols : List Vec) (L : List (List PV)) (hL : cols.map Vec.cells = L) (hn : ∀ c, c ∈ cols → c.null.length ≤ 1048577) (hlen : cols.length ≤ 1048577) :
    PCall Try.prog 26 [.sl L] fun r => r = [.sl (rowsP (tableM cols).1), .int .i64 (tableM cols).2] := by
  have hLl : L.length = cols.length := by rw [← hL]; simp
  refine PCall.x (nt := 56) (res := [.tmp 2, .tmp 3]) mixed tt_ok [] Try.func26 rfl rfl rfl c26 (Nat.le_of_ble_eq_true rfl) ?_
  intro cp cc lp Q' hcp hcc hlp hQ
  repeat' (first
    | (with_reducible refine Nm.mk ?_; intro z hz)
    | (with_reducible refine IfB.mk ?_ ?_ <;> (intro h; cases h))
    | (with_reducible refine Asm.mk ?_ ?_; focus (first | kernel_rfl | decide))
    | (with_reducible refine Asm.mk2 ?_ ?_)
    | ((fail_if_success (with_reducible refine hQ _ ?_)); (fail_if_success (with_reducible refine Side.mk ?_)); (fail_if_success (with_reducible refine isCP hcp ?_)); (fail_if_success (with_reducible refine isCC hcc ?_)); (fail_if_success (with_reducible refine isLP hlp ?_)); (fail_if_success (with_reducible refine Ix.mk ?_)); (fail_if_success (with_reducible refine SIx.mk ?_)); (fail_if_success (with_reducible refine SEx.mk ?_)); (fail_if_success (with_reducible refine EIx.mk ?_)); (fail_if_success (with_reducible refine RIx.mk ?_)); (fail_if_success (with_reducible show False)); (fail_if_success (with_reducible refine hR ?_ _ ?_ ?_ ?_ ?_ ?_)); (fail_if_success (with_reducible refine hR2 ?_ _ ?_ ?_ ?_ ?_ ?_)); cbv))
  simp only [nc] at hz
  simp only [nc'] at hz
  have hzc : z.toNat = cols.length ∧ 0 ≤ z := by omega
  obtain ⟨hzc, hz0⟩ := hzc
  clear hz
  generalize z = z0 at *
  obtain ⟨m0, hm0⟩ : ∃ m, len0 cols = m := ⟨_, rfl⟩
  refine mintRT hlp 3 4 rfl ?_
  refine loopT (ι := Int × Nat × Nat × Nat × List (List (List PV))) mixed tt_ok hcp hcc hlp [0, 9, 10] (fun p => [(4, .rvec 0 p.2.1 p.2.2.2.1), (11, .p (.int .i64 p.1))]) (fun p => [.rvec p.2.1 p.2.2.1 p.2.2.2.2 3])
    (fun p => (0 ≤ p.1 ∧ p.1 ≤ z0) ∧ nrow p.1.toNat 0 m0 = p.2.2.2.1 ∧ rowsAt cols p.2.2.2.1 p.1.toNat 0 = p.2.2.2.2 ∧ ∀ (k : Nat) c, k < p.1.toNat → cols[k]? = some c → okCol m0 c = true) (fun p => (z0 - p.1).toNat) (0, 0, 0, 0, []) 1 (fun _ => rfl) ⟨⟨by omega, by omega⟩, rfl, rfl, fun k c hk => by simp at hk⟩ ⟨rfl, rfl, trivial⟩ rfl ?_
  rintro R ⟨k, g, j, nr, ls⟩ ⟨⟨hk0, hk1⟩, hnr, hls, hok⟩ hR
  replace hk0 : 0 ≤ k := hk0
  replace hk1 : k ≤ z0 := hk1
  replace hnr : nrow k.toNat 0 m0 = nr := hnr
  replace hls : rowsAt cols nr k.toNat 0 = ls := hls
  replace hok : ∀ (j : Nat) c, j < k.toNat → cols[j]? = some c → okCol m0 c = true := hok
  have hlsl : ls.length = nr := by rw [← hls]; exact rowsAt_len _ _ _ _
  have hkl : decide (k < z0) = true → k < cols.length := by simp only [decide_eq_true_eq]; omega
  have h0l : decide (k < z0) = true → (0 : Int) < cols.length := by simp only [decide_eq_true_eq]; omega
  have hstep : decide (k < z0) = true → IntKind.i64.wrap (k + 1) = k + 1 := by simp only [decide_eq_true_eq]; intro h; exact wrap_in (by omega)
  have hgd : ∀ a B N S n1 n2 n3, B.map boolc = n1 → N.map i64c = n2 → S.map strc = n3 → PCall Try.prog 34 [.agg [.int .i64 a, .sl n1, .sl n2, .sl n3]] fun r => r = [.bool (goodV ⟨a, B, N, S⟩)] := fun a B N S n1 n2 n3 h1 h2 h3 => rgood_c a B N S n1 n2 n3 h1 h2 h3
  have hvl : ∀ a B N S n1 n2 n3, cols[k.toNat]? = some ⟨a, B, N, S⟩ → B.map boolc = n1 → N.map i64c = n2 → S.map strc = n3 → PCall Try.prog 35 [.agg [.int .i64 a, .sl n1, .sl n2, .sl n3]] fun r => r = [.sl ((valuesM ⟨a, B, N, S⟩).map Val.cells)] := fun a B N S n1 n2 n3 hx h1 h2 h3 => rvalues_c a B N S n1 n2 n3 h1 h2 h3 (hn _ (List.mem_of_getElem? hx))
  have hcol : ∀ {a B N S} {n1 : List (List PV)}, cols[k.toNat]? = some ⟨a, B, N, S⟩ → B.map boolc = n1 → n1.length = B.length ∧ B.length ≤ 1048577 := by
    intro a B N S n1 hx h1
    exact ⟨by rw [← h1]; simp, hn _ (List.mem_of_getElem? hx)⟩
  have bad1 : ∀ {a B N S}, cols[k.toNat]? = some ⟨a, B, N, S⟩ → goodV ⟨a, B, N, S⟩ = false → tableM cols = ([], 1) := by
    intro a B N S hx hg
    have := tok_at hx (by simp [okCol, hg])
    simp [tableM, this]
  have bad2 : ∀ {a B N S}, cols[k.toNat]? = some ⟨a, B, N, S⟩ → ¬ B.length = m0 → tableM cols = ([], 1) := by
    intro a B N S hx hg
    have := tok_at hx (by simp [okCol, hm0, hg])
    simp [tableM, this]
  have hm00 : ∀ {a B N S}, cols[Int.toNat 0]? = some ⟨a, B, N, S⟩ → m0 = B.length := by
    intro a B N S hx; rw [← hm0]; exact len0_at hx
  repeat' (first
    | (with_reducible refine Nm.mk ?_; intro z hz)
    | (with_reducible refine IfB.mk ?_ ?_ <;> (intro h; cases h))
    | (with_reducible refine Asm.mk ?_ ?_; focus (first | exact ⟨rfl, hlsl.symm⟩ | kernel_rfl))
    | (with_reducible refine isCP hcp ?_; first | (refine bP hcp (hgd _ _ _ _ _ _ _ (by assumption) (by assumption) (by assumption)) ?_; intro z hz) | (refine lP hcp (hvl _ _ _ _ _ _ _ (by assumption) (by assumption) (by assumption) (by assumption)) ?_; intro z hz))
    | (with_reducible refine isCC hcc ?_; first | (refine bA hcc (hgd _ _ _ _ _ _ _ (by assumption) (by assumption) (by assumption)) rfl ?_; intro z hz) | (refine lA hcc (hvl _ _ _ _ _ _ _ (by assumption) (by assumption) (by assumption) (by assumption)) rfl ?_; intro z hz))
    | (with_reducible refine IxV hL hk0 (hkl (by assumption)) ?_; intro a B N S n1 n2 n3 hx h1 h2 h3)
    | (with_reducible refine IxV hL (by decide) (h0l (by assumption)) ?_; intro a0 B0 N0 S0 m1 m2 m3 hx0 g1 g2 g3)
    | (with_reducible refine Asm.mk2 ?_ ?_)
    | ((fail_if_success (with_reducible refine hQ _ ?_)); (fail_if_success (with_reducible refine Side.mk ?_)); (fail_if_success (with_reducible refine isCP hcp ?_)); (fail_if_success (with_reducible refine isCC hcc ?_)); (fail_if_success (with_reducible refine isLP hlp ?_)); (fail_if_success (with_reducible refine Ix.mk ?_)); (fail_if_success (with_reducible refine SIx.mk ?_)); (fail_if_success (with_reducible refine SEx.mk ?_)); (fail_if_success (with_reducible refine EIx.mk ?_)); (fail_if_success (with_reducible refine RIx.mk ?_)); (fail_if_success (with_reducible show False)); (fail_if_success (with_reducible refine hR ?_ _ ?_ ?_ ?_ ?_ ?_)); (fail_if_success (with_reducible refine hR2 ?_ _ ?_ ?_ ?_ ?_ ?_)); cbv))
  all_goals (try simp only [nc] at *)
  all_goals (try simp only [nc'] at *)
  · refine hQ _ ?_
    have hg : goodV ⟨a, B, N, S⟩ = false := by
      have h2 : goodV ⟨a, B, N, S⟩ = z := by assumption
      rw [h2]; simpa using hz
    rw [bad1 hx hg]; rfl
  · refine hQ _ ?_
    rw [bad2 hx (fun h => ?_)]
    · rfl
    · have := hm00 hx0
      obtain ⟨q1, _⟩ := hcol hx h1
      have q2 : m1.length = B0.length := by rw [← g1]; simp
      simp at hz
      omega
  · rename_i zL hzL
    have hgood : goodV ⟨a, B, N, S⟩ = true := by
      have q : ∀ {w : Bool}, goodV ⟨a, B, N, S⟩ = w → (!w) = false → goodV ⟨a, B, N, S⟩ = true := by intro w h h'; rw [h]; simpa using h'
      exact q (by assumption) (by assumption)
    have hBm : B.length = m0 := by
      have hee := not_dec (by assumption)
      have := hm00 hx0
      obtain ⟨q1, _⟩ := hcol hx h1
      have q2 : m1.length = B0.length := by rw [← g1]; simp
      omega
    have hvM : valuesM ⟨a, B, N, S⟩ = (List.range m0).map (atV a B N S) := by rw [valuesM, if_pos hgood]; show (List.range B.length).map _ = _; rw [hBm]
    rw [hvM] at hzL
    have hz1 : z = (m0 : Int) := by rw [← hz, ← hzL]; simp
    have hmb : m0 ≤ 1048577 := by have := (hcol hx h1).2; omega
    have hkz2 : decide (k < z0) = true := by assumption
    have hkc := hkl hkz2
    clear hgd hvl bad1 bad2
    have hx0k := hx
    clear hz
    generalize z = zi at *
    refine loopT (ι := Int × Nat × Nat × Nat × List (List (List PV))) mixed tt_ok hcp hcc hlp [0, 5, 9, 10, 11, 31, 32] (fun p => [(4, .rvec 0 p.2.1 p.2.2.2.1), (33, .p (.int .i64 p.1))]) (fun p => [.rvec p.2.1 p.2.2.1 p.2.2.2.2 3, .cells [.p (.int .i64 a), .p (.sl n1), .p (.sl n2), .p (.sl n3)]])
      (fun p => (0 ≤ p.1 ∧ p.1 ≤ zi) ∧ nrow k.toNat p.1.toNat m0 = p.2.2.2.1 ∧ rowsAt cols p.2.2.2.1 k.toNat p.1.toNat = p.2.2.2.2) (fun p => (zi - p.1).toNat) (0, _, _, nr, ls) 2 (fun _ => rfl) ⟨⟨by omega, by omega⟩, hnr, hls⟩ ⟨rfl, rfl, trivial⟩ rfl ?_
    rintro R2 ⟨i, g2, j2, n2r, l2⟩ ⟨⟨hi0, hi1⟩, hn2, hl2⟩ hR2
    replace hi0 : 0 ≤ i := hi0
    replace hi1 : i ≤ zi := hi1
    replace hn2 : nrow k.toNat i.toNat m0 = n2r := hn2
    replace hl2 : rowsAt cols n2r k.toNat i.toNat = l2 := hl2
    have hll : l2.length = n2r := by rw [← hl2]; exact rowsAt_len _ _ _ _
    have hil : decide (i < zi) = true → i < ((List.range m0).map (atV a B N S)).length := by simp only [decide_eq_true_eq, List.length_map, List.length_range]; omega
    obtain ⟨l0, hl0⟩ : ∃ l, (cols.take k.toNat).map (fun c => cellAt c i.toNat) = l := ⟨_, rfl⟩
    have hok3 : okEs 3 l0 = true := by rw [← hl0]; exact List.all_eq_true.2 fun e he => by obtain ⟨c, _, rfl⟩ := List.mem_map.1 he; rfl
    have hl0n : l0.length ≤ 1048577 := by rw [← hl0, List.length_map, List.length_take]; omega
    have hrowA : ∀ q, i.toNat = q → decide (i < zi) = true → decide (k = 0) = false → l2[q]? = some l0 := by
      rintro q rfl h h0
      simp only [decide_eq_true_eq] at h
      simp only [decide_eq_false_iff_not] at h0
      have : n2r = m0 := by rw [← hn2, nrow, if_neg (by omega)]
      rw [← hl2, rowsAt_get cols k.toNat i.toNat (by omega), if_neg (by omega), hl0]
    have hrowB : ∀ q LS, i.toNat = q → l2 ++ List.replicate 1 [] = LS → decide (i < zi) = true → decide (k = 0) = true → LS[q]? = some l0 := by
      rintro q LS rfl rfl h h0
      simp only [decide_eq_true_eq] at h h0
      have : n2r = i.toNat := by rw [← hn2, nrow, if_pos (by omega)]
      rw [List.getElem?_append_right (by omega), ← hl0, h0, hll, this]
      simp
    have hnF : decide (i < zi) = true → decide (k = 0) = false → i < (n2r : Int) := by
      intro h h0
      simp only [decide_eq_true_eq] at h
      simp only [decide_eq_false_iff_not] at h0
      have : n2r = m0 := by rw [← hn2, nrow, if_neg (by omega)]
      omega
    have hnE : decide (k = 0) = true → n2r = i.toNat := by
      intro h0
      simp only [decide_eq_true_eq] at h0
      rw [← hn2, nrow, if_pos (by omega)]
    have hpb : decide (i < zi) = true → decide (k = 0) = true → n2r + 1 ≤ 1048577 := by
      intro h h0
      have := hnE h0
      simp only [decide_eq_true_eq] at h
      omega
    have hnT : ∀ {q : Nat}, n2r + 1 = q → decide (k = 0) = true → i < (q : Int) := by
      rintro q rfl h0
      have := hnE h0
      omega
    have hstA : ∀ {z1 z2 : Nat} {L1 : List (List PV)} {LS : List (List (List PV))}, i.toNat = z1 → i.toNat = z2 → l2.set z1 L1 = LS → decide (i < zi) = true → decide (k = 0) = false → z1 = z2 ∧ z1 = z2 ∧ z2 < LS.length := by
      rintro z1 z2 L1 LS rfl rfl rfl h h0
      have := hnF h h0
      rw [List.length_set]
      exact ⟨rfl, rfl, by omega⟩
    have hstB : ∀ {z1 z2 : Nat} {L1 : List (List PV)} {l3 LS : List (List (List PV))}, i.toNat = z1 → i.toNat = z2 → l2 ++ List.replicate 1 [] = l3 → l3.set z1 L1 = LS → decide (k = 0) = true → z1 = z2 ∧ z1 = z2 ∧ z2 < LS.length := by
      rintro z1 z2 L1 l3 LS rfl rfl rfl rfl h0
      have := hnE h0
      rw [List.length_set, List.length_append, List.length_replicate]
      exact ⟨rfl, rfl, by omega⟩
    repeat' (first
      | (with_reducible refine Nm.mk ?_; intro z hz)
      | (with_reducible refine IfB.mk ?_ ?_ <;> (intro h; cases h))
      | (with_reducible refine Asm.mk ?_ ?_; focus (first | rfl | exact ⟨hi0, hnF (by assumption) (by assumption)⟩ | exact ⟨hi0, hnT (by assumption) (by assumption)⟩ | exact ⟨rfl, rfl, hstA (by assumption) (by assumption) (by assumption) (by assumption) (by assumption)⟩ | exact ⟨rfl, rfl, hstB (by assumption) (by assumption) (by assumption) (by assumption) (by assumption)⟩ | (refine ⟨rfl, rfl, hrowA _ (by assumption) (by assumption) (by assumption), hok3, rfl, ?_, ?_⟩ <;> (clear hR hR2 hQ; simp only [List.length_cons, List.length_nil, maxLen]; omega)) | (refine ⟨rfl, rfl, hrowB _ _ (by assumption) (by assumption) (by assumption) (by assumption), hok3, rfl, ?_, ?_⟩ <;> (clear hR hR2 hQ; simp only [List.length_cons, List.length_nil, maxLen]; omega)) | (refine ⟨rfl, hll.symm, by omega, ?_, ?_⟩ <;> (have := hpb (by assumption) (by assumption); clear hR hR2 hQ; simp only [maxLen]; omega)) | (show (_ : Bool) = true; kernel_rfl)))
      | (with_reducible refine Ix.map hzL cells_len (by decide) hi0 (hil (by assumption)) ?_; intro x hx)
      | (with_reducible refine RIx.at_ l0 (hrowA _ (by assumption) (by assumption) (by assumption)) ?_)
      | (with_reducible refine RIx.at_ l0 (hrowB _ _ (by assumption) (by assumption) (by assumption) (by assumption)) ?_)
      | (with_reducible refine Asm.mk2 ?_ ?_)
      | ((fail_if_success (with_reducible refine hQ _ ?_)); (fail_if_success (with_reducible refine Side.mk ?_)); (fail_if_success (with_reducible refine isCP hcp ?_)); (fail_if_success (with_reducible refine isCC hcc ?_)); (fail_if_success (with_reducible refine isLP hlp ?_)); (fail_if_success (with_reducible refine Ix.mk ?_)); (fail_if_success (with_reducible refine SIx.mk ?_)); (fail_if_success (with_reducible refine SEx.mk ?_)); (fail_if_success (with_reducible refine EIx.mk ?_)); (fail_if_success (with_reducible refine RIx.mk ?_)); (fail_if_success (with_reducible show False)); (fail_if_success (with_reducible refine hR ?_ _ ?_ ?_ ?_ ?_ ?_)); (fail_if_success (with_reducible refine hR2 ?_ _ ?_ ?_ ?_ ?_ ?_)); cbv))
    all_goals (try simp only [nc] at *)
    all_goals (try simp only [nc'] at *)
    · have := hpb (by assumption) (by assumption)
      refine ⟨?_⟩
      refine ⟨trivial, hll.symm, by omega, ?_, ?_⟩ <;> (first | omega | (simp only [maxLen]; omega))
    · have hlt : decide (i < zi) = true := by assumption
      have h0 : decide (k = 0) = true := by assumption
      have hw : IntKind.i64.wrap (i + 1) = i + 1 := by simp only [decide_eq_true_eq] at hlt; exact wrap_in (by omega)
      rw [hw] at hz
      subst hz
      have hx2 : cellAt ⟨a, B, N, S⟩ i.toNat = [PV.int IntKind.i64 x.k, PV.int IntKind.i64 x.n, PV.str x.s] := by
        simp only [decide_eq_true_eq] at hlt
        rw [List.getElem?_map, List.getElem?_range (by omega)] at hx
        simp only [Option.map_some, Option.some.injEq] at hx
        rw [← hx]; rfl
      rename_i zg hzg zj hzj zn hzn zp hzp zr hzr zj2 hzj2 zl hzl zs hzs
      have hrw := hrowB _ _ hzr hzp hlt h0
      have hne := hnE h0
      simp only [decide_eq_true_eq] at hlt h0
      refine hR2 (i + 1, _, _, _, _) _ ⟨⟨by show 0 ≤ i + 1; omega, by show i + 1 ≤ zi; omega⟩, ?_, ?_⟩ (by show (zi - (i + 1)).toNat < (zi - i).toNat; omega) ⟨rfl, rfl, trivial⟩ ⟨rfl, rfl, rfl, rfl, rfl, rfl, rfl, trivial⟩ rfl
      · show nrow k.toNat (i + 1).toNat m0 = zn
        rw [nrow, if_pos (by omega)]; omega
      · show rowsAt cols zn k.toNat (i + 1).toNat = zs
        have hpu : rowsAt cols zn k.toNat i.toNat = zp := by
          rw [← hzp, ← hl2, ← hzn, hne, show k.toNat = 0 by omega]; exact rowsAt_push cols i.toNat
        rw [← hzs, ← hzl, ← hzr, show (i + 1).toNat = i.toNat + 1 by omega, ← hx2, ← rowsAt_step (by omega) hx0k (by rw [hpu, hzr]; exact hrw), hpu]
    · have hlt : decide (i < zi) = true := by assumption
      have h0 : decide (k = 0) = false := by assumption
      have hw : IntKind.i64.wrap (i + 1) = i + 1 := by simp only [decide_eq_true_eq] at hlt; exact wrap_in (by omega)
      rw [hw] at hz
      subst hz
      have hx2 : cellAt ⟨a, B, N, S⟩ i.toNat = [PV.int IntKind.i64 x.k, PV.int IntKind.i64 x.n, PV.str x.s] := by
        simp only [decide_eq_true_eq] at hlt
        rw [List.getElem?_map, List.getElem?_range (by omega)] at hx
        simp only [Option.map_some, Option.some.injEq] at hx
        rw [← hx]; rfl
      rename_i zr hzr zj2 hzj2 zl hzl zs hzs
      have hrw := hrowA _ hzr hlt h0
      have hnf := hnF hlt h0
      simp only [decide_eq_true_eq] at hlt
      simp only [decide_eq_false_iff_not] at h0
      refine hR2 (i + 1, _, _, _, _) _ ⟨⟨by show 0 ≤ i + 1; omega, by show i + 1 ≤ zi; omega⟩, ?_, ?_⟩ (by show (zi - (i + 1)).toNat < (zi - i).toNat; omega) ⟨rfl, rfl, trivial⟩ ⟨rfl, rfl, rfl, rfl, rfl, rfl, rfl, trivial⟩ rfl
      · show nrow k.toNat (i + 1).toNat m0 = n2r
        rw [← hn2, nrow, nrow, if_neg (by omega), if_neg (by omega)]
      · show rowsAt cols n2r k.toNat (i + 1).toNat = zs
        rw [← hzs, ← hzl, ← hzr, show (i + 1).toNat = i.toNat + 1 by omega, ← hx2, ← rowsAt_step (by omega) hx0k (by rw [hl2, hzr]; exact hrw), hl2]
    · have hge : decide (i < zi) = false := by assumption
      have hw := hstep hkz2
      rw [hw] at hz
      subst hz
      simp only [decide_eq_false_iff_not] at hge
      simp only [decide_eq_true_eq] at hkz2
      have hie : i.toNat = m0 := by omega
      have hn2m : n2r = m0 := by rw [← hn2, nrow]; split <;> omega
      have hoks : ∀ (j : Nat) c, j < (k + 1).toNat → cols[j]? = some c → okCol m0 c = true := by
        intro j c hj hc
        by_cases h : j < k.toNat
        · exact hok j c h hc
        · have : j = k.toNat := by omega
          subst this
          rw [hx0k] at hc
          cases hc
          simp [okCol, hgood, hBm]
      refine hR (k + 1, _, _, _, _) _ ⟨⟨by show 0 ≤ k + 1; omega, by show k + 1 ≤ z0; omega⟩, ?_, ?_, hoks⟩ (by show (z0 - (k + 1)).toNat < (z0 - k).toNat; omega) ⟨rfl, rfl, trivial⟩ ⟨rfl, rfl, rfl, trivial⟩ rfl
      · show nrow (k + 1).toNat 0 m0 = n2r
        rw [nrow, if_neg (by omega), hn2m]
      · show rowsAt cols n2r (k + 1).toNat 0 = l2
        rw [show (k + 1).toNat = k.toNat + 1 by omega, hn2m, ← rowsAt_end, ← hl2, hie, hn2m]
  · refine hQ _ ?_
    have hge : decide (k < z0) = false := by assumption
    simp only [decide_eq_false_iff_not] at hge
    have htok : tokM cols = true := tok_up fun j c hj => by
      rw [hm0]
      exact hok j c (by have := (List.getElem?_eq_some_iff.1 hj).1; omega) hj
    have hnn : nr = m0 := by
      by_cases h0 : k = 0
      · have hnil : cols = [] := List.length_eq_zero_iff.1 (by omega)
        rw [← hnr, ← hm0, hnil, nrow, h0]; rfl
      · rw [← hnr, nrow, if_neg (by omega)]
    have hT : tableM cols = (ls, 0) := by
      rw [tableM, htok, if_pos rfl, hm0, ← hls, hnn, show k.toNat = cols.length by omega]
    rw [hT, ← hz]; rfl
end Go.Proofs.Ytnhmnfokbinplaa
