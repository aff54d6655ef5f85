/- VecSays: the law. Own work; no condition. -/
import Derived.Test.YtnhmnfokbinplaaVec17
namespace Go.Proofs.Ytnhmnfokbinplaa
open Go Go.RowKit
set_option maxRecDepth 100000
set_option linter.unusedSimpArgs false
set_option linter.unusedVariables false

theorem vec_nil : goodV ⟨1, [], [], []⟩ = true := by decide

set_option maxHeartbeats 4000000 in
theorem vecSays_c (a : Int) (B : List Bool) (N : List Int) (S : List ByteArray) (n1 n2 n3 : List (List PV)) (h1 : B.map boolc = n1) (h2 : N.map i64c = n2) (h3 : S.map strc = n3)
    (a' : Int) (B' : List Bool) (N' : List Int) (S' : List ByteArray) (m1 m2 m3 : List (List PV)) (g1 : B'.map boolc = m1) (g2 : N'.map i64c = m2) (g3 : S'.map strc = m3)
    (P : List Int) (PL : List (List PV)) (hP : P.map i64c = PL) (i : Int)
    (l1 : B.length ≤ 1048577) (l2 : N.length ≤ 1048577) (l3 : S.length ≤ 1048577) (l1' : B'.length ≤ 1048577) (l2' : N'.length ≤ 1048577) (l3' : S'.length ≤ 1048577) (lP : P.length ≤ 1048577) :
    PCall Try.prog 9 [.agg [.int .i64 a, .sl n1, .sl n2, .sl n3], .agg [.int .i64 a', .sl m1, .sl m2, .sl m3], .sl PL, .int .i64 i] fun r => r = [.bool true] := by
  have hpl : PCall Try.prog 43 [.agg [.int .i64 a, .sl n1, .sl n2, .sl n3]] fun r => r = [.sl ((placesM ⟨a, B, N, S⟩).map i64c)] := by
    have := rplaces_c a B N S n1 n2 n3 h1 h2 h3 l1
    rw [places_eq] at this; exact this
  have hVg : (valuesM ⟨a, B, N, S⟩).length = if goodV ⟨a, B, N, S⟩ = true then B.length else 0 := by unfold valuesM; split <;> simp
  have hat : ∀ y, 0 ≤ i → (valuesM ⟨a, B, N, S⟩)[i.toNat]? = some y → atM ⟨a, B, N, S⟩ i = y := by
    intro y hi hy
    have hlt := (List.getElem?_eq_some_iff.1 hy).1
    rw [hVg] at hlt
    unfold valuesM at hy
    split at hlt
    · rename_i hg
      rw [if_pos hg] at hy
      simp only [atM]
      rw [if_pos ⟨hg, hi, by omega⟩]
      simp [hlt] at hy
      exact hy
    · omega
  have hat0 : ¬ (0 ≤ i ∧ i < (valuesM ⟨a, B, N, S⟩).length) → atM ⟨a, B, N, S⟩ i = Val.zero := by
    intro h
    unfold atM
    rw [if_neg]
    rintro ⟨x, y, z⟩
    exact h ⟨y, by rw [hVg, if_pos x]; exact z⟩
  generalize hV : valuesM ⟨a, B, N, S⟩ = V at *
  generalize hpm : placesM ⟨a, B, N, S⟩ = PM at *
  have r1 := rvalues_c a B N S n1 n2 n3 h1 h2 h3 l1
  have r2 := vvalues_c a B N S n1 n2 n3 h1 h2 h3 l1
  have r3 := vplaces_c a B N S n1 n2 n3 h1 h2 h3 l2
  rw [hV] at r1 r2
  rw [hpm] at r3
  have r4 := sameRow_c V _ rfl
  have r5 := sameNums_c PM _ rfl
  obtain ⟨L, hL⟩ : ∃ q, V.map Val.cells = q := ⟨_, rfl⟩
  rw [hL] at r1 r2 r4
  have hLl : L.length = V.length := by rw [← hL, List.length_map]
  obtain ⟨PMc, hPMc⟩ : ∃ q, PM.map i64c = q := ⟨_, rfl⟩
  rw [hPMc] at r3 hpl r5
  obtain ⟨pk, hpk⟩ : ∃ q, pickM ⟨a, B, N, S⟩ P = q := ⟨_, rfl⟩
  obtain ⟨jn, hjn⟩ : ∃ q, joinM ⟨a, B, N, S⟩ ⟨a', B', N', S'⟩ = q := ⟨_, rfl⟩
  have p1 := pick_c a B N S n1 n2 n3 h1 h2 h3 l1 P PL hP lP
  have p2 := rpick_c a B N S n1 n2 n3 h1 h2 h3 l1 P PL hP lP
  have j1 := joined_c a B N S n1 n2 n3 h1 h2 h3 a' B' N' S' m1 m2 m3 g1 g2 g3 l1 l2 l3 l1' l2' l3'
  have j2 := rjoined_c a B N S n1 n2 n3 h1 h2 h3 a' B' N' S' m1 m2 m3 g1 g2 g3 l1 l1'
  rw [hpk] at p1 p2
  rw [hjn] at j1 j2
  obtain ⟨⟨ka, kB, kN, kS⟩, ke⟩ := pk
  obtain ⟨⟨ja, jB, jN, jS⟩, je⟩ := jn
  simp only [Vec.enc] at p1 p2 j1 j2
  obtain ⟨kb, hkb⟩ : ∃ q, kB.map boolc = q := ⟨_, rfl⟩
  obtain ⟨kn, hkn⟩ : ∃ q, kN.map i64c = q := ⟨_, rfl⟩
  obtain ⟨ks, hks⟩ : ∃ q, kS.map strc = q := ⟨_, rfl⟩
  obtain ⟨jb, hjb⟩ : ∃ q, jB.map boolc = q := ⟨_, rfl⟩
  obtain ⟨jnn, hjnn⟩ : ∃ q, jN.map i64c = q := ⟨_, rfl⟩
  obtain ⟨js, hjs⟩ : ∃ q, jS.map strc = q := ⟨_, rfl⟩
  have s1 := sameVec_c ka kB kN kS kb kn ks hkb hkn hks
  have s2 := sameVec_c ja jB jN jS jb jnn js hjb hjnn hjs
  rw [hkb, hkn, hks] at p1 p2
  rw [hjb, hjnn, hjs] at j1 j2
  have gn := good_c 1 [] [] [] [] [] [] rfl rfl rfl
  rw [vec_nil] at gn
  have hi1 : ∀ z : Int, (L.length : Int) = z → decide (i < z) = true → i < V.length := by intro z h g; simp only [decide_eq_true_eq] at g; omega
  have hi0 : decide (0 ≤ i) = true → 0 ≤ i := by simp
  have hvl : (if goodV ⟨a, B, N, S⟩ = true then (B.length : Int) else 0) = (L.length : Int) := by rw [hLl, hVg]; split <;> rfl
  have hat1 : ∀ z : Int, decide (i < z) = false → (L.length : Int) = z → atM ⟨a, B, N, S⟩ i = Val.zero := by
    intro z g h; simp only [decide_eq_false_iff_not] at g; exact hat0 (by omega)
  have hat2 : decide (0 ≤ i) = false → atM ⟨a, B, N, S⟩ i = Val.zero := by
    intro g; simp only [decide_eq_false_iff_not] at g; exact hat0 (by omega)
  clear hat0 hVg hLl
  refine PCall.x (nt := 113) (res := [.tmp 8]) mixed tt_ok [] Try.func9 rfl rfl rfl c9 (Nat.le_of_ble_eq_true rfl) ?_
  intro cp cc lp Q' hcp hcc hlp hQ
  repeat' (first
    | (with_reducible refine Nm.mk ?_; intro z hz)
    | (with_reducible refine IfB.mk ?_ ?_ <;> (intro h; cases h))
    | (with_reducible refine Asm.mk ?_ ?_; focus kernel_rfl)
    | (with_reducible refine isCP hcp ?_; first | (refine bP hcp (rgood_c a B N S n1 n2 n3 h1 h2 h3) ?_; intro z hz) | (refine xP hcp (r1) ?_; skip) | (refine vP hcp (none_r) ?_; intro v hv) | (refine bP hcp (good_c a B N S n1 n2 n3 h1 h2 h3) ?_; intro z hz) | (refine iP hcp (vlen_c a B N S n1 n2 n3 h1 h2 h3) ?_; intro z hz) | (refine vP hcp (vat_c a B N S n1 n2 n3 h1 h2 h3 i) ?_; intro v hv) | (refine xP hcp (r2) ?_; skip) | (refine bP hcp (r4) ?_; intro z hz) | (refine xP hcp (r3) ?_; skip) | (refine xP hcp (hpl) ?_; skip) | (refine bP hcp (r5) ?_; intro z hz) | (refine xP hcp (p1) ?_; skip) | (refine xP hcp (p2) ?_; skip) | (refine iP hcp (num_c _) ?_; intro z hz) | (refine bP hcp (s1) ?_; intro z hz) | (refine xP hcp (j1) ?_; skip) | (refine xP hcp (j2) ?_; skip) | (refine bP hcp (s2) ?_; intro z hz) | (refine bP hcp (gn) ?_; intro z hz))
    | (with_reducible refine isCC hcc ?_; first | (refine bA hcc (rgood_c a B N S n1 n2 n3 h1 h2 h3) rfl ?_; intro z hz) | (refine xA hcc (r1) rfl ?_; skip) | (refine vA hcc (none_r) rfl ?_; intro v hv) | (refine bA hcc (good_c a B N S n1 n2 n3 h1 h2 h3) rfl ?_; intro z hz) | (refine iA hcc (vlen_c a B N S n1 n2 n3 h1 h2 h3) rfl ?_; intro z hz) | (refine vA hcc (vat_c a B N S n1 n2 n3 h1 h2 h3 i) rfl ?_; intro v hv) | (refine xA hcc (r2) rfl ?_; skip) | (refine bA hcc (r4) rfl ?_; intro z hz) | (refine xA hcc (r3) rfl ?_; skip) | (refine xA hcc (hpl) rfl ?_; skip) | (refine bA hcc (r5) rfl ?_; intro z hz) | (refine xA hcc (p1) rfl ?_; skip) | (refine xA hcc (p2) rfl ?_; skip) | (refine iA hcc (num_c _) rfl ?_; intro z hz) | (refine bA hcc (s1) rfl ?_; intro z hz) | (refine xA hcc (j1) rfl ?_; skip) | (refine xA hcc (j2) rfl ?_; skip) | (refine bA hcc (s2) rfl ?_; intro z hz) | (refine bA hcc (gn) rfl ?_; intro z hz))
    | (with_reducible refine Ix.map hL cells_len (by decide) (hi0 (by assumption)) (hi1 _ (by assumption) (by assumption)) ?_; intro y hy)
    | (with_reducible refine Asm.mk2 ?_ ?_)
    | ((fail_if_success (with_reducible refine hQ _ ?_)); (fail_if_success (with_reducible refine Side.mk ?_)); (fail_if_success (with_reducible refine isCP hcp ?_)); (fail_if_success (with_reducible refine isCC hcc ?_)); (fail_if_success (with_reducible refine isLP hlp ?_)); (fail_if_success (with_reducible refine Ix.mk ?_)); (fail_if_success (with_reducible refine SIx.mk ?_)); (fail_if_success (with_reducible refine SEx.mk ?_)); (fail_if_success (with_reducible refine EIx.mk ?_)); (fail_if_success (with_reducible show False)); (fail_if_success (with_reducible refine hR ?_ _ ?_ ?_ ?_ ?_ ?_)); (fail_if_success (with_reducible refine hR2 ?_ _ ?_ ?_ ?_ ?_ ?_)); cbv))
  all_goals (clear r1 r2 r3 r4 r5 p1 p2 j1 j2 s1 s2 gn hpl hcp hcc hlp)
  all_goals (clear l1 l2 l3 l1' l2' l3' lP hP hpk hjn hkb hkn hks hjb hjnn hjs hPMc g1 g2 g3 h1 h2 h3 hV hpm hL hi1)
  all_goals first
    | (have e := hat _ (hi0 (by assumption)) (by assumption); clear hat hat1 hat2 hi0)
    | (have e := hat1 _ (by assumption) (by assumption); clear hat hat1 hat2 hi0)
    | (have e := hat2 (by assumption); clear hat hat1 hat2 hi0)
  all_goals first
    | (refine hQ _ ?_; clear hQ; simp_all; done)
    | (exfalso; clear hQ; simp_all [eqB_val]; done)
end Go.Proofs.Ytnhmnfokbinplaa
