/- tallyref: numbers as lists of digits: the order of sizes, as a value. Own work; no condition. -/
import Derived.Test.YtnhmnfokbinplaaLg4
namespace Go.Proofs.Ytnhmnfokbinplaa
open Go Go.RowKit
set_option maxRecDepth 100000
set_option linter.unusedSimpArgs false
set_option linter.unusedVariables false

def cmpB (less same : Bool) : Int := if same = true then 0 else if less = true then -1 else 1
theorem rcmp_c (less same : Bool) : PCall Try.prog 101 [.bool less, .bool same] fun r => r = [.int .i64 (cmpB less same)] := by
  refine PCall.x (nt := 7) (res := [.tmp 4]) mixed tt_ok [] Try.func101 rfl rfl rfl c101 (Nat.le_of_ble_eq_true rfl) ?_
  intro cp cc lp Q' hcp hcc hlp hQ
  repeat' (first
    | (with_reducible refine Nm.mk ?_; intro z hz)
    | (with_reducible refine IfB.mk ?_ ?_ <;> (intro h; cases h))
    | (with_reducible refine Asm.mk ?_ ?_; focus (first | kernel_rfl | decide))
    | (with_reducible refine Asm.mk2 ?_ ?_)
    | ((fail_if_success (with_reducible refine hQ _ ?_)); (fail_if_success (with_reducible refine Side.mk ?_)); (fail_if_success (with_reducible refine isCP hcp ?_)); (fail_if_success (with_reducible refine isCC hcc ?_)); (fail_if_success (with_reducible refine isLP hlp ?_)); (fail_if_success (with_reducible refine Ix.mk ?_)); (fail_if_success (with_reducible refine SIx.mk ?_)); (fail_if_success (with_reducible refine SEx.mk ?_)); (fail_if_success (with_reducible refine EIx.mk ?_)); (fail_if_success (with_reducible show False)); (fail_if_success (with_reducible refine hR ?_ _ ?_ ?_ ?_ ?_ ?_)); (fail_if_success (with_reducible refine hR2 ?_ _ ?_ ?_ ?_ ?_ ?_)); cbv))
  all_goals (refine hQ _ ?_; clear hQ hcp hcc hlp; rfl)
def ordI (a b : Int) : Int := if a < b then -1 else if a = b then 0 else 1
theorem ord_drop {a b : List Int} (ha : okD a) (hb : okD b) (hl : a.length = b.length) (i : Nat) (hi : i < a.length) (he : a.drop (i + 1) = b.drop (i + 1)) (hne : (a[i]?).getD 0 ≠ (b[i]?).getD 0) :
    ordI (lval a) (lval b) = if (a[i]?).getD 0 < (b[i]?).getD 0 then -1 else 1 := by
  rcases Int.lt_or_gt_of_ne hne with h | h
  · have := lval_less ha hb hl i hi he h
    unfold ordI; rw [if_pos this, if_pos h]
  · have := lval_less hb ha hl.symm i (by omega) he.symm h
    unfold ordI; rw [if_neg (by omega), if_neg (by omega), if_neg (by omega)]

set_option maxHeartbeats 2000000 in
theorem lsize_c (m m' : Bool) (a b : Int) (ha : 0 ≤ a) (hb : 0 ≤ b) (la : (dig a).length ≤ 1000) (lb : (dig b).length ≤ 1000) (L L' : List (List PV)) (hL : (dig a).map u32c = L) (hL' : (dig b).map u32c = L') :
    PCall Try.prog 157 [.agg [.bool m, .sl L], .agg [.bool m', .sl L']] fun r => r = [.int .i64 (ordI a b)] := by
  have oa := okD_dig a
  have ob := okD_dig b
  have ea := lval_dig' ha
  have eb := lval_dig' hb
  have h1 : L.length = (dig a).length := by rw [← hL]; simp
  have h2 : L'.length = (dig b).length := by rw [← hL']; simp
  have hne : ∀ x y : Int, (!decide (x = y)) = true → (L.length : Int) = x → (L'.length : Int) = y → ∀ z w : Int, (L.length : Int) = z → (L'.length : Int) = w → cmpB (decide (z < w)) false = ordI a b := by
    intro x y h hx hy z w hz hw
    simp only [Bool.not_eq_true', decide_eq_false_iff_not] at h
    unfold cmpB ordI
    rw [if_neg (by decide)]
    by_cases g : z < w
    · have := dig_len_less ha (n := b) (by omega)
      rw [decide_eq_true g, if_pos rfl, if_pos this]
    · have := dig_len_less hb (n := a) (by omega)
      rw [if_neg (by simpa using g), if_neg (by omega), if_neg (by omega)]
  have heq : ∀ x y : Int, (!decide (x = y)) = false → (L.length : Int) = x → (L'.length : Int) = y → (dig a).length = (dig b).length := by
    intro x y h hx hy
    simp only [Bool.not_eq_false', decide_eq_true_eq] at h
    omega
  generalize hda : dig a = da at *
  generalize hdb : dig b = db at *
  have hst0 : ∀ x z : Int, (L.length : Int) = x → IntKind.i64.wrap (x - 1) = z → (-1 ≤ z ∧ z < da.length) ∧ da.drop (z + 1).toNat = [] ∧ (da.length = db.length → db.drop (z + 1).toNat = []) := by
    intro x z h g
    rw [wrap_in (by omega)] at g
    exact ⟨by omega, List.drop_eq_nil_of_le (by omega), fun e => List.drop_eq_nil_of_le (by omega)⟩
  have hcmp : ∀ (x y z : Int), cmpB (decide (x < y)) false = z → z = if x < y then -1 else 1 := by
    intro x y z h; rw [← h]; unfold cmpB
    by_cases g : x < y <;> simp [g]
  clear hda hdb
  refine PCall.x (nt := 52) (res := [.tmp 4]) mixed tt_ok [] Try.func157 rfl rfl rfl c157 (Nat.le_of_ble_eq_true rfl) ?_
  intro cp cc lp Q' hcp hcc hlp hQ
  repeat' (first
    | (with_reducible refine Nm.mk ?_; intro z hz)
    | (with_reducible refine IfB.mk ?_ ?_ <;> (intro h; cases h))
    | (with_reducible refine Asm.mk ?_ ?_; focus (first | kernel_rfl | decide))
    | (with_reducible refine isCP hcp ?_; first | (refine iP hcp (rcmp_c _ _) ?_; intro z hz))
    | (with_reducible refine isCC hcc ?_; first | (refine iA hcc (rcmp_c _ _) rfl ?_; intro z hz))
    | (with_reducible refine Asm.mk2 ?_ ?_)
    | ((fail_if_success (with_reducible refine hQ _ ?_)); (fail_if_success (with_reducible refine Side.mk ?_)); (fail_if_success (with_reducible refine isCP hcp ?_)); (fail_if_success (with_reducible refine isCC hcc ?_)); (fail_if_success (with_reducible refine isLP hlp ?_)); (fail_if_success (with_reducible refine Ix.mk ?_)); (fail_if_success (with_reducible refine SIx.mk ?_)); (fail_if_success (with_reducible refine SEx.mk ?_)); (fail_if_success (with_reducible refine EIx.mk ?_)); (fail_if_success (with_reducible show False)); (fail_if_success (with_reducible refine hR ?_ _ ?_ ?_ ?_ ?_ ?_)); (fail_if_success (with_reducible refine hR2 ?_ _ ?_ ?_ ?_ ?_ ?_)); cbv))
  · refine hQ _ ?_
    have := hne _ _ (by assumption) (by assumption) (by assumption) _ _ (by assumption) (by assumption)
    rw [← this]; subst_vars; rfl
  · have hl := heq _ _ (by assumption) (by assumption) (by assumption)
    have hz0 := hst0 _ _ (by assumption) hz
    clear hne heq hst0
    refine loopK (ι := Int) mixed tt_ok hcp hcc hlp [2, 3] (fun i => [(5, .p (.int .i64 i))]) (fun i => (-1 ≤ i ∧ i < da.length) ∧ da.drop (i + 1).toNat = db.drop (i + 1).toNat) (fun i => (i + 1).toNat) z (fun _ => rfl)
      ⟨hz0.1, by rw [hz0.2.1, hz0.2.2 hl]⟩ ⟨rfl, trivial⟩ ?_
    rintro R i ⟨⟨hi0, hi1⟩, hd⟩ hR
    have hk : decide (0 ≤ i) = true → 0 ≤ i := of_decide_eq_true
    have hkb : i < db.length := by omega
    have hend : decide (0 ≤ i) = false → ordI a b = 0 := by
      intro h
      simp only [decide_eq_false_iff_not] at h
      rw [show (i + 1).toNat = 0 by omega] at hd
      simp only [List.drop_zero] at hd
      rw [← ea, ← eb, hd]; simp [ordI]
    have hst : decide (0 ≤ i) = true → ∀ z, IntKind.i64.wrap (i - 1) = z → z = i - 1 ∧ (-1 ≤ i - 1 ∧ i - 1 < da.length) ∧ (i - 1 + 1).toNat < (i + 1).toNat := by
      intro h z g
      have := hk h
      rw [wrap_in (by omega)] at g
      omega
    have hdif : ∀ x y z w : Int, decide (0 ≤ i) = true → (!decide (x = y)) = true → da[i.toNat]? = some x → db[i.toNat]? = some y → da[i.toNat]? = some z → db[i.toNat]? = some w → ordI a b = if z < w then -1 else 1 := by
      intro x y z w h hxy hx hy hz hw
      rw [hx] at hz
      rw [hy] at hw
      simp only [Option.some.injEq] at hz hw
      subst hz hw
      have := hk h
      rw [← ea, ← eb]
      have e := ord_drop oa ob hl i.toNat (by omega) (by rw [show i.toNat + 1 = (i + 1).toNat by omega]; exact hd) (by rw [hx, hy]; simpa using hxy)
      rw [hx, hy] at e; exact e
    have hsame : ∀ x y : Int, decide (0 ≤ i) = true → (!decide (x = y)) = false → da[i.toNat]? = some x → db[i.toNat]? = some y → da.drop (i - 1 + 1).toNat = db.drop (i - 1 + 1).toNat := by
      intro x y h hxy hx hy
      have := hk h
      have e : x = y := by simpa using hxy
      have g1 := (List.getElem?_eq_some_iff.1 hx).1
      have g2 := (List.getElem?_eq_some_iff.1 hy).1
      rw [show (i - 1 + 1).toNat = i.toNat by omega, List.drop_eq_getElem_cons g1, List.drop_eq_getElem_cons g2]
      rw [show (i + 1).toNat = i.toNat + 1 by omega] at hd
      rw [hd, (List.getElem?_eq_some_iff.1 hx).2, (List.getElem?_eq_some_iff.1 hy).2, e]
    repeat' (first
      | (with_reducible refine Nm.mk ?_; intro z hz)
      | (with_reducible refine IfB.mk ?_ ?_ <;> (intro h; cases h))
      | (with_reducible refine Asm.mk ?_ ?_; focus kernel_rfl)
      | (with_reducible refine isCP hcp ?_; first | (refine iP hcp (rcmp_c _ _) ?_; intro z hz))
      | (with_reducible refine isCC hcc ?_; first | (refine iA hcc (rcmp_c _ _) rfl ?_; intro z hz))
      | (with_reducible refine Ix.map hL u32c_len (by decide) (hk (by assumption)) hi1 ?_; intro x hx)
      | (with_reducible refine Ix.map hL' u32c_len (by decide) (hk (by assumption)) hkb ?_; intro y hy)
      | (with_reducible refine Asm.mk2 ?_ ?_)
      | ((fail_if_success (with_reducible refine hQ _ ?_)); (fail_if_success (with_reducible refine Side.mk ?_)); (fail_if_success (with_reducible refine isCP hcp ?_)); (fail_if_success (with_reducible refine isCC hcc ?_)); (fail_if_success (with_reducible refine isLP hlp ?_)); (fail_if_success (with_reducible refine Ix.mk ?_)); (fail_if_success (with_reducible refine SIx.mk ?_)); (fail_if_success (with_reducible refine SEx.mk ?_)); (fail_if_success (with_reducible refine EIx.mk ?_)); (fail_if_success (with_reducible show False)); (fail_if_success (with_reducible refine hR ?_ _ ?_ ?_ ?_ ?_ ?_)); (fail_if_success (with_reducible refine hR2 ?_ _ ?_ ?_ ?_ ?_ ?_)); cbv))
    all_goals first
      | (obtain ⟨e1, u, mu⟩ := hst (by assumption) _ (by assumption)
         have hs := hsame _ _ (by assumption) (by assumption) (by assumption) (by assumption)
         refine hR (i - 1) _ ⟨u, hs⟩ mu ⟨e1 ▸ rfl, trivial⟩ ⟨rfl, rfl, trivial⟩ rfl)
      | (refine hQ _ ?_
         rw [hend (by assumption)])
      | (refine hQ _ ?_
         have h1 := hdif _ _ _ _ (by assumption) (by assumption) (by assumption) (by assumption) (by assumption) (by assumption)
         rename_i y1 hy1
         rw [← hy1] at hz
         rw [h1, hcmp _ _ _ hz])
end Go.Proofs.Ytnhmnfokbinplaa
