/- tallyref: numbers as lists of digits: without zeros at the end, the order of sizes, as a value. Own work; no condition. -/
import Derived.Test.YtnhmnfokbinplaaLg3
namespace Go.Proofs.Ytnhmnfokbinplaa
open Go Go.RowKit
set_option maxRecDepth 100000
set_option linter.unusedSimpArgs false
set_option linter.unusedVariables false

theorem dig_nil {v : Int} (h : 0 ≤ v) (e : dig v = []) : v = 0 := by
  have := lval_dig' h
  rw [e] at this; simpa [lval] using this.symm
theorem sgn_abs {m : Bool} {v : Int} (h : 0 ≤ v) : uabs (sgn m v) = v := by
  unfold sgn uabs; cases m <;> simp <;> omega
theorem longZ_sgn {m : Bool} {d : List Int} (hd : okD d) {n : Nat} (hn : n ≤ d.length) (hv : lval (d.take n) = lval d) (h : n = 0 ∨ (d[n - 1]?).getD 0 ≠ 0) :
    longZ (sgn m (lval d)) = [.bool (if n = 0 then false else m), .sl ((d.take n).map u32c)] := by
  have e := trim_stop hd hn hv h
  have hp := (lval_lt hd).1
  have key : decide (sgn m (lval d) < 0) = if n = 0 then false else m := ?_
  · rw [longZ, longD, sgn_abs hp, ← e, key]
  by_cases h0 : n = 0
  · subst h0
    rw [List.take_zero] at hv
    rw [if_pos rfl, ← hv]; simp [lval, sgn]
  · rw [if_neg h0]
    have hv0 : lval d ≠ 0 := by
      intro hz
      rw [hz, dig_zero] at e
      have := congrArg List.length e
      rw [List.length_take, List.length_nil] at this
      omega
    have hp1 : 0 < lval d := by omega
    unfold sgn
    cases m <;> simp <;> omega

set_option maxHeartbeats 1000000 in
theorem trim_c (m : Bool) (d : List Int) (hd : okD d) (L : List (List PV)) (hL : d.map u32c = L) (hlen : d.length ≤ 1000) : PCall Try.prog 106 [.agg [.bool m, .sl L]] fun r => r = [.agg (longZ (sgn m (lval d)))] := by
  have hl : L.length = d.length := by rw [← hL]; simp
  refine PCall.x (nt := 29) (res := [.cell 2 134]) mixed tt_ok [] Try.func106 rfl rfl rfl c106 (Nat.le_of_ble_eq_true rfl) ?_
  intro cp cc lp Q' hcp hcc hlp hQ
  repeat' (first
    | (with_reducible refine Nm.mk ?_; intro z hz)
    | (with_reducible refine IfB.mk ?_ ?_ <;> (intro h; cases h))
    | (with_reducible refine Asm.mk ?_ ?_; focus (first | kernel_rfl | decide))
    | (with_reducible refine Asm.mk2 ?_ ?_)
    | ((fail_if_success (with_reducible refine hQ _ ?_)); (fail_if_success (with_reducible refine Side.mk ?_)); (fail_if_success (with_reducible refine isCP hcp ?_)); (fail_if_success (with_reducible refine isCC hcc ?_)); (fail_if_success (with_reducible refine isLP hlp ?_)); (fail_if_success (with_reducible refine Ix.mk ?_)); (fail_if_success (with_reducible refine SIx.mk ?_)); (fail_if_success (with_reducible refine SEx.mk ?_)); (fail_if_success (with_reducible refine EIx.mk ?_)); (fail_if_success (with_reducible show False)); (fail_if_success (with_reducible refine hR ?_ _ ?_ ?_ ?_ ?_ ?_)); (fail_if_success (with_reducible refine hR2 ?_ _ ?_ ?_ ?_ ?_ ?_)); cbv))
  simp only [nc] at hz
  simp only [nc'] at hz
  refine loopK (ι := Int) mixed tt_ok hcp hcc hlp [1, 2] (fun n => [(3, .p (.int .i64 n))]) (fun n => (0 ≤ n ∧ n ≤ d.length) ∧ lval (d.take n.toNat) = lval d) (fun n => n.toNat) z (fun _ => rfl)
    ⟨by omega, by rw [List.take_of_length_le (by omega)]⟩ ⟨rfl, trivial⟩ ?_
  rintro R n ⟨⟨hn0, hn1⟩, hv⟩ hR
  have hidx : decide (0 < n) = true → ∀ z, IntKind.i64.wrap (n - 1) = z → z = n - 1 ∧ 0 ≤ z ∧ z < d.length := by
    intro h z g
    simp only [decide_eq_true_eq] at h
    rw [wrap_in (by omega)] at g
    omega
  have hnl : n.toNat ≤ d.length := by omega
  have hst : decide (0 < n) = true → ∀ z, IntKind.i64.wrap (n - 1) = z → (0 ≤ n - 1 ∧ n - 1 ≤ d.length) ∧ (n - 1).toNat < n.toNat ∧ z = n - 1 ∧ z.toNat = n.toNat - 1 ∧ 0 < n.toNat := by
    intro h z g
    simp only [decide_eq_true_eq] at h
    rw [wrap_in (by omega)] at g
    omega
  have hz0 : decide (0 < n) = false → n.toNat = 0 := by intro h; simp only [decide_eq_false_iff_not] at h; omega
  have he0 : decide (n = 0) = true → n.toNat = 0 := by intro h; simp only [decide_eq_true_eq] at h; omega
  have he1 : decide (n = 0) = false → ¬ n.toNat = 0 := by intro h; simp only [decide_eq_false_iff_not] at h; omega
  have hcut : ∀ z, List.take (((some n).getD (L.length : Int)).toNat - ((none : Option Int).getD 0).toNat) (List.drop ((none : Option Int).getD 0).toNat L) = z → z = (d.take n.toNat).map u32c := by
    intro z h
    rw [← h, ← hL, List.map_take]; rfl
  have hall : L.all (fun e => e.length == 1) = true := by rw [← hL]; simp [u32c]
  have hsl : (0 : Int) ≤ 0 ∧ (0 : Int) ≤ n ∧ n ≤ L.length ∧ L.all (fun e => e.length == 1) = true ∧ (1 : Nat) ≠ 0 := ⟨by omega, by omega, by omega, hall, by decide⟩
  repeat' (first
    | (with_reducible refine Nm.mk ?_; intro z hz)
    | (with_reducible refine IfB.mk ?_ ?_ <;> (intro h; cases h))
    | (with_reducible refine Asm.mk ?_ ?_; focus kernel_rfl)
    | (with_reducible refine Ix.map hL u32c_len (by decide) (hidx (by assumption) _ (by assumption)).2.1 (hidx (by assumption) _ (by assumption)).2.2 ?_; intro x hx)
    | (with_reducible refine Asm.mk2 ?_ ?_)
    | ((fail_if_success (with_reducible refine hQ _ ?_)); (fail_if_success (with_reducible refine Side.mk ?_)); (fail_if_success (with_reducible refine isCP hcp ?_)); (fail_if_success (with_reducible refine isCC hcc ?_)); (fail_if_success (with_reducible refine isLP hlp ?_)); (fail_if_success (with_reducible refine Ix.mk ?_)); (fail_if_success (with_reducible refine SIx.mk ?_)); (fail_if_success (with_reducible refine SEx.mk ?_)); (fail_if_success (with_reducible refine EIx.mk ?_)); (fail_if_success (with_reducible show False)); (fail_if_success (with_reducible refine hR ?_ _ ?_ ?_ ?_ ?_ ?_)); (fail_if_success (with_reducible refine hR2 ?_ _ ?_ ?_ ?_ ?_ ?_)); cbv))
  all_goals try exact Side.mk hsl
  · obtain ⟨g1, g2, g3, g4, g5⟩ := hst (by assumption) _ hz
    have hx0 : decide (x = 0) = true := by assumption
    rename_i y1 hy1 y2
    obtain ⟨k1, k2, k3, k4, k5⟩ := hst (by assumption) _ hy1
    refine hR (n - 1) _ ⟨g1, ?_⟩ g2 ⟨g3 ▸ rfl, trivial⟩ ⟨rfl, rfl, trivial⟩ rfl
    rw [← g3, g4]
    refine trim_step g5 hnl hv ?_
    rw [show d[n.toNat - 1]? = some x by rw [← k4]; exact hx]
    exact of_decide_eq_true hx0
  all_goals
    have hs : n.toNat = 0 ∨ (d[n.toNat - 1]?).getD 0 ≠ 0 := by
      first
        | exact .inl (hz0 (by assumption))
        | (right
           have hx0 : decide (x = 0) = false := by assumption
           obtain ⟨k1, k2, k3, k4, k5⟩ := hst (by assumption) _ (show IntKind.i64.wrap (n - 1) = _ by assumption)
           rw [k4] at hx
           rw [hx]
           exact of_decide_eq_false hx0)
  all_goals (have hzz := hcut _ (by assumption); refine hQ _ ?_; rw [longZ_sgn hd (n := n.toNat) hnl hv hs, hzz])
  all_goals first
    | (rw [if_pos (he0 hz)]; done)
    | (rw [if_neg (he1 hz)]; done)
    | (rw [if_pos (he0 hz)]; rfl)
    | (rw [if_neg (he1 hz)]; rfl)
end Go.Proofs.Ytnhmnfokbinplaa
