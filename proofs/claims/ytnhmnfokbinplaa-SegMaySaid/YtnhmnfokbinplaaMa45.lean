/- Expressions: the workers that compile makes; Expressions: compile, what it makes; Expressions: nodes, height, what is built; what is worked out ahead; Expressions: others put in for columns; Expressions: Eval; Expressions: Parts; the law ExprParts; Expressions: tallyref's Neat and Parts; tallyref's Order; the order asked the other way round; Segments: what may be said of a part by a head; Segments: what may be said of a part by a head, as tallyref says it; Expressions that came in: what they read as; Segments: May of both texts; the law SegMay. Own work; no condition. -/
import Derived.Test.YtnhmnfokbinplaaMa44
import Derived.Test.YtnhmnfokbinplaaAbsQ
import Derived.Test.YtnhmnfokbinplaaMa43
namespace Go.Proofs.Ytnhmnfokbinplaa
open Go Go.RowKit
set_option maxRecDepth 100000
set_option linter.unusedSimpArgs false
set_option linter.unusedVariables false

theorem Ix.el {L : List (List PV)} {es : Nat} {i : Int} {K : List PV → Prop} (n : Nat) {e : List PV} (hi : 0 ≤ i) (hn : i.toNat = n) (h : L[n]? = some e) (he : e.length = es) (hes : es ≠ 0) (k : K e) : Ix es L i K := ⟨e, hi, by rw [hn]; exact h, he, hes, k⟩

abbrev oneW (f L : PV) : PV := .fn 167 [.ip [f], .ip [L]]
abbrev twoW (f L : PV) : PV := .fn 169 [.ip [f], .ip [L]]
abbrev byW (f : PV) (cells : List PV) (L : PV) : PV := twoW (.fn 171 [.ip [f], .ip cells]) L

/-- one, two, by: what they hand back. -/
theorem one_c (k : Nat) (caps : List PV) (L : List (List PV)) : PCall Try.prog 166 [.fn k caps, .ip [.sl L]] fun r => r = [oneW (.fn k caps) (.sl L)] := by
  refine PCall.x (nt := 5) (res := [.tmp 3]) mixed tt_ok [] Try.func166 rfl rfl rfl c166 (Nat.le_of_ble_eq_true rfl) ?_
  intro cp cc lp Q' hcp hcc hlp hQ
  repeat' (first
    | (with_reducible refine Nm.mk ?_; intro z hz)
    | (with_reducible refine IfB.mk ?_ ?_ <;> (intro h; cases h))
    | (with_reducible refine Two.l ?_; refine Asm.mk ?_ ?_; focus (decide +kernel))
    | (with_reducible refine Two.r ?_)
    | (with_reducible refine Asm.mk ?_ ?_; focus (first | kernel_rfl | decide))
    | (with_reducible refine Asm.mk2 ?_ ?_)
    | ((fail_if_success (with_reducible refine hQ _ ?_)); (fail_if_success (with_reducible refine Side.mk ?_)); (fail_if_success (with_reducible refine isCP hcp ?_)); (fail_if_success (with_reducible refine isCC hcc ?_)); (fail_if_success (with_reducible refine isLP hlp ?_)); (fail_if_success (with_reducible refine Ix.mk ?_)); (fail_if_success (with_reducible refine SIx.mk ?_)); (fail_if_success (with_reducible refine SEx.mk ?_)); (fail_if_success (with_reducible refine EIx.mk ?_)); (fail_if_success (with_reducible refine RIx.mk ?_)); (fail_if_success (with_reducible show False)); (fail_if_success (with_reducible refine hR ?_ _ ?_ ?_ ?_ ?_ ?_)); (fail_if_success (with_reducible refine hR2 ?_ _ ?_ ?_ ?_ ?_ ?_)); cbv))
  all_goals (refine hQ _ ?_; clear hQ hcp hcc hlp; subst_vars; simp_all [oneW])
theorem two_c (k : Nat) (caps : List PV) (L : List (List PV)) : PCall Try.prog 168 [.fn k caps, .ip [.sl L]] fun r => r = [twoW (.fn k caps) (.sl L)] := by
  refine PCall.x (nt := 5) (res := [.tmp 3]) mixed tt_ok [] Try.func168 rfl rfl rfl c168 (Nat.le_of_ble_eq_true rfl) ?_
  intro cp cc lp Q' hcp hcc hlp hQ
  repeat' (first
    | (with_reducible refine Nm.mk ?_; intro z hz)
    | (with_reducible refine IfB.mk ?_ ?_ <;> (intro h; cases h))
    | (with_reducible refine Two.l ?_; refine Asm.mk ?_ ?_; focus (decide +kernel))
    | (with_reducible refine Two.r ?_)
    | (with_reducible refine Asm.mk ?_ ?_; focus (first | kernel_rfl | decide))
    | (with_reducible refine Asm.mk2 ?_ ?_)
    | ((fail_if_success (with_reducible refine hQ _ ?_)); (fail_if_success (with_reducible refine Side.mk ?_)); (fail_if_success (with_reducible refine isCP hcp ?_)); (fail_if_success (with_reducible refine isCC hcc ?_)); (fail_if_success (with_reducible refine isLP hlp ?_)); (fail_if_success (with_reducible refine Ix.mk ?_)); (fail_if_success (with_reducible refine SIx.mk ?_)); (fail_if_success (with_reducible refine SEx.mk ?_)); (fail_if_success (with_reducible refine EIx.mk ?_)); (fail_if_success (with_reducible refine RIx.mk ?_)); (fail_if_success (with_reducible show False)); (fail_if_success (with_reducible refine hR ?_ _ ?_ ?_ ?_ ?_ ?_)); (fail_if_success (with_reducible refine hR2 ?_ _ ?_ ?_ ?_ ?_ ?_)); cbv))
  all_goals (refine hQ _ ?_; clear hQ hcp hcc hlp; subst_vars; simp_all [twoW])
theorem by_c (k : Nat) (caps : List PV) (cells : List PV) (L : List (List PV)) : PCall Try.prog 170 [.fn k caps, .ip [.fn 168 [.ip [.sl L]]], .ip cells] fun r => r = [byW (.fn k caps) cells (.sl L)] := by
  refine PCall.x (nt := 8) (res := [.tmp 4]) mixed tt_ok [(168, [0])] Try.func170 rfl rfl rfl c170 (Nat.le_of_ble_eq_true rfl) ?_
  intro cp cc lp Q' hcp hcc hlp hQ
  repeat' (first
    | (with_reducible refine Nm.mk ?_; intro z hz)
    | (with_reducible refine IfB.mk ?_ ?_ <;> (intro h; cases h))
    | (with_reducible refine Two.l ?_; refine Asm.mk ?_ ?_; focus (decide +kernel))
    | (with_reducible refine Two.r ?_)
    | (with_reducible refine Asm.mk ?_ ?_; focus (first | kernel_rfl | decide))
    | (with_reducible refine isCP hcp ?_; first | (refine xP hcp (two_c _ _ _) ?_; skip))
    | (with_reducible refine isCC hcc ?_; first | (refine xA hcc (two_c _ _ _) rfl ?_; skip))
    | (with_reducible refine Asm.mk2 ?_ ?_)
    | ((fail_if_success (with_reducible refine hQ _ ?_)); (fail_if_success (with_reducible refine Side.mk ?_)); (fail_if_success (with_reducible refine isCP hcp ?_)); (fail_if_success (with_reducible refine isCC hcc ?_)); (fail_if_success (with_reducible refine isLP hlp ?_)); (fail_if_success (with_reducible refine Ix.mk ?_)); (fail_if_success (with_reducible refine SIx.mk ?_)); (fail_if_success (with_reducible refine SEx.mk ?_)); (fail_if_success (with_reducible refine EIx.mk ?_)); (fail_if_success (with_reducible refine RIx.mk ?_)); (fail_if_success (with_reducible show False)); (fail_if_success (with_reducible refine hR ?_ _ ?_ ?_ ?_ ?_ ?_)); (fail_if_success (with_reducible refine hR2 ?_ _ ?_ ?_ ?_ ?_ ?_)); cbv))
  exact hQ _ rfl

/-- What a worker of one part, of two, does. -/
theorem run1_c (kf : Nat) (cf : List PV) (k0 : Nat) (c0 : List PV) (kc : Nat) (cc0 : List PV) (L : List (List PV)) (h0 : L[0]? = some [.fn k0 c0]) (a b : Val)
    (ha : PCall Try.prog k0 (.fn kc cc0 :: c0) fun r => r = [a.enc]) (hb : PCall Try.prog kf (a.enc :: cf) fun r => r = [b.enc]) :
    PCall Try.prog 167 [.fn kc cc0, .ip [.fn kf cf], .ip [.sl L]] fun r => r = [b.enc] := by
  have hb' : ∀ v : Val, a = v → PCall Try.prog kf (.agg [.int .i64 v.k, .int .i64 v.n, .str v.s] :: cf) fun r => r = [b.enc] := by rintro v rfl; exact hb
  refine PCall.x (nt := 12) (res := [.cell 4 25]) mixed tt_ok [] Try.func167 rfl rfl rfl c167 (Nat.le_of_ble_eq_true rfl) ?_
  intro cp cc lp Q' hcp hcc hlp hQ
  repeat' (first
    | (with_reducible refine Nm.mk ?_; intro z hz)
    | (with_reducible refine IfB.mk ?_ ?_ <;> (intro h; cases h))
    | (with_reducible refine Two.l ?_; refine Asm.mk ?_ ?_; focus (decide +kernel))
    | (with_reducible refine Two.r ?_)
    | (with_reducible refine Asm.mk ?_ ?_; focus kernel_rfl)
    | (with_reducible refine isCP hcp ?_; first | (refine vP hcp (ha) ?_; intro v hv) | (refine vP hcp (hb' _ (by assumption)) ?_; intro v hv))
    | (with_reducible refine isCC hcc ?_; first | (refine vA hcc (ha) rfl ?_; intro v hv) | (refine vA hcc (hb' _ (by assumption)) rfl ?_; intro v hv))
    | (with_reducible refine Ix.el 0 (by decide) rfl h0 rfl (by decide) ?_)
    | (with_reducible refine Asm.mk2 ?_ ?_)
    | ((fail_if_success (with_reducible refine hQ _ ?_)); (fail_if_success (with_reducible refine Side.mk ?_)); (fail_if_success (with_reducible refine isCP hcp ?_)); (fail_if_success (with_reducible refine isCC hcc ?_)); (fail_if_success (with_reducible refine isLP hlp ?_)); (fail_if_success (with_reducible refine Ix.mk ?_)); (fail_if_success (with_reducible refine SIx.mk ?_)); (fail_if_success (with_reducible refine SEx.mk ?_)); (fail_if_success (with_reducible refine EIx.mk ?_)); (fail_if_success (with_reducible refine RIx.mk ?_)); (fail_if_success (with_reducible show False)); (fail_if_success (with_reducible refine hR ?_ _ ?_ ?_ ?_ ?_ ?_)); (fail_if_success (with_reducible refine hR2 ?_ _ ?_ ?_ ?_ ?_ ?_)); cbv))
  all_goals (refine hQ _ ?_; clear hQ hcp hcc hlp ha hb hb'; subst_vars; rfl)
theorem run2_c (kf : Nat) (cf : List PV) (k0 : Nat) (c0 : List PV) (k1 : Nat) (c1 : List PV) (kc : Nat) (cc0 : List PV) (L : List (List PV)) (h0 : L[0]? = some [.fn k0 c0]) (h1 : L[1]? = some [.fn k1 c1]) (a b c : Val)
    (ha : PCall Try.prog k0 (.fn kc cc0 :: c0) fun r => r = [a.enc]) (hb : PCall Try.prog k1 (.fn kc cc0 :: c1) fun r => r = [b.enc]) (hc : PCall Try.prog kf (a.enc :: b.enc :: cf) fun r => r = [c.enc]) :
    PCall Try.prog 169 [.fn kc cc0, .ip [.fn kf cf], .ip [.sl L]] fun r => r = [c.enc] := by
  have hc' : ∀ v w : Val, a = v → b = w → PCall Try.prog kf (.agg [.int .i64 v.k, .int .i64 v.n, .str v.s] :: .agg [.int .i64 w.k, .int .i64 w.n, .str w.s] :: cf) fun r => r = [c.enc] := by rintro v w rfl rfl; exact hc
  refine PCall.x (nt := 17) (res := [.cell 4 25]) mixed tt_ok [] Try.func169 rfl rfl rfl c169 (Nat.le_of_ble_eq_true rfl) ?_
  intro cp cc lp Q' hcp hcc hlp hQ
  repeat' (first
    | (with_reducible refine Nm.mk ?_; intro z hz)
    | (with_reducible refine IfB.mk ?_ ?_ <;> (intro h; cases h))
    | (with_reducible refine Two.l ?_; refine Asm.mk ?_ ?_; focus (decide +kernel))
    | (with_reducible refine Two.r ?_)
    | (with_reducible refine Asm.mk ?_ ?_; focus kernel_rfl)
    | (with_reducible refine isCP hcp ?_; first | (refine vP hcp (ha) ?_; intro v hv) | (refine vP hcp (hb) ?_; intro v hv) | (refine vP hcp (hc' _ _ (by assumption) (by assumption)) ?_; intro v hv))
    | (with_reducible refine isCC hcc ?_; first | (refine vA hcc (ha) rfl ?_; intro v hv) | (refine vA hcc (hb) rfl ?_; intro v hv) | (refine vA hcc (hc' _ _ (by assumption) (by assumption)) rfl ?_; intro v hv))
    | (with_reducible refine Ix.el 0 (by decide) rfl h0 rfl (by decide) ?_)
    | (with_reducible refine Ix.el 1 (by decide) rfl h1 rfl (by decide) ?_)
    | (with_reducible refine Asm.mk2 ?_ ?_)
    | ((fail_if_success (with_reducible refine hQ _ ?_)); (fail_if_success (with_reducible refine Side.mk ?_)); (fail_if_success (with_reducible refine isCP hcp ?_)); (fail_if_success (with_reducible refine isCC hcc ?_)); (fail_if_success (with_reducible refine isLP hlp ?_)); (fail_if_success (with_reducible refine Ix.mk ?_)); (fail_if_success (with_reducible refine SIx.mk ?_)); (fail_if_success (with_reducible refine SEx.mk ?_)); (fail_if_success (with_reducible refine EIx.mk ?_)); (fail_if_success (with_reducible refine RIx.mk ?_)); (fail_if_success (with_reducible show False)); (fail_if_success (with_reducible refine hR ?_ _ ?_ ?_ ?_ ?_ ?_)); (fail_if_success (with_reducible refine hR2 ?_ _ ?_ ?_ ?_ ?_ ?_)); cbv))
  all_goals (refine hQ _ ?_; clear hQ hcp hcc hlp ha hb hc hc'; subst_vars; rfl)
theorem runBy_c (kf : Nat) (cf : List PV) (op n k m : Int) (s : ByteArray) (es : List (List PV)) (a b c : Val) (hc : PCall Try.prog kf (.int .i64 op :: a.enc :: b.enc :: cf) fun r => r = [c.enc]) :
    PCall Try.prog 171 [a.enc, b.enc, .ip [.fn kf cf], .ip [.int .i64 op, .int .i64 n, .int .i64 k, .int .i64 m, .str s, .sl es]] fun r => r = [c.enc] := by
  obtain ⟨ak, an, as'⟩ := a
  obtain ⟨bk', bn, bs⟩ := b
  have hb3 : ∀ {x y z : AV} {p q r : PV} {cs : List PV}, pureX x = some p → pureX y = some q → pureX z = some r → optL pureX (catX [x, y, z] (mapX .p cs)) = some (p :: q :: r :: cs) := by
    intro x y z p q r cs h1 h2 h3
    show optL pureX (x :: y :: z :: mapX .p cs) = _
    simp only [optL, h1, h2, h3, pure_p]
  simp only [Val.enc] at hc
  refine PCall.x (nt := 13) (res := [.cell 6 25]) mixed tt_ok [] Try.func171 rfl rfl rfl c171 (Nat.le_of_ble_eq_true rfl) ?_
  intro cp cc lp Q' hcp hcc hlp hQ
  repeat' (first
    | (with_reducible refine Nm.mk ?_; intro z hz)
    | (with_reducible refine IfB.mk ?_ ?_ <;> (intro h; cases h))
    | (with_reducible refine Two.l ?_; refine Asm.mk ?_ ?_; focus (decide +kernel))
    | (with_reducible refine Two.r ?_)
    | (with_reducible refine Asm.mk ?_ ?_; focus kernel_rfl)
    | (with_reducible refine isCC hcc ?_; refine vA hcc hc (hb3 rfl rfl rfl) ?_; intro v hv)
    | (with_reducible refine Asm.mk2 ?_ ?_)
    | ((fail_if_success (with_reducible refine hQ _ ?_)); (fail_if_success (with_reducible refine Side.mk ?_)); (fail_if_success (with_reducible refine isCP hcp ?_)); (fail_if_success (with_reducible refine isCC hcc ?_)); (fail_if_success (with_reducible refine isLP hlp ?_)); (fail_if_success (with_reducible refine Ix.mk ?_)); (fail_if_success (with_reducible refine SIx.mk ?_)); (fail_if_success (with_reducible refine SEx.mk ?_)); (fail_if_success (with_reducible refine EIx.mk ?_)); (fail_if_success (with_reducible refine RIx.mk ?_)); (fail_if_success (with_reducible show False)); (fail_if_success (with_reducible refine hR ?_ _ ?_ ?_ ?_ ?_ ?_)); (fail_if_success (with_reducible refine hR2 ?_ _ ?_ ?_ ?_ ?_ ?_)); cbv))
  all_goals (refine hQ _ ?_; clear hQ hcp hcc hlp hc hb3; subst_vars; rfl)
theorem run3_c (k0 : Nat) (c0 : List PV) (k1 : Nat) (c1 : List PV) (k2 : Nat) (c2 : List PV) (kc : Nat) (cc0 : List PV) (L : List (List PV)) (h0 : L[0]? = some [.fn k0 c0]) (h1 : L[1]? = some [.fn k1 c1]) (h2 : L[2]? = some [.fn k2 c2]) (a b c : Val)
    (ha : PCall Try.prog k0 (.fn kc cc0 :: c0) fun r => r = [a.enc]) (hb : PCall Try.prog k1 (.fn kc cc0 :: c1) fun r => r = [b.enc]) (hc : PCall Try.prog k2 (.fn kc cc0 :: c2) fun r => r = [c.enc]) :
    PCall Try.prog 178 [.fn kc cc0, .ip [.sl L]] fun r => r = [(if trueV a = true then b else c).enc] := by
  have ht : ∀ v : Val, a = v → PCall Try.prog 57 [.agg [.int .i64 v.k, .int .i64 v.n, .str v.s]] fun r => r = [.bool (trueV a)] := by rintro v rfl; exact true_c _ _ _
  refine PCall.x (nt := 20) (res := [.cell 3 25]) mixed tt_ok [] Try.func178 rfl rfl rfl c178 (Nat.le_of_ble_eq_true rfl) ?_
  intro cp cc lp Q' hcp hcc hlp hQ
  repeat' (first
    | (with_reducible refine Nm.mk ?_; intro z hz)
    | (with_reducible refine IfB.mk ?_ ?_ <;> (intro h; cases h))
    | (with_reducible refine Two.l ?_; refine Asm.mk ?_ ?_; focus (decide +kernel))
    | (with_reducible refine Two.r ?_)
    | (with_reducible refine Asm.mk ?_ ?_; focus kernel_rfl)
    | (with_reducible refine isCP hcp ?_; first | (refine bP hcp (ht _ (by assumption)) ?_; intro z hz))
    | (with_reducible refine isCC hcc ?_; first | (refine bA hcc (ht _ (by assumption)) rfl ?_; intro z hz))
    | (with_reducible refine Ix.el 0 (by decide) rfl h0 rfl (by decide) ?_)
    | (with_reducible refine Ix.el 1 (by decide) rfl h1 rfl (by decide) ?_)
    | (with_reducible refine Ix.el 2 (by decide) rfl h2 rfl (by decide) ?_)
    | (with_reducible refine isCC hcc ?_; first | (refine vA hcc ha (hb1 rfl) ?_; intro v hv) | (refine vA hcc hb (hb1 rfl) ?_; intro v hv) | (refine vA hcc hc (hb1 rfl) ?_; intro v hv))
    | (with_reducible refine Asm.mk2 ?_ ?_)
    | ((fail_if_success (with_reducible refine hQ _ ?_)); (fail_if_success (with_reducible refine Side.mk ?_)); (fail_if_success (with_reducible refine isCP hcp ?_)); (fail_if_success (with_reducible refine isCC hcc ?_)); (fail_if_success (with_reducible refine isLP hlp ?_)); (fail_if_success (with_reducible refine Ix.mk ?_)); (fail_if_success (with_reducible refine SIx.mk ?_)); (fail_if_success (with_reducible refine SEx.mk ?_)); (fail_if_success (with_reducible refine EIx.mk ?_)); (fail_if_success (with_reducible refine RIx.mk ?_)); (fail_if_success (with_reducible show False)); (fail_if_success (with_reducible refine hR ?_ _ ?_ ?_ ?_ ?_ ?_)); (fail_if_success (with_reducible refine hR2 ?_ _ ?_ ?_ ?_ ?_ ?_)); cbv))
  all_goals (refine hQ _ ?_; clear hQ hcp hcc hlp ha hb hc ht; simp_all [Val.enc])

/-- The small ones. -/
theorem flagk_c (b : Bool) : PCall Try.prog 172 [.bool b] fun r => r = [(flag b).enc] := by
  refine PCall.x (nt := 6) (res := [.cell 2 25]) mixed tt_ok [] Try.func172 rfl rfl rfl c172 (Nat.le_of_ble_eq_true rfl) ?_
  intro cp cc lp Q' hcp hcc hlp hQ
  repeat' (first
    | (with_reducible refine Nm.mk ?_; intro z hz)
    | (with_reducible refine IfB.mk ?_ ?_ <;> (intro h; cases h))
    | (with_reducible refine Two.l ?_; refine Asm.mk ?_ ?_; focus (decide +kernel))
    | (with_reducible refine Two.r ?_)
    | (with_reducible refine Asm.mk ?_ ?_; focus (first | kernel_rfl | decide))
    | (with_reducible refine Asm.mk2 ?_ ?_)
    | ((fail_if_success (with_reducible refine hQ _ ?_)); (fail_if_success (with_reducible refine Side.mk ?_)); (fail_if_success (with_reducible refine isCP hcp ?_)); (fail_if_success (with_reducible refine isCC hcc ?_)); (fail_if_success (with_reducible refine isLP hlp ?_)); (fail_if_success (with_reducible refine Ix.mk ?_)); (fail_if_success (with_reducible refine SIx.mk ?_)); (fail_if_success (with_reducible refine SEx.mk ?_)); (fail_if_success (with_reducible refine EIx.mk ?_)); (fail_if_success (with_reducible refine RIx.mk ?_)); (fail_if_success (with_reducible show False)); (fail_if_success (with_reducible refine hR ?_ _ ?_ ?_ ?_ ?_ ?_)); (fail_if_success (with_reducible refine hR2 ?_ _ ?_ ?_ ?_ ?_ ?_)); cbv))
  all_goals (refine hQ _ ?_; clear hQ hcp hcc hlp; subst_vars; simp_all [flag, num, Val.enc])
theorem colW_c (kc : Nat) (cc0 : List PV) (op n k m : Int) (s : ByteArray) (es : List (List PV)) (a : Val) (ha : PCall Try.prog kc (.int .i64 n :: cc0) fun r => r = [a.enc]) :
    PCall Try.prog 173 [.fn kc cc0, .ip [.int .i64 op, .int .i64 n, .int .i64 k, .int .i64 m, .str s, .sl es]] fun r => r = [a.enc] := by
  refine PCall.x (nt := 8) (res := [.cell 3 25]) mixed tt_ok [] Try.func173 rfl rfl rfl c173 (Nat.le_of_ble_eq_true rfl) ?_
  intro cp cc lp Q' hcp hcc hlp hQ
  repeat' (first
    | (with_reducible refine Nm.mk ?_; intro z hz)
    | (with_reducible refine IfB.mk ?_ ?_ <;> (intro h; cases h))
    | (with_reducible refine Two.l ?_; refine Asm.mk ?_ ?_; focus (decide +kernel))
    | (with_reducible refine Two.r ?_)
    | (with_reducible refine Asm.mk ?_ ?_; focus kernel_rfl)
    | (with_reducible refine isCC hcc ?_; refine vA hcc ha (hb1 rfl) ?_; intro v hv)
    | (with_reducible refine Asm.mk2 ?_ ?_)
    | ((fail_if_success (with_reducible refine hQ _ ?_)); (fail_if_success (with_reducible refine Side.mk ?_)); (fail_if_success (with_reducible refine isCP hcp ?_)); (fail_if_success (with_reducible refine isCC hcc ?_)); (fail_if_success (with_reducible refine isLP hlp ?_)); (fail_if_success (with_reducible refine Ix.mk ?_)); (fail_if_success (with_reducible refine SIx.mk ?_)); (fail_if_success (with_reducible refine SEx.mk ?_)); (fail_if_success (with_reducible refine EIx.mk ?_)); (fail_if_success (with_reducible refine RIx.mk ?_)); (fail_if_success (with_reducible show False)); (fail_if_success (with_reducible refine hR ?_ _ ?_ ?_ ?_ ?_ ?_)); (fail_if_success (with_reducible refine hR2 ?_ _ ?_ ?_ ?_ ?_ ?_)); cbv))
  all_goals (refine hQ _ ?_; clear hQ hcp hcc hlp ha; subst_vars; rfl)
theorem constW_c (kc : Nat) (cc0 : List PV) (v : Val) : PCall Try.prog 174 [.fn kc cc0, .ip v.cells] fun r => r = [v.enc] := by
  obtain ⟨k, n, s⟩ := v
  simp only [Val.cells]
  refine PCall.x (nt := 5) (res := [.cell 3 25]) mixed tt_ok [] Try.func174 rfl rfl rfl c174 (Nat.le_of_ble_eq_true rfl) ?_
  intro cp cc lp Q' hcp hcc hlp hQ
  repeat' (first
    | (with_reducible refine Nm.mk ?_; intro z hz)
    | (with_reducible refine IfB.mk ?_ ?_ <;> (intro h; cases h))
    | (with_reducible refine Two.l ?_; refine Asm.mk ?_ ?_; focus (decide +kernel))
    | (with_reducible refine Two.r ?_)
    | (with_reducible refine Asm.mk ?_ ?_; focus (first | kernel_rfl | decide))
    | (with_reducible refine Asm.mk2 ?_ ?_)
    | ((fail_if_success (with_reducible refine hQ _ ?_)); (fail_if_success (with_reducible refine Side.mk ?_)); (fail_if_success (with_reducible refine isCP hcp ?_)); (fail_if_success (with_reducible refine isCC hcc ?_)); (fail_if_success (with_reducible refine isLP hlp ?_)); (fail_if_success (with_reducible refine Ix.mk ?_)); (fail_if_success (with_reducible refine SIx.mk ?_)); (fail_if_success (with_reducible refine SEx.mk ?_)); (fail_if_success (with_reducible refine EIx.mk ?_)); (fail_if_success (with_reducible refine RIx.mk ?_)); (fail_if_success (with_reducible show False)); (fail_if_success (with_reducible refine hR ?_ _ ?_ ?_ ?_ ?_ ?_)); (fail_if_success (with_reducible refine hR2 ?_ _ ?_ ?_ ?_ ?_ ?_)); cbv))
  all_goals (refine hQ _ ?_; rfl)
theorem negW_c (a : Val) (h : -9223372036854775808 ≤ a.n ∧ a.n ≤ 9223372036854775807) : PCall Try.prog 175 [a.enc] fun r => r = [(reckon 8 (num 0) a).enc] := by
  obtain ⟨k, n, s⟩ := a
  have hr := reckon_c 8 1 0 ⟨#[]⟩ k n s (by decide) h
  simp only [Val.enc]
  refine PCall.x (nt := 6) (res := [.cell 2 25]) mixed tt_ok [] Try.func175 rfl rfl rfl c175 (Nat.le_of_ble_eq_true rfl) ?_
  intro cp cc lp Q' hcp hcc hlp hQ
  repeat' (first
    | (with_reducible refine Nm.mk ?_; intro z hz)
    | (with_reducible refine IfB.mk ?_ ?_ <;> (intro h; cases h))
    | (with_reducible refine Two.l ?_; refine Asm.mk ?_ ?_; focus (decide +kernel))
    | (with_reducible refine Two.r ?_)
    | (with_reducible refine Asm.mk ?_ ?_; focus (first | kernel_rfl | decide))
    | (with_reducible refine isCP hcp ?_; first | (refine vP hcp (hr) ?_; intro v hv))
    | (with_reducible refine isCC hcc ?_; first | (refine vA hcc (hr) rfl ?_; intro v hv))
    | (with_reducible refine Asm.mk2 ?_ ?_)
    | ((fail_if_success (with_reducible refine hQ _ ?_)); (fail_if_success (with_reducible refine Side.mk ?_)); (fail_if_success (with_reducible refine isCP hcp ?_)); (fail_if_success (with_reducible refine isCC hcc ?_)); (fail_if_success (with_reducible refine isLP hlp ?_)); (fail_if_success (with_reducible refine Ix.mk ?_)); (fail_if_success (with_reducible refine SIx.mk ?_)); (fail_if_success (with_reducible refine SEx.mk ?_)); (fail_if_success (with_reducible refine EIx.mk ?_)); (fail_if_success (with_reducible refine RIx.mk ?_)); (fail_if_success (with_reducible show False)); (fail_if_success (with_reducible refine hR ?_ _ ?_ ?_ ?_ ?_ ?_)); (fail_if_success (with_reducible refine hR2 ?_ _ ?_ ?_ ?_ ?_ ?_)); cbv))
  all_goals (refine hQ _ ?_; clear hQ hcp hcc hlp hr; subst_vars; rfl)
theorem nullW_c (a : Val) : PCall Try.prog 176 [a.enc, .ip [.fn 172 []]] fun r => r = [(flag (decide (a.k = 0))).enc] := by
  obtain ⟨k, n, s⟩ := a
  simp only [Val.enc]
  refine PCall.x (nt := 9) (res := [.cell 3 25]) mixed tt_ok [] Try.func176 rfl rfl rfl c176 (Nat.le_of_ble_eq_true rfl) ?_
  intro cp cc lp Q' hcp hcc hlp hQ
  repeat' (first
    | (with_reducible refine Nm.mk ?_; intro z hz)
    | (with_reducible refine IfB.mk ?_ ?_ <;> (intro h; cases h))
    | (with_reducible refine Two.l ?_; refine Asm.mk ?_ ?_; focus (decide +kernel))
    | (with_reducible refine Two.r ?_)
    | (with_reducible refine Asm.mk ?_ ?_; focus (first | kernel_rfl | decide))
    | (with_reducible refine isCP hcp ?_; first | (refine vP hcp (flagk_c _) ?_; intro v hv))
    | (with_reducible refine isCC hcc ?_; first | (refine vA hcc (flagk_c _) rfl ?_; intro v hv))
    | (with_reducible refine Asm.mk2 ?_ ?_)
    | ((fail_if_success (with_reducible refine hQ _ ?_)); (fail_if_success (with_reducible refine Side.mk ?_)); (fail_if_success (with_reducible refine isCP hcp ?_)); (fail_if_success (with_reducible refine isCC hcc ?_)); (fail_if_success (with_reducible refine isLP hlp ?_)); (fail_if_success (with_reducible refine Ix.mk ?_)); (fail_if_success (with_reducible refine SIx.mk ?_)); (fail_if_success (with_reducible refine SEx.mk ?_)); (fail_if_success (with_reducible refine EIx.mk ?_)); (fail_if_success (with_reducible refine RIx.mk ?_)); (fail_if_success (with_reducible show False)); (fail_if_success (with_reducible refine hR ?_ _ ?_ ?_ ?_ ?_ ?_)); (fail_if_success (with_reducible refine hR2 ?_ _ ?_ ?_ ?_ ?_ ?_)); cbv))
  all_goals (refine hQ _ ?_; clear hQ hcp hcc hlp; subst_vars; rfl)
theorem lenW_c (a : Val) (h : a.s.size ≤ 140737488355328) : PCall Try.prog 177 [a.enc] fun r => r = [(vlenV a).enc] := by
  obtain ⟨k, n, s⟩ := a
  simp only [Val.enc]
  refine PCall.x (nt := 11) (res := [.cell 2 25]) mixed tt_ok [] Try.func177 rfl rfl rfl c177 (Nat.le_of_ble_eq_true rfl) ?_
  intro cp cc lp Q' hcp hcc hlp hQ
  repeat' (first
    | (with_reducible refine Nm.mk ?_; intro z hz)
    | (with_reducible refine IfB.mk ?_ ?_ <;> (intro h; cases h))
    | (with_reducible refine Two.l ?_; refine Asm.mk ?_ ?_; focus (decide +kernel))
    | (with_reducible refine Two.r ?_)
    | (with_reducible refine Asm.mk ?_ ?_; focus (first | kernel_rfl | decide))
    | (with_reducible refine Asm.mk2 ?_ ?_)
    | ((fail_if_success (with_reducible refine hQ _ ?_)); (fail_if_success (with_reducible refine Side.mk ?_)); (fail_if_success (with_reducible refine isCP hcp ?_)); (fail_if_success (with_reducible refine isCC hcc ?_)); (fail_if_success (with_reducible refine isLP hlp ?_)); (fail_if_success (with_reducible refine Ix.mk ?_)); (fail_if_success (with_reducible refine SIx.mk ?_)); (fail_if_success (with_reducible refine SEx.mk ?_)); (fail_if_success (with_reducible refine EIx.mk ?_)); (fail_if_success (with_reducible refine RIx.mk ?_)); (fail_if_success (with_reducible show False)); (fail_if_success (with_reducible refine hR ?_ _ ?_ ?_ ?_ ?_ ?_)); (fail_if_success (with_reducible refine hR2 ?_ _ ?_ ?_ ?_ ?_ ?_)); cbv))
  all_goals (refine hQ _ ?_; clear hQ hcp hcc hlp; try simp only [nc] at *
             try simp only [nc'] at *
             simp_all [vlenV, num, Val.zero])
end Go.Proofs.Ytnhmnfokbinplaa

namespace Go.Proofs.Ytnhmnfokbinplaa
open Go Go.RowKit
set_option maxRecDepth 100000
set_option linter.unusedSimpArgs false
set_option linter.unusedVariables false

def one2 (f L : PV) : Nat × List PV := (167, [.ip [f], .ip [L]])
def two2 (f L : PV) : Nat × List PV := (169, [.ip [f], .ip [L]])
def by2 (f : PV) (cells : List PV) (L : PV) : Nat × List PV := two2 (.fn 171 [.ip [f], .ip cells]) L
def wkOp (op : Int) (cells : List PV) (v : Val) (L : List (List PV)) : Nat × List PV :=
  if op = 1 then (173, [.ip cells]) else if op = 2 then (174, [.ip (clean v).cells])
  else if op = 3 then one2 (.fn 175 []) (.sl L) else if op = 4 then one2 (.fn 20 []) (.sl L) else if op = 5 then one2 (.fn 176 [.ip [.fn 172 []]]) (.sl L) else if op = 6 then one2 (.fn 177 []) (.sl L)
  else if op = 7 ∨ op = 8 ∨ op = 9 ∨ op = 10 ∨ op = 11 then by2 (.fn 29 []) cells (.sl L) else if op = 18 then two2 (.fn 55 []) (.sl L) else if op = 19 ∨ op = 20 then by2 (.fn 19 []) cells (.sl L)
  else if op = 21 then (178, [.ip [.sl L]]) else by2 (.fn 52 []) cells (.sl L)
mutual
def wk : Ex → Nat × List PV
  | .mk op n v ar => wkOp op (Ex.mk op n v ar).cells v (wkL ar)
def wkL : List Ex → List (List PV)
  | [] => []
  | e :: r => [.fn (wk e).1 (wk e).2] :: wkL r
end
def wkc (e : Ex) : List PV := [.fn (wk e).1 (wk e).2]
theorem wkL_eq : ∀ l : List Ex, wkL l = l.map wkc
  | [] => rfl
  | e :: r => by simp [wkL, wkL_eq r, wkc]

theorem okEs_wkc (l : List Ex) : okEs 1 (l.map wkc) = true := by
  simp only [okEs, List.all_map, List.all_eq_true]
  intro e _
  simp [wkc, PV.one]

section
variable {P : Program} {cp : FuncId → List PV → (CR → Prop) → Prop} {cc : FuncId → List AV → List AObj → (AV → List AObj → Prop) → Prop} {f : FuncId} {args : List PV} {aargs : List AV} {H : List AObj}
theorem fnP (hcp : PC1 P = cp) {X : Nat × List PV} {K : CR → Prop} (h : PCall P f args fun r => r = [.fn X.1 X.2]) (k : ∀ n c, X = (n, c) → K (.pure [.fn n c])) : cp f args K := callP hcp h fun _ e => e ▸ k X.1 X.2 rfl
theorem fnA (hcc : ACall P = cc) {X : Nat × List PV} {K : AV → List AObj → Prop} (h : PCall P f args fun r => r = [.fn X.1 X.2]) (ha : optL pureX aargs = some args) (k : ∀ n c, X = (n, c) → K (.p (.fn n c)) H) : cc f aargs H K := callA hcc ha h fun _ e => e ▸ k X.1 X.2 rfl
end

set_option maxHeartbeats 4000000 in
theorem compile_c (op n : Int) (v : Val) (ar : List Ex) (es : List (List PV)) (hes : ar.map Ex.cells = es) (hs : wideN ar.length)
    (IH : ∀ x, x ∈ ar → PCall Try.prog 118 [.agg x.cells] fun r => r = [.fn (wk x).1 (wk x).2]) :
    PCall Try.prog 118 [.agg [.int .i64 op, .int .i64 n, .int .i64 v.k, .int .i64 v.n, .str v.s, .sl es]] fun r => r = [.fn (wk (.mk op n v ar)).1 (wk (.mk op n v ar)).2] := by
  have hel : es.length = ar.length := by rw [← hes]; simp
  obtain ⟨vk, vn, vs⟩ := v
  obtain ⟨q, hq⟩ : ∃ q, wk (.mk op n ⟨vk, vn, vs⟩ ar) = q := ⟨_, rfl⟩
  rw [hq]
  rw [wk, cells_mk, hes, wkL_eq] at hq
  unfold wideN at hs
  have hmc : ∀ (op' m' vk' vn' : Int) (vs' : ByteArray) (ar' : List Ex) (es' : List (List PV)) (i : Nat), ar[i]? = some (.mk op' m' ⟨vk', vn', vs'⟩ ar') → ar'.map Ex.cells = es' →
      PCall Try.prog 118 [.agg [.int .i64 op', .int .i64 m', .int .i64 vk', .int .i64 vn', .str vs', .sl es']] fun r => r = [.fn (wk (.mk op' m' ⟨vk', vn', vs'⟩ ar')).1 (wk (.mk op' m' ⟨vk', vn', vs'⟩ ar')).2] := by
    intro op' m' vk' vn' vs' ar' es' i hx he
    have := IH _ (List.mem_of_getElem? hx)
    rw [cells_mk, he] at this
    exact this
  refine PCall.x (nt := 77) (res := [.tmp 2]) mixed tt_ok [(166, [1, 4]), (168, [1]), (170, [1, 3, 0])] Try.func118 rfl rfl rfl c118 (Nat.le_of_ble_eq_true rfl) ?_
  intro cp cc lp Q' hcp hcc hlp hQ
  repeat' (first
    | (with_reducible refine Nm.mk ?_; intro z hz)
    | (with_reducible refine IfB.mk ?_ ?_ <;> (intro h; cases h))
    | (with_reducible refine Two.l ?_; refine Asm.mk ?_ ?_; focus (decide +kernel))
    | (with_reducible refine Two.r ?_)
    | (with_reducible refine Asm.mk ?_ ?_; focus (first | kernel_rfl | decide))
    | (with_reducible refine Asm.mk2 ?_ ?_)
    | ((fail_if_success (with_reducible refine hQ _ ?_)); (fail_if_success (with_reducible refine Side.mk ?_)); (fail_if_success (with_reducible refine isCP hcp ?_)); (fail_if_success (with_reducible refine isCC hcc ?_)); (fail_if_success (with_reducible refine isLP hlp ?_)); (fail_if_success (with_reducible refine Ix.mk ?_)); (fail_if_success (with_reducible refine SIx.mk ?_)); (fail_if_success (with_reducible refine SEx.mk ?_)); (fail_if_success (with_reducible refine EIx.mk ?_)); (fail_if_success (with_reducible refine RIx.mk ?_)); (fail_if_success (with_reducible show False)); (fail_if_success (with_reducible refine hR ?_ _ ?_ ?_ ?_ ?_ ?_)); (fail_if_success (with_reducible refine hR2 ?_ _ ?_ ?_ ?_ ?_ ?_)); cbv))
  simp only [nc] at hz
  simp only [nc'] at hz
  have hzl := hz
  clear hz
  rename Int => zl
  refine mintX hlp 1 1 0 rfl rfl ?_
  refine loopTz [(166, [1, 4]), (168, [1]), (170, [1, 3, 0])] (ι := Int × List (List PV) × Nat) mixed tt_ok hcp hcc hlp [1, 3, 12, 13] (fun p => [(14, .p (.int .i64 p.1))])
    (fun p => [.cells [.p (.int .i64 op), .p (.int .i64 n), .p (.int .i64 vk), .p (.int .i64 vn), .p (.str vs), .p (.sl es)], .cells [.tok 2 p.2.1], .spare p.2.2 1])
    (fun p => 0 ≤ p.1 ∧ p.1 ≤ zl ∧ (ar.take p.1.toNat).map wkc = p.2.1 ∧ p.2.1.length = p.2.2) (fun p => (zl - p.1).toNat)
    (0, [], 0) 3 (fun _ => rfl) ⟨by show (0 : Int) ≤ 0; omega, by show (0 : Int) ≤ zl; omega, by simp, rfl⟩ ⟨rfl, trivial⟩ rfl ?_
  rintro R ⟨i, L, m⟩ ⟨hi0, hi1, hl, hm⟩ hR
  have hi0 : 0 ≤ i := hi0
  have hi1 : i ≤ zl := hi1
  have hl : (ar.take i.toNat).map wkc = L := hl
  have hm : L.length = m := hm
  have hll : L.length ≤ i.toNat := by rw [← hl]; simp; omega
  have hok : okEs 1 L = true := by rw [← hl]; exact okEs_wkc _
  have hk : decide (i < zl) = true → i < ar.length := by simp only [decide_eq_true_eq]; omega
  have hst : decide (i < zl) = true → L.length + 1 ≤ maxLen ∧ (L.length + 1) * 8 ≤ 140737488355328 ∧ IntKind.i64.wrap (i + 1) = i + 1 ∧ (0 ≤ i + 1 ∧ i + 1 ≤ zl) ∧ (zl - (i + 1)).toNat < (zl - i).toNat := by
    intro h
    have hlt := hk h
    simp only [decide_eq_true_eq] at h
    refine ⟨by simp only [maxLen]; omega, by omega, wrap_in (by omega), by omega, by omega⟩
  have hfin : decide (i < zl) = false → ar.map wkc = L := by
    simp only [decide_eq_false_iff_not]; intro h
    rw [← hl, List.take_of_length_le (by omega)]
  repeat' (first
    | (with_reducible refine Nm.mk ?_; intro z hz)
    | (with_reducible refine IfB.mk ?_ ?_ <;> (intro h; cases h))
    | (with_reducible refine Two.l ?_; refine Asm.mk ?_ ?_; focus (decide +kernel))
    | (with_reducible refine Two.r ?_)
    | (with_reducible refine Asm.mk ?_ ?_; focus (first | kernel_rfl | (obtain ⟨u1, u2, u3⟩ := hst (by assumption); exact ⟨hm.symm, rfl, hok, rfl, u1, u2⟩)))
    | (with_reducible refine isCP hcp ?_; first | (refine fnP hcp (hmc _ _ _ _ _ _ _ i.toNat (by assumption) (by assumption)) ?_; intro k2 c2 hX) | (refine vP hcp (clean_c _ _ _) ?_; intro v hv) | (refine xP hcp (one_c _ _ _) ?_; skip) | (refine xP hcp (two_c _ _ _) ?_; skip) | (refine xP hcp (by_c _ _ _ _) ?_; skip))
    | (with_reducible refine isCC hcc ?_; first | (refine fnA hcc (hmc _ _ _ _ _ _ _ i.toNat (by assumption) (by assumption)) rfl ?_; intro k2 c2 hX) | (refine vA hcc (clean_c _ _ _) rfl ?_; intro v hv) | (refine xA hcc (one_c _ _ _) rfl ?_; skip) | (refine xA hcc (two_c _ _ _) rfl ?_; skip) | (refine xA hcc (by_c _ _ _ _) rfl ?_; skip))
    | (with_reducible refine Ix.ex hes hi0 (hk (by assumption)) ?_; intro op' m' vk' vn' vs' ar' es' hx hes')
    | (with_reducible refine Asm.mk2 ?_ ?_)
    | ((fail_if_success (with_reducible refine hQ _ ?_)); (fail_if_success (with_reducible refine Side.mk ?_)); (fail_if_success (with_reducible refine isCP hcp ?_)); (fail_if_success (with_reducible refine isCC hcc ?_)); (fail_if_success (with_reducible refine isLP hlp ?_)); (fail_if_success (with_reducible refine Ix.mk ?_)); (fail_if_success (with_reducible refine SIx.mk ?_)); (fail_if_success (with_reducible refine SEx.mk ?_)); (fail_if_success (with_reducible refine EIx.mk ?_)); (fail_if_success (with_reducible refine RIx.mk ?_)); (fail_if_success (with_reducible show False)); (fail_if_success (with_reducible refine hR ?_ _ ?_ ?_ ?_ ?_ ?_)); (fail_if_success (with_reducible refine hR2 ?_ _ ?_ ?_ ?_ ?_ ?_)); cbv))
  · refine Side.mk ?_
    obtain ⟨u1, u2, u3⟩ := hst (by assumption)
    exact ⟨hm.symm, rfl, hok, rfl, u1, u2⟩
  · obtain ⟨u1, u2, e1, u3, u4⟩ := hst (by assumption)
    rw [e1] at hz
    rename_i L2 hL2 m2 hm2
    have et : ar.take (i + 1).toNat = ar.take i.toNat ++ [.mk op' m' ⟨vk', vn', vs'⟩ ar'] := by rw [show (i + 1).toNat = i.toNat + 1 by omega, takeS hx]
    refine hR (i + 1, _, _) _ ⟨u3.1, u3.2, ?_, ?_⟩ u4 ⟨hz ▸ rfl, trivial⟩ ⟨rfl, rfl, rfl, rfl, trivial⟩ rfl
    · show (ar.take (i + 1).toNat).map wkc = L2
      rw [et, List.map_append, hl, ← hL2]
      simp only [List.map_cons, List.map_nil, wkc, hX]
    · show L2.length = m2
      rw [← hL2, ← hm2, List.length_append]
  all_goals (refine hQ _ ?_; rw [← hq, hfin (by assumption)]; clear hQ hR hcp hcc hlp hq hfin hst hk hok hmc IH)
  all_goals first
    | (have e := of_decide_eq_true (show decide (op = _) = true by assumption)
       subst e
       subst_vars
       rfl)
    | (unfold wkOp; simp_all; first | rfl | exact ⟨rfl, rfl⟩)
theorem compile_all : ∀ (m : Nat) (e : Ex), e.sz ≤ m → e.wide → PCall Try.prog 118 [.agg e.cells] fun r => r = [.fn (wk e).1 (wk e).2]
  | 0, .mk op n v ar, h, _ => by simp [Ex.sz] at h
  | m + 1, .mk op n v ar, h, hw => by
    rw [cells_mk]
    refine compile_c op n v ar _ rfl hw.1 fun x hx => compile_all m x ?_ (wide_mem hw.2 hx)
    have := sz_mem hx
    simp only [Ex.sz] at h; omega
end Go.Proofs.Ytnhmnfokbinplaa

namespace Go.Proofs.Ytnhmnfokbinplaa
open Go Go.RowKit
set_option linter.unusedSimpArgs false
set_option linter.unusedVariables false

mutual
def Ex.ht : Ex → Nat
  | .mk _ _ _ ar => htL ar + 1
def htL : List Ex → Nat
  | [] => 0
  | e :: r => max e.ht (htL r)
end
mutual
def goodE : Ex → Bool
  | .mk op n v ar => !badE op n v ar.length && goodL ar
def goodL : List Ex → Bool
  | [] => true
  | e :: r => goodE e && goodL r
end
theorem goodL_all : ∀ l : List Ex, goodL l = l.all goodE
  | [] => rfl
  | e :: r => by simp [goodL, goodL_all r]
theorem sz_pos : ∀ e : Ex, 0 < e.sz
  | .mk _ _ _ _ => by simp [Ex.sz]
theorem ht_pos : ∀ e : Ex, 0 < e.ht
  | .mk _ _ _ _ => by simp [Ex.ht]
theorem mx_max (a b : Int) : mx a b = max a b := by unfold mx; split <;> omega

mutual
theorem walkE_eq : ∀ (e : Ex) (d n h : Int), 0 ≤ n → (((walkE e d n h).1 = true ↔ (goodE e = true ∧ n + (e.sz : Int) ≤ 400 ∧ d + (e.ht : Int) ≤ 41)) ∧ ((walkE e d n h).1 = true → walkE e d n h = (true, n + (e.sz : Int), max h (d + (e.ht : Int) - 1))))
  | .mk op m v ar, d, n, h, h0 => by
    rw [walkE]
    have hs := sz_pos (.mk op m v ar)
    have hh := ht_pos (.mk op m v ar)
    simp only [Ex.sz, Ex.ht] at hs hh
    simp only [goodE, Ex.sz, Ex.ht, Bool.and_eq_true, Bool.not_eq_true']
    split
    · rename_i hc
      simp only [Bool.or_eq_true, decide_eq_true_eq] at hc
      refine ⟨⟨fun h => (by cases h), fun h => ?_⟩, fun h => by cases h⟩
      obtain ⟨⟨h1, h2⟩, h3, h4⟩ := h
      rcases hc with (hc | hc) | hc
      · omega
      · omega
      · rw [h1] at hc; cases hc
    · rename_i hc
      simp only [Bool.or_eq_true, decide_eq_true_eq, not_or] at hc
      have hb : badE op m v ar.length = false := by simpa using hc.2
      have ih := walkL_eq ar (d + 1) (n + 1) (mx h d) (by omega) (by omega) (by omega) (by rw [mx_max]; omega)
      refine ⟨ih.1.trans ⟨fun ⟨a, b, c⟩ => ⟨⟨hb, a⟩, by omega, by omega⟩, fun ⟨⟨_, a⟩, b, c⟩ => ⟨a, by omega, by omega⟩⟩, fun ht => ?_⟩
      rw [ih.2 ht, mx_max]
      simp only [Prod.mk.injEq, true_and]
      omega
theorem walkL_eq : ∀ (l : List Ex) (d n h : Int), 0 ≤ n → n ≤ 400 → d ≤ 41 → d - 1 ≤ h → (((walkL l d n h).1 = true ↔ (goodL l = true ∧ n + (szL l : Int) ≤ 400 ∧ d + (htL l : Int) ≤ 41)) ∧ ((walkL l d n h).1 = true → walkL l d n h = (true, n + (szL l : Int), max h (d + (htL l : Int) - 1))))
  | [], d, n, h, h0, h1, h2, h3 => by
    simp only [walkL, goodL, szL, htL, true_iff, true_and, true_implies, Prod.mk.injEq]
    omega
  | a :: r, d, n, h, h0, h1, h2, h3 => by
    have ia := walkE_eq a d n h h0
    have hs := sz_pos a
    rw [walkL]
    simp only [goodL, szL, htL, Bool.and_eq_true]
    rcases h4 : walkE a d n h with ⟨b1, n1, h5⟩
    cases b1 with
    | false =>
      rw [h4] at ia
      refine ⟨⟨fun h => (by cases h), fun h => ?_⟩, fun h => by cases h⟩
      obtain ⟨⟨p, q⟩, u, v⟩ := h
      have := ia.1.2 ⟨p, by omega, by omega⟩
      cases this
    | true =>
      rw [h4] at ia
      have e := ia.2 rfl
      simp only [Prod.mk.injEq, true_and] at e
      obtain ⟨e1, e2⟩ := e
      have i1 := ia.1.1 rfl
      have ir := walkL_eq r d n1 h5 (by omega) (by omega) h2 (by omega)
      refine ⟨ir.1.trans ⟨fun ⟨p, q, u⟩ => ⟨⟨i1.1, p⟩, by omega, by omega⟩, fun ⟨⟨_, p⟩, q, u⟩ => ⟨p, by omega, by omega⟩⟩, fun ht => ?_⟩
      show walkL r d n1 h5 = _
      rw [ir.2 ht]
      simp only [Prod.mk.injEq, true_and]
      omega
end
theorem built_eq (e : Ex) : builtM e = true ↔ (goodE e = true ∧ e.sz ≤ 400 ∧ e.ht ≤ 40) := by
  rw [built_iff]
  have := (walkE_eq e 1 0 0 (by omega)).1
  rw [this]
  constructor
  · rintro ⟨a, b, c⟩; exact ⟨a, by omega, by omega⟩
  · rintro ⟨a, b, c⟩; exact ⟨a, by omega, by omega⟩
theorem size_eq {e : Ex} (h : builtM e = true) : sizeM e = ((e.sz : Int), (e.ht : Int)) := by
  rw [built_iff] at h
  unfold sizeM
  rw [if_pos h, (walkE_eq e 1 0 0 (by omega)).2 h]
  have := ht_pos e
  simp only [Prod.mk.injEq]; omega
theorem size_not {e : Ex} (h : builtM e = false) : sizeM e = (401, 41) := by
  rw [built_iff] at h
  unfold sizeM
  rw [h]; rfl

/-! ### values are clean, their texts are short -/
def cleanV (v : Val) : Prop := clean v = v
theorem clean_num (n : Int) : cleanV (num n) := by simp [cleanV, clean, num]
theorem clean_zero : cleanV Val.zero := by simp [cleanV, clean, Val.zero]
theorem clean_flag (b : Bool) : cleanV (flag b) := clean_num _
theorem clean_optNum (o : Option Int) : cleanV (optNum o) := by cases o <;> simp [optNum, clean_num, clean_zero]
theorem clean_reckon (op : Int) (a b : Val) : cleanV (reckon op a b) := by unfold reckon; split <;> simp [clean_optNum, clean_zero]
theorem clean_not (a : Val) : cleanV (vnot a) := by unfold vnot; split <;> simp [clean_flag, clean_zero]
theorem clean_len (a : Val) : cleanV (vlenV a) := by unfold vlenV; split <;> simp [clean_num, clean_zero]
theorem clean_cat (a b : Val) : cleanV (catV a b) := by unfold catV; split <;> simp [cleanV, clean, Val.zero]
theorem clean_both (op : Int) (a b : Val) : cleanV (both op a b) := by unfold both; (repeat' split) <;> simp [clean_flag, clean_zero]
theorem clean_test (op : Int) (a b : Val) : cleanV (testV op a b) := by unfold testV; split <;> simp [clean_flag, clean_zero]
theorem clean_getD {l : List Val} (h : ∀ x, x ∈ l → cleanV x) (i : Nat) : cleanV ((l[i]?).getD Val.zero) := by
  cases hi : l[i]? with
  | none => exact clean_zero
  | some x => exact h x (List.mem_of_getElem? hi)
theorem clean_evOp {col : Int → Val} (hc : ∀ i, cleanV (col i)) (op n : Int) (v : Val) {l : List Val} (h : ∀ x, x ∈ l → cleanV x) : cleanV (evOp col op n v l) := by
  unfold evOp
  repeat' split
  all_goals first | exact hc _ | exact clean_clean v | exact clean_reckon _ _ _ | exact clean_not _ | exact clean_flag _ | exact clean_len _ | exact clean_cat _ _ | exact clean_both _ _ _ | exact clean_getD h _ | exact clean_test _ _ _
mutual
theorem clean_ev {col : Int → Val} (hc : ∀ i, cleanV (col i)) : ∀ e : Ex, cleanV (evalE col e)
  | .mk op n v ar => by rw [evalE]; exact clean_evOp hc op n v (clean_evL hc ar)
theorem clean_evL {col : Int → Val} (hc : ∀ i, cleanV (col i)) : ∀ (l : List Ex) (x : Val), x ∈ evalL col l → cleanV x
  | [], x, h => by simp [evalL] at h
  | e :: r, x, h => by
    simp only [evalL, List.mem_cons] at h
    rcases h with h | h
    · rw [h]; exact clean_ev hc e
    · exact clean_evL hc r x h
end
def shortV (v : Val) : Prop := v.k = 2 → v.s.size ≤ 1000
theorem short_num (n : Int) : shortV (num n) := by intro h; simp [num] at h
theorem short_zero : shortV Val.zero := by intro h; simp [Val.zero] at h
theorem short_evOp {col : Int → Val} (hc : ∀ i, shortV (col i)) (op n : Int) (v : Val) {l : List Val} (hv : op = 2 → shortV v) (h : ∀ x, x ∈ l → shortV x) : shortV (evOp col op n v l) := by
  have hg : ∀ i : Nat, shortV ((l[i]?).getD Val.zero) := fun i => by
    cases hi : l[i]? with
    | none => exact short_zero
    | some x => exact h x (List.mem_of_getElem? hi)
  have hf : ∀ b, shortV (flag b) := fun b => short_num _
  have hr : ∀ op a b, shortV (reckon op a b) := fun op a b => by
    unfold reckon; split
    · cases reckN op a.n b.n <;> simp [optNum, short_num, short_zero]
    · exact short_zero
  unfold evOp
  split
  · exact hc _
  split
  · rename_i h2
    have := hv h2
    unfold clean; intro hk
    by_cases h1 : v.k = 1
    · simp [h1] at hk
    · by_cases h3 : v.k = 2
      · simp [h3]; exact this h3
      · simp [h1, h3, Val.zero] at hk
  split
  · exact hr _ _ _
  split
  · unfold vnot; split; exact hf _; exact short_zero
  split
  · exact hf _
  split
  · unfold vlenV; split; exact short_num _; exact short_zero
  split
  · exact hr _ _ _
  split
  · unfold catV
    split
    · exact short_zero
    · rename_i hh
      intro _
      simp only [not_or, Decidable.not_not, Int.not_lt] at hh
      simp only [ByteArray.size_append]
      omega
  split
  · unfold both; (repeat' split) <;> first | exact hf _ | exact short_zero
  split
  · split <;> exact hg _
  · unfold testV; split; exact short_zero; exact hf _

/-! ### folding -/
def knownE : Ex → Bool
  | .mk op _ _ _ => decide (op = 2)
def isE (yes : Bool) : Ex → Bool
  | .mk op _ v _ => decide (op = 2) && decide (v.k = 1) && ((!decide (v.n = 0)) == yes)
def Ex.val : Ex → Val
  | .mk _ _ v _ => v
def constE (v : Val) : Ex := .mk 2 0 v []
def zeroE : Ex := .mk 0 0 Val.zero []
def foldN : Ex → Ex
  | .mk op n v ar =>
    if ar.length = 0 then .mk op n v ar
    else if ar.all knownE = true then constE (evalE (fun _ => Val.zero) (.mk op n v ar))
    else if op = 19 ∧ ar.any (isE false) = true then constE (num 0)
    else if op = 20 ∧ ar.any (isE true) = true then constE (num 1)
    else if op = 21 ∧ knownE ((ar[0]?).getD zeroE) = true then (if trueV ((ar[0]?).getD zeroE).val = true then (ar[1]?).getD zeroE else (ar[2]?).getD zeroE)
    else .mk op n v ar
def foldM (e : Ex) : Ex := if builtM e = true then mapE foldN e else mapE id e

def nN (op n : Int) : Int := if op = 1 then n else 0
def nV (op : Int) (v : Val) : Val := if op = 1 then Val.zero else if op = 2 then clean v else Val.zero
theorem mapE_mk (g : Ex → Ex) (op n : Int) (v : Val) (ar : List Ex) : mapE g (.mk op n v ar) = g (.mk op (nN op n) (nV op v) (ar.map (mapE g))) := by rw [mapE, mapL_eq]; rfl
theorem nN_nN (op n : Int) : nN op (nN op n) = nN op n := by unfold nN; split <;> rfl
theorem nV_nV (op : Int) (v : Val) : nV op (nV op v) = nV op v := by
  unfold nV
  split
  · rfl
  · split
    · exact clean_clean v
    · rfl
theorem evOp_norm (col : Int → Val) (op n : Int) (v : Val) (l : List Val) : evOp col op (nN op n) (nV op v) l = evOp col op n v l := by
  unfold evOp nN nV
  by_cases h1 : op = 1
  · simp [h1]
  · by_cases h2 : op = 2
    · simp [h2, clean_clean]
    · simp only [h1, h2, if_false]
theorem badE_norm (op n : Int) (v : Val) (k : Nat) : badE op (nN op n) (nV op v) k = badE op n v k := by
  unfold badE nN nV
  by_cases h1 : op = 1
  · subst h1; simp
  · by_cases h2 : op = 2
    · subst h2
      by_cases hk : v.k = 2
      · simp [clean, hk]
      · by_cases hk1 : v.k = 1
        · simp [clean, hk1]
        · simp [clean, hk, hk1, Val.zero]
    · simp [h1, h2]

theorem arity_len {op : Int} {ar : List Ex} (h : arityE op = (ar.length : Int)) (h0 : ¬ ar.length = 0) : ¬ op = 1 ∧ ¬ op = 2 := by
  constructor
  · rintro rfl; simp [arityE] at h; omega
  · rintro rfl; simp [arityE] at h; omega
theorem known_ev (col col' : Int → Val) {a : Ex} (h : knownE a = true) : evalE col a = evalE col' a := by
  obtain ⟨op, n, v, ar⟩ := a
  simp only [knownE, decide_eq_true_eq] at h
  subst h
  rw [evalE, evalE]; simp [evOp]
theorem evOp_col (col col' : Int → Val) {op : Int} (h : ¬ op = 1) (n : Int) (v : Val) (l : List Val) : evOp col op n v l = evOp col' op n v l := by
  unfold evOp; simp only [h, if_false]
theorem evalL_known (col col' : Int → Val) {ar : List Ex} (h : ar.all knownE = true) : evalL col ar = evalL col' ar := by
  rw [evalL_eq, evalL_eq]
  exact List.map_congr_left fun a ha => known_ev col col' (List.all_eq_true.1 h a ha)
theorem isE_ev (col : Int → Val) (b : Bool) {a : Ex} (h : isE b a = true) : isT (evalE col a) b = true := by
  obtain ⟨op, n, v, ar⟩ := a
  simp only [isE, Bool.and_eq_true, decide_eq_true_eq] at h
  obtain ⟨⟨rfl, hk⟩, hn⟩ := h
  rw [evalE]
  simp only [evOp]
  simp [isT, clean, hk]
  simpa using hn
theorem foldN_ev {col : Int → Val} {op n : Int} {v : Val} {ar : List Ex} (ha : arityE op = (ar.length : Int)) : evalE col (foldN (.mk op n v ar)) = evalE col (.mk op n v ar) := by
  rw [foldN]
  split
  · rfl
  rename_i h0
  obtain ⟨n1, n2⟩ := arity_len ha h0
  split
  · rename_i hk
    have hc : cleanV (evalE (fun _ => Val.zero) (.mk op n v ar)) := clean_ev (fun _ => clean_zero) _
    have e : evalE col (constE (evalE (fun _ => Val.zero) (.mk op n v ar))) = clean (evalE (fun _ => Val.zero) (.mk op n v ar)) := by
      rw [constE, evalE]; simp [evOp]
    rw [e, hc]
    rw [evalE, evalE, evalL_known col (fun _ => Val.zero) hk]
    exact evOp_col _ _ n1 _ _ _
  split
  · rename_i hb
    obtain ⟨rfl, hb⟩ := hb
    have hl : ar.length = 2 := by simp [arityE] at ha; omega
    match ar, hl with
    | [a, b], _ =>
      rw [constE, evalE, evalE]
      simp only [List.any_cons, List.any_nil, Bool.or_false, Bool.or_eq_true] at hb
      have : isT (evalE col a) false = true ∨ isT (evalE col b) false = true := hb.imp (isE_ev col false) (isE_ev col false)
      simp [evOp, evalL, both, this, clean, num, flag]
  split
  · rename_i hb
    obtain ⟨rfl, hb⟩ := hb
    have hl : ar.length = 2 := by simp [arityE] at ha; omega
    match ar, hl with
    | [a, b], _ =>
      rw [constE, evalE, evalE]
      simp only [List.any_cons, List.any_nil, Bool.or_false, Bool.or_eq_true] at hb
      have : isT (evalE col a) true = true ∨ isT (evalE col b) true = true := hb.imp (isE_ev col true) (isE_ev col true)
      simp [evOp, evalL, both, this, clean, num, flag]
  split
  · rename_i hb
    obtain ⟨rfl, hb⟩ := hb
    have hl : ar.length = 3 := by simp [arityE] at ha; omega
    match ar, hl with
    | [a, b, c], _ =>
      obtain ⟨o', n', v', ar'⟩ := a
      simp only [List.getElem?_cons_zero, Option.getD_some, knownE, decide_eq_true_eq] at hb
      subst hb
      simp only [List.getElem?_cons_zero, List.getElem?_cons_succ, Option.getD_some, Ex.val]
      have e : evalE col (.mk 2 n' v' ar') = clean v' := by rw [evalE]; simp [evOp]
      have e2 : evalE col (.mk 21 n v [.mk 2 n' v' ar', b, c]) = if trueV (clean v') = true then evalE col b else evalE col c := by
        rw [evalE]; simp [evOp, evalL, e]
      rw [e2, true_clean]
      split <;> rename_i hh <;> simp [hh]
  · rfl

mutual
theorem fold_ev (col : Int → Val) : ∀ e : Ex, goodE e = true → evalE col (mapE foldN e) = evalE col e
  | .mk op n v ar, hg => by
    simp only [goodE, Bool.and_eq_true, Bool.not_eq_true'] at hg
    rw [mapE_mk, foldN_ev (by rw [List.length_map]; exact badE_arity hg.1), evalE, evalE, evOp_norm]
    have : evalL col (ar.map (mapE foldN)) = evalL col ar := by rw [← mapL_eq]; exact fold_evL col ar hg.2
    rw [this]
theorem fold_evL (col : Int → Val) : ∀ l : List Ex, goodL l = true → evalL col (mapL foldN l) = evalL col l
  | [], _ => rfl
  | e :: r, hg => by
    simp only [goodL, Bool.and_eq_true] at hg
    rw [mapL, evalL, evalL, fold_ev col e hg.1, fold_evL col r hg.2]
end

/-- What a node becomes is good, no larger, no higher. -/
theorem mem_sz {l : List Ex} {e : Ex} (h : e ∈ l) : e.ht ≤ htL l ∧ e.sz ≤ szL l := by
  refine ⟨?_, sz_mem h⟩
  induction l with
  | nil => simp at h
  | cons a r ih =>
    simp only [htL]
    rcases List.mem_cons.1 h with g | g
    · subst g; omega
    · have := ih g; omega
theorem getD_mem {l : List Ex} {i : Nat} (h : i < l.length) : (l[i]?).getD zeroE ∈ l := by
  rw [List.getElem?_eq_getElem h]; exact List.getElem_mem h
theorem const_good {v : Val} (h : shortV v) : goodE (constE v) = true := by
  have : ¬ (v.k = 2 ∧ (1000 : Int) < (v.s.size : Int)) := fun ⟨a, b⟩ => by have := h a; omega
  simp only [constE, goodE, goodL, badE, arityE]
  simp
  first
    | done
    | (intro a
       have := h a
       omega)
    | (have := h
       unfold shortV at this
       omega)
theorem short_known {a : Ex} (hg : goodE a = true) (hk : knownE a = true) (col : Int → Val) : shortV (evalE col a) := by
  obtain ⟨op, n, v, ar⟩ := a
  simp only [knownE, decide_eq_true_eq] at hk
  subst hk
  simp only [goodE, Bool.and_eq_true, Bool.not_eq_true'] at hg
  have hb := hg.1
  simp only [badE, Bool.or_eq_false_iff, Bool.and_eq_false_iff, decide_eq_false_iff_not] at hb
  rw [evalE]
  simp only [evOp]
  intro hk
  have : v.k = 2 ∧ (clean v).s = v.s := by
    have hk' : (clean v).k = 2 := by simpa using hk
    unfold clean at hk' ⊢
    by_cases h1 : v.k = 1
    · simp [h1] at hk'
    · by_cases h2 : v.k = 2
      · simp [h2]
      · simp [h1, h2, Val.zero] at hk'
  simp only [show ¬ (2 : Int) = 1 by omega, if_false, if_true, this.2]
  have h3 := hb.2
  simp only [this.1, not_true, false_or] at h3
  omega
theorem foldN_less {op n : Int} {v : Val} {ar : List Ex} (hb : badE op n v ar.length = false) (hg : goodL ar = true) : goodE (foldN (.mk op n v ar)) = true ∧ (foldN (.mk op n v ar)).sz ≤ szL ar + 1 ∧ (foldN (.mk op n v ar)).ht ≤ htL ar + 1 := by
  have ha := badE_arity hb
  have self : goodE (.mk op n v ar) = true ∧ (Ex.mk op n v ar).sz ≤ szL ar + 1 ∧ (Ex.mk op n v ar).ht ≤ htL ar + 1 := by
    simp [goodE, hb, hg, Ex.sz, Ex.ht]
  have con : ∀ v, shortV v → goodE (constE v) = true ∧ (constE v).sz ≤ szL ar + 1 ∧ (constE v).ht ≤ htL ar + 1 := fun v h => ⟨const_good h, by simp [constE, Ex.sz, szL], by simp [constE, Ex.ht, htL]⟩
  have mem : ∀ i, i < ar.length → goodE ((ar[i]?).getD zeroE) = true ∧ ((ar[i]?).getD zeroE).sz ≤ szL ar + 1 ∧ ((ar[i]?).getD zeroE).ht ≤ htL ar + 1 := fun i hi => by
    have hm := getD_mem hi
    have := mem_sz hm
    rw [goodL_all] at hg
    exact ⟨List.all_eq_true.1 hg _ hm, by omega, by omega⟩
  rw [foldN]
  split
  · exact self
  rename_i h0
  obtain ⟨n1, n2⟩ := arity_len ha h0
  split
  · rename_i hk
    refine con _ ?_
    rw [evalE]
    refine short_evOp (fun _ => short_zero) op n v (fun h => absurd h n2) fun x hx => ?_
    rw [evalL_eq, List.mem_map] at hx
    obtain ⟨a, ha', rfl⟩ := hx
    rw [goodL_all] at hg
    exact short_known (List.all_eq_true.1 hg a ha') (List.all_eq_true.1 hk a ha') _
  split
  · exact con _ (short_num _)
  split
  · exact con _ (short_num _)
  split
  · rename_i hi
    obtain ⟨rfl, _⟩ := hi
    have hl : ar.length = 3 := by simp [arityE] at ha; omega
    split
    · exact mem 1 (by omega)
    · exact mem 2 (by omega)
  · exact self
mutual
theorem fold_less : ∀ e : Ex, goodE e = true → goodE (mapE foldN e) = true ∧ (mapE foldN e).sz ≤ e.sz ∧ (mapE foldN e).ht ≤ e.ht
  | .mk op n v ar, hg => by
    simp only [goodE, Bool.and_eq_true, Bool.not_eq_true'] at hg
    rw [mapE_mk, ← mapL_eq]
    obtain ⟨i1, i2, i3⟩ := fold_lessL ar hg.2
    have := foldN_less (op := op) (n := nN op n) (v := nV op v) (ar := mapL foldN ar) (by rw [badE_norm, mapL_eq, List.length_map]; exact hg.1) i1
    simp only [Ex.sz, Ex.ht]
    exact ⟨this.1, by omega, by omega⟩
theorem fold_lessL : ∀ l : List Ex, goodL l = true → goodL (mapL foldN l) = true ∧ szL (mapL foldN l) ≤ szL l ∧ htL (mapL foldN l) ≤ htL l
  | [], _ => ⟨rfl, Nat.le_refl _, Nat.le_refl _⟩
  | e :: r, hg => by
    simp only [goodL, Bool.and_eq_true] at hg
    obtain ⟨a1, a2, a3⟩ := fold_less e hg.1
    obtain ⟨b1, b2, b3⟩ := fold_lessL r hg.2
    simp only [mapL, goodL, szL, htL, a1, b1]
    exact ⟨rfl, by omega, by omega⟩
end

/-- Nothing is left to fold. -/
theorem fix_const {v : Val} (h : cleanV v) : mapE foldN (constE v) = constE v := by
  rw [constE, mapE_mk]
  simp [foldN, nN, nV]
  exact h
theorem foldN_fix {op n : Int} {v : Val} {ar : List Ex} (hb : badE op n v ar.length = false) (hn : nN op n = n) (hv : nV op v = v) (hf : ∀ a, a ∈ ar → mapE foldN a = a) : mapE foldN (foldN (.mk op n v ar)) = foldN (.mk op n v ar) := by
  have ha := badE_arity hb
  have hm : ar.map (mapE foldN) = ar := by rw [List.map_congr_left hf]; simp
  obtain ⟨q, hq⟩ : ∃ q, foldN (.mk op n v ar) = q := ⟨_, rfl⟩
  rw [hq]
  rw [foldN] at hq
  split at hq
  · rename_i h0
    subst hq
    rw [mapE_mk, hm, hn, hv]; rw [foldN]; rw [if_pos h0]
  rename_i h0
  split at hq
  · subst hq; exact fix_const (clean_ev (fun _ => clean_zero) _)
  rename_i h1
  split at hq
  · subst hq; exact fix_const (clean_num _)
  rename_i h2
  split at hq
  · subst hq; exact fix_const (clean_num _)
  rename_i h3
  split at hq
  · rename_i h4
    obtain ⟨rfl, _⟩ := h4
    have hl : ar.length = 3 := by simp [arityE] at ha; omega
    split at hq
    · subst hq; exact hf _ (getD_mem (by omega))
    · subst hq; exact hf _ (getD_mem (by omega))
  · rename_i h4
    subst hq
    rw [mapE_mk, hm, hn, hv]; rw [foldN]
    rw [if_neg h0, if_neg h1, if_neg h2, if_neg h3, if_neg h4]
mutual
theorem fold_fix : ∀ e : Ex, goodE e = true → mapE foldN (mapE foldN e) = mapE foldN e
  | .mk op n v ar, hg => by
    simp only [goodE, Bool.and_eq_true, Bool.not_eq_true'] at hg
    rw [mapE_mk]
    refine foldN_fix (by rw [badE_norm, List.length_map]; exact hg.1) (nN_nN _ _) (nV_nV _ _) fun a ha => ?_
    rw [← mapL_eq] at ha
    exact fold_fixL ar hg.2 a ha
theorem fold_fixL : ∀ l : List Ex, goodL l = true → ∀ a, a ∈ mapL foldN l → mapE foldN a = a
  | [], _, a, h => by simp [mapL] at h
  | e :: r, hg, a, h => by
    simp only [goodL, Bool.and_eq_true] at hg
    simp only [mapL, List.mem_cons] at h
    rcases h with h | h
    · rw [h]; exact fold_fix e hg.1
    · exact fold_fixL r hg.2 a h
end
theorem good_of_built {e : Ex} (h : builtM e = true) : goodE e = true := ((built_eq e).1 h).1
theorem fold_built {e : Ex} (h : builtM e = true) : builtM (mapE foldN e) = true := by
  obtain ⟨h1, h2, h3⟩ := (built_eq e).1 h
  obtain ⟨g1, g2, g3⟩ := fold_less e h1
  exact (built_eq _).2 ⟨g1, by omega, by omega⟩

/-- THE LAW of folding. -/
theorem fold_law (col : Int → Val) (e : Ex) : evalM col (foldM e) = evalM col e ∧ (sizeM (foldM e)).1 ≤ (sizeM e).1 ∧ (sizeM (foldM e)).2 ≤ (sizeM e).2 ∧ (sizeM (foldM (foldM e))).1 = (sizeM (foldM e)).1 ∧ evalM col (foldM (foldM e)) = evalM col e := by
  cases hb : builtM e with
  | true =>
    have e1 : foldM e = mapE foldN e := by simp [foldM, hb]
    have hf := fold_built hb
    have e2 : foldM (foldM e) = foldM e := by rw [e1]; simp [foldM, hf]; exact fold_fix e (good_of_built hb)
    have ev : evalM col (foldM e) = evalM col e := by
      rw [e1]; simp only [evalM, hf, hb, if_true]; exact fold_ev col e (good_of_built hb)
    have hl := fold_less e (good_of_built hb)
    rw [e2]
    refine ⟨ev, ?_, ?_, rfl, ev⟩
    · rw [e1, size_eq hf, size_eq hb]; simp only; omega
    · rw [e1, size_eq hf, size_eq hb]; simp only; omega
  | false =>
    have e1 : foldM e = mapE id e := by simp [foldM, hb]
    have hc : builtM (foldM e) = false := by rw [e1, built_copy, hb]
    have e2 : foldM (foldM e) = mapE id (foldM e) := by unfold foldM; rw [if_neg]; unfold foldM at hc; rw [hc]; decide
    have hc2 : builtM (foldM (foldM e)) = false := by rw [e2, built_copy, hc]
    refine ⟨by simp [evalM, hc, hb], ?_, ?_, ?_, by simp [evalM, hc2, hb]⟩
    · rw [size_not hc, size_not hb]; simp
    · rw [size_not hc, size_not hb]; simp
    · rw [size_not hc2, size_not hc]
end Go.Proofs.Ytnhmnfokbinplaa

namespace Go.Proofs.Ytnhmnfokbinplaa
open Go Go.RowKit
set_option linter.unusedSimpArgs false
set_option linter.unusedVariables false

mutual
def colsM : Ex → List Int
  | .mk op n v ar => colsL ar ++ (if op = 1 then [n] else [])
def colsL : List Ex → List Int
  | [] => []
  | e :: r => colsM e ++ colsL r
end
mutual
theorem cols_sz : ∀ e : Ex, (colsM e).length ≤ e.sz
  | .mk op n v ar => by
    have := cols_szL ar
    simp only [colsM, Ex.sz, List.length_append]
    split <;> simp <;> omega
theorem cols_szL : ∀ l : List Ex, (colsL l).length ≤ szL l
  | [] => by simp [colsL]
  | e :: r => by
    have := cols_sz e
    have := cols_szL r
    simp only [colsL, szL, List.length_append]; omega
end
mutual
theorem cols_pos : ∀ e : Ex, goodE e = true → ∀ n, n ∈ colsM e → 0 ≤ n
  | .mk op m v ar, hg, n, hn => by
    simp only [goodE, Bool.and_eq_true, Bool.not_eq_true'] at hg
    simp only [colsM, List.mem_append] at hn
    rcases hn with hn | hn
    · exact cols_posL ar hg.2 n hn
    · split at hn
      · rename_i h1; subst h1
        simp only [List.mem_singleton] at hn; subst hn
        have := hg.1
        simp only [badE, Bool.or_eq_false_iff, Bool.and_eq_false_iff, decide_eq_false_iff_not] at this
        rcases this.1.2 with h | h
        · exact absurd trivial h
        · omega
      · simp at hn
theorem cols_posL : ∀ l : List Ex, goodL l = true → ∀ n, n ∈ colsL l → 0 ≤ n
  | [], _, n, h => by simp [colsL] at h
  | e :: r, hg, n, h => by
    simp only [goodL, Bool.and_eq_true] at hg
    simp only [colsL, List.mem_append] at h
    rcases h with h | h
    · exact cols_pos e hg.1 n h
    · exact cols_posL r hg.2 n h
end
def putN (by' : List Ex) : Ex → Ex
  | .mk op n v ar => if op = 1 then mapE id ((by'[n.toNat]?).getD zeroE) else .mk op n v ar
/-- What the columns of a row are. -/
def colOf (row : List Val) (n : Int) : Val := if (row.length : Int) ≤ n then Val.zero else clean ((row[n.toNat]?).getD Val.zero)
theorem colOf_clean (row : List Val) (n : Int) : cleanV (colOf row n) := by
  unfold colOf; split
  · exact clean_zero
  · exact clean_clean _

mutual
theorem put_ev (row : List Val) (by' : List Ex) (hb : ∀ b, b ∈ by' → builtM b = true) : ∀ e : Ex, goodE e = true → (∀ n, n ∈ colsM e → n < by'.length) →
    evalE (colOf row) (mapE (putN by') e) = evalE (colOf (by'.map (evalM (colOf row)))) e
  | .mk op n v ar, hg, hc => by
    have hpos := cols_pos _ hg
    simp only [goodE, Bool.and_eq_true, Bool.not_eq_true'] at hg
    rw [mapE_mk]
    by_cases h1 : op = 1
    · subst h1
      have hn : n ∈ colsM (.mk 1 n v ar) := by simp [colsM]
      have h0 := hpos n hn
      have hlt := hc n hn
      have hlt' : n.toNat < by'.length := by omega
      simp only [putN, if_true, nN]
      rw [List.getElem?_eq_getElem hlt', Option.getD_some, eval_copy, evalE]
      simp only [evOp, if_true]
      unfold colOf
      rw [if_neg (by rw [List.length_map]; omega), List.getElem?_map, List.getElem?_eq_getElem hlt']
      simp only [Option.map_some, Option.getD_some]
      have hbb := hb _ (List.getElem_mem hlt')
      simp only [evalM, hbb, if_true]
      exact (clean_ev (colOf_clean row) _).symm
    · simp only [putN, h1, if_false]
      rw [evalE, evalE, evOp_norm, evOp_col (colOf row) (colOf (by'.map (evalM (colOf row)))) h1]
      have : evalL (colOf row) (ar.map (mapE (putN by'))) = evalL (colOf (by'.map (evalM (colOf row)))) ar := by
        rw [← mapL_eq]
        exact put_evL row by' hb ar hg.2 (fun n hn => hc n (by simp [colsM, hn]))
      rw [this]
theorem put_evL (row : List Val) (by' : List Ex) (hb : ∀ b, b ∈ by' → builtM b = true) : ∀ l : List Ex, goodL l = true → (∀ n, n ∈ colsL l → n < by'.length) →
    evalL (colOf row) (mapL (putN by') l) = evalL (colOf (by'.map (evalM (colOf row)))) l
  | [], _, _ => rfl
  | e :: r, hg, hc => by
    simp only [goodL, Bool.and_eq_true] at hg
    rw [mapL, evalL, evalL, put_ev row by' hb e hg.1 (fun n hn => hc n (by simp [colsL, hn])), put_evL row by' hb r hg.2 (fun n hn => hc n (by simp [colsL, hn]))]
end
/-- Put: what it makes, and how it is refused. -/
def putOk (e : Ex) (by' : List Ex) : Bool := builtM e && by'.all builtM && (colsM e).all (fun n => decide (n < (by'.length : Int)))
def zeroX : Ex := .mk 0 0 Val.zero []
def putM (e : Ex) (by' : List Ex) : Ex × Int :=
  if putOk e by' = true then (if builtM (mapE (putN by') e) = true then (mapE (putN by') e, 0) else (zeroX, 3)) else (zeroX, 1)
theorem put_law (row : List Val) (e : Ex) (by' : List Ex) (h : (putM e by').2 = 0) : evalM (colOf row) (putM e by').1 = evalM (colOf (by'.map (evalM (colOf row)))) e := by
  unfold putM at h ⊢
  split at h
  · rename_i hok
    split at h
    · rename_i hbt
      rw [if_pos hok, if_pos hbt]
      unfold putOk at hok
      simp only [Bool.and_eq_true] at hok
      have hbe := hok.1.1
      simp only [evalM, hbe, hbt, if_true]
      exact put_ev row by' (fun b hb => List.all_eq_true.1 hok.1.2 b hb) e (good_of_built hbe) (fun n hn => by have := List.all_eq_true.1 hok.2 n hn; simpa using this)
    · cases h
  · cases h
end Go.Proofs.Ytnhmnfokbinplaa

namespace Go.Proofs.Ytnhmnfokbinplaa
open Go Go.RowKit
set_option maxRecDepth 100000
set_option linter.unusedSimpArgs false
set_option linter.unusedVariables false

/-- What the model's numbers and texts are bounded by. -/
def okV (v : Val) : Prop := (-9223372036854775808 ≤ v.n ∧ v.n ≤ 9223372036854775807) ∧ v.s.size ≤ 140737488355328
theorem okV_zero : okV Val.zero := ⟨by decide, by decide⟩
theorem okV_num {n : Int} (h : -9223372036854775808 ≤ n ∧ n ≤ 9223372036854775807) : okV (num n) := ⟨h, by show (0 : Nat) ≤ _; omega⟩
theorem okV_flag (b : Bool) : okV (flag b) := okV_num (by split <;> decide)
theorem okV_clean {v : Val} (h : okV v) : okV (clean v) := by
  unfold clean
  split
  · exact ⟨h.1, by show (0 : Nat) ≤ _; omega⟩
  · split
    · exact ⟨by show _ ≤ (0 : Int) ∧ (0 : Int) ≤ _; omega, h.2⟩
    · exact okV_zero
theorem okV_opt (o : Option Int) (h : ∀ n, o = some n → -9223372036854775808 ≤ n ∧ n ≤ 9223372036854775807) : okV (optNum o) := by
  cases o with
  | none => exact okV_zero
  | some n => exact okV_num (h n rfl)
theorem in64_some {x n : Int} (h : in64 x = some n) : -9223372036854775808 ≤ n ∧ n ≤ 9223372036854775807 := by
  unfold in64 at h
  split at h
  · rename_i g; simp only [Option.some.injEq] at h; subst h; exact g
  · cases h
theorem okV_vlen {v : Val} (h : okV v) : okV (vlenV v) := by
  unfold vlenV
  split
  · refine okV_num ?_; have := h.2; omega
  · exact okV_zero
theorem okV_cat (a b : Val) : okV (catV a b) := by
  unfold catV
  split
  · exact okV_zero
  · rename_i h
    simp only [not_or, Decidable.not_not, Int.not_lt] at h
    refine ⟨by show _ ≤ (0 : Int) ∧ (0 : Int) ≤ _; omega, ?_⟩
    show (a.s ++ b.s).size ≤ _
    rw [ByteArray.size_append]; omega
theorem okV_not (a : Val) : okV (vnot a) := by unfold vnot; split; exact okV_flag _; exact okV_zero
theorem okV_both (op : Int) (a b : Val) : okV (both op a b) := by unfold both; (repeat' split) <;> first | exact okV_flag _ | exact okV_zero
theorem okV_test (op : Int) (a b : Val) : okV (testV op a b) := by unfold testV; split; exact okV_zero; exact okV_flag _
theorem okV_reckon (op : Int) {a b : Val} (ha : okV a) (hb : okV b) : okV (reckon op a b) := by
  unfold reckon
  split
  · refine okV_opt _ fun n hn => ?_
    have h1 := ha.1
    have h2 := hb.1
    unfold reckN at hn
    split at hn
    · exact in64_some hn
    split at hn
    · exact in64_some hn
    split at hn
    · exact in64_some hn
    split at hn
    · split at hn
      · cases hn
      · exact in64_some hn
    split at hn
    · split at hn
      · cases hn
      · rename_i h0
        simp only [Option.some.injEq] at hn
        subst hn
        have h3 : (a.n.tmod b.n).natAbs ≤ a.n.natAbs := by rw [Int.natAbs_tmod]; exact Nat.mod_le _ _
        have h4 : 0 ≤ a.n → 0 ≤ a.n.tmod b.n := fun h => Int.tmod_nonneg _ h
        have h5 : a.n ≤ 0 → a.n.tmod b.n ≤ 0 := fun h => by
          have := Int.tmod_nonneg b.n (a := -a.n) (by omega)
          rw [Int.neg_tmod] at this; omega
        omega
    · cases hn
  · exact okV_zero

mutual
def Ex.okc : Ex → Prop
  | .mk _ _ v ar => okV v ∧ okcL ar
def okcL : List Ex → Prop
  | [] => True
  | e :: r => e.okc ∧ okcL r
end
theorem okc_mem : ∀ {l : List Ex} {e : Ex}, okcL l → e ∈ l → e.okc
  | [], _, _, h => by simp at h
  | a :: r, e, hw, h => by
    rcases List.mem_cons.1 h with g | g
    · subst g; exact hw.1
    · exact okc_mem hw.2 g
theorem good_mem {l : List Ex} (h : goodL l = true) {e : Ex} (he : e ∈ l) : goodE e = true := by
  rw [goodL_all] at h; exact List.all_eq_true.1 h e he

theorem okV_evOp {col : Int → Val} {op n : Int} {v : Val} {l : List Val} (hc : op = 1 → okV (col n)) (hv : okV v) (hl : ∀ x, x ∈ l → okV x) : okV (evOp col op n v l) := by
  have g : ∀ i : Nat, okV ((l[i]?).getD Val.zero) := by
    intro i
    cases h : l[i]? with
    | none => exact okV_zero
    | some x => exact hl x (List.mem_of_getElem? h)
  unfold evOp
  split
  · rename_i h; exact hc h
  split
  · exact okV_clean hv
  split
  · exact okV_reckon _ (okV_num (by decide)) (g 0)
  split
  · exact okV_not _
  split
  · exact okV_flag _
  split
  · exact okV_vlen (g 0)
  split
  · exact okV_reckon _ (g 0) (g 1)
  split
  · exact okV_cat _ _
  split
  · exact okV_both _ _ _
  split
  · split
    · exact g 1
    · exact g 2
  · exact okV_test _ _ _

/-- What a worker is to give for an expression. -/
def Works (kc : Nat) (cc0 : List PV) (col : Int → Val) (e : Ex) : Prop :=
  okV (evalE col e) ∧ PCall Try.prog (wk e).1 (.fn kc cc0 :: (wk e).2) fun r => r = [(evalE col e).enc]
theorem work_c {kc : Nat} {cc0 : List PV} {col : Int → Val} (op n : Int) (hcol : op = 1 → 0 ≤ n → okV (col n) ∧ PCall Try.prog kc (.int .i64 n :: cc0) fun r => r = [(col n).enc])
     (v : Val) (ar : List Ex) (hb : badE op n v ar.length = false) (hv : okV v) (IH : ∀ x, x ∈ ar → Works kc cc0 col x) : Works kc cc0 col (.mk op n v ar) := by
  have ha := badE_arity hb
  have hop := arity_ops ha
  have hn : op = 1 → 0 ≤ n := by
    intro h
    subst h
    simp only [badE, Bool.or_eq_false_iff, Bool.and_eq_false_iff, decide_eq_false_iff_not] at hb
    rcases hb.1.2 with h | h
    · exact absurd trivial h
    · omega
  refine ⟨?_, ?_⟩
  · rw [evalE, evalL_eq]
    refine okV_evOp (fun h => (hcol h (hn h)).1) hv fun x hx => ?_
    obtain ⟨a, ha', rfl⟩ := List.mem_map.1 hx
    exact (IH a ha').1
  rw [wk, cells_mk, wkL_eq, evalE, evalL_eq]
  have l0 : ∀ a r, (wkc a :: r)[0]? = some [PV.fn (wk a).1 (wk a).2] := fun _ _ => rfl
  by_cases a0 : op = 1 ∨ op = 2
  · rcases a0 with rfl | rfl
    · exact colW_c kc cc0 _ n _ _ _ _ _ (hcol rfl (hn rfl)).2
    · exact constW_c kc cc0 (clean v)
  by_cases a1 : op = 3 ∨ op = 4 ∨ op = 5 ∨ op = 6
  · have hl : ar.length = 1 := by
      rcases a1 with rfl | rfl | rfl | rfl <;> (simp [arityE] at ha; omega)
    match ar, hl, IH with
    | [a], _, IH =>
      obtain ⟨ia, wa⟩ := IH a (by simp)
      rcases a1 with rfl | rfl | rfl | rfl
      · exact run1_c 175 [] _ _ kc cc0 _ rfl _ _ wa (negW_c _ ia.1)
      · exact run1_c 20 [] _ _ kc cc0 _ rfl _ _ wa (not_c _ _ _)
      · exact run1_c 176 _ _ _ kc cc0 _ rfl _ _ wa (nullW_c _)
      · exact run1_c 177 [] _ _ kc cc0 _ rfl _ _ wa (lenW_c _ ia.2)
  by_cases a3 : op = 21
  · have hl : ar.length = 3 := by subst a3; simp [arityE] at ha; omega
    match ar, hl, IH with
    | [a, b, c], _, IH =>
      obtain ⟨ia, wa⟩ := IH a (by simp)
      obtain ⟨ib, wb⟩ := IH b (by simp)
      obtain ⟨ic, wc⟩ := IH c (by simp)
      subst a3
      exact run3_c _ _ _ _ _ _ kc cc0 _ rfl rfl rfl _ _ _ wa wb wc
  have hl : ar.length = 2 := by
    have : arityE op = 2 := by unfold arityE; rw [if_neg a0, if_neg a1, if_neg a3, if_pos (by omega)]
    rw [this] at ha; omega
  match ar, hl, IH with
  | [a, b], _, IH =>
    obtain ⟨ia, wa⟩ := IH a (by simp)
    obtain ⟨ib, wb⟩ := IH b (by simp)
    have two : ∀ (kf : Nat) (cf : List PV) (c : Val), (PCall Try.prog kf ((evalE col a).enc :: (evalE col b).enc :: cf) fun r => r = [c.enc]) → PCall Try.prog 169 [.fn kc cc0, .ip [.fn kf cf], .ip [.sl ([a, b].map wkc)]] fun r => r = [c.enc] :=
      fun kf cf c h => run2_c kf cf _ _ _ _ kc cc0 _ rfl rfl _ _ c wa wb h
    have by' : ∀ (kf : Nat) (c : Val), (PCall Try.prog kf [.int .i64 op, (evalE col a).enc, (evalE col b).enc] fun r => r = [c.enc]) →
        PCall Try.prog 169 [.fn kc cc0, .ip [.fn 171 [.ip [.fn kf []], .ip [.int .i64 op, .int .i64 n, .int .i64 v.k, .int .i64 v.n, .str v.s, .sl ([a, b].map Ex.cells)]]], .ip [.sl ([a, b].map wkc)]] fun r => r = [c.enc] :=
      fun kf c h => two 171 _ c (runBy_c kf [] op n _ _ _ _ _ _ c h)
    by_cases b1 : op = 7 ∨ op = 8 ∨ op = 9 ∨ op = 10 ∨ op = 11
    · have h := by' 29 _ (reckon_c op _ _ _ _ _ _ ia.1 ib.1)
      rcases b1 with rfl | rfl | rfl | rfl | rfl <;> exact h
    by_cases b2 : op = 18
    · subst b2
      exact two 55 [] _ (cat_c _ _ _ _ _ _ (by have := ia.2; omega) (by have := ib.2; omega))
    by_cases b3 : op = 19 ∨ op = 20
    · have h := by' 19 _ (both_c op _ _ _ _ _ _)
      rcases b3 with rfl | rfl <;> exact h
    · have h := by' 52 _ (test_c op _ _ _ _ _ _)
      have : op = 12 ∨ op = 13 ∨ op = 14 ∨ op = 15 ∨ op = 16 ∨ op = 17 := by omega
      rcases this with rfl | rfl | rfl | rfl | rfl | rfl <;> exact h
theorem work_all {kc : Nat} {cc0 : List PV} {col : Int → Val} (hcol : ∀ n, 0 ≤ n → okV (col n) ∧ PCall Try.prog kc (.int .i64 n :: cc0) fun r => r = [(col n).enc]) :
    ∀ (m : Nat) (e : Ex), e.sz ≤ m → goodE e = true → e.okc → Works kc cc0 col e
  | 0, .mk op n v ar, h, _, _ => by simp [Ex.sz] at h
  | m + 1, .mk op n v ar, h, hg, ho => by
    simp only [goodE, Bool.and_eq_true, Bool.not_eq_true'] at hg
    refine work_c op n (fun _ => hcol n) v ar hg.1 ho.1 fun x hx => work_all hcol m x ?_ (good_mem hg.2 hx) (okc_mem ho.2 hx)
    have := sz_mem hx
    simp only [Ex.sz] at h; omega

/-- The columns of a row. -/
theorem rowOf_c (R : List (List PV)) : PCall Try.prog 119 [.sl R] fun r => r = [.fn 179 [.ip [.sl R]]] := by
  refine PCall.x (nt := 4) (res := [.tmp 2]) mixed tt_ok [] Try.func119 rfl rfl rfl c119 (Nat.le_of_ble_eq_true rfl) ?_
  intro cp cc lp Q' hcp hcc hlp hQ
  repeat' (first
    | (with_reducible refine Nm.mk ?_; intro z hz)
    | (with_reducible refine IfB.mk ?_ ?_ <;> (intro h; cases h))
    | (with_reducible refine Two.l ?_; refine Asm.mk ?_ ?_; focus (decide +kernel))
    | (with_reducible refine Two.r ?_)
    | (with_reducible refine Asm.mk ?_ ?_; focus (first | kernel_rfl | decide))
    | (with_reducible refine Asm.mk2 ?_ ?_)
    | ((fail_if_success (with_reducible refine hQ _ ?_)); (fail_if_success (with_reducible refine Side.mk ?_)); (fail_if_success (with_reducible refine isCP hcp ?_)); (fail_if_success (with_reducible refine isCC hcc ?_)); (fail_if_success (with_reducible refine isLP hlp ?_)); (fail_if_success (with_reducible refine Ix.mk ?_)); (fail_if_success (with_reducible refine SIx.mk ?_)); (fail_if_success (with_reducible refine SEx.mk ?_)); (fail_if_success (with_reducible refine EIx.mk ?_)); (fail_if_success (with_reducible refine RIx.mk ?_)); (fail_if_success (with_reducible show False)); (fail_if_success (with_reducible refine hR ?_ _ ?_ ?_ ?_ ?_ ?_)); (fail_if_success (with_reducible refine hR2 ?_ _ ?_ ?_ ?_ ?_ ?_)); cbv))
  all_goals (refine hQ _ ?_; clear hQ hcp hcc hlp; subst_vars; simp_all [])
theorem rowCol_c (row : List Val) (R : List (List PV)) (hR : row.map Val.cells = R) (n : Int) (h0 : 0 ≤ n) : PCall Try.prog 179 [.int .i64 n, .ip [.sl R]] fun r => r = [(colOf row n).enc] := by
  have hl : R.length = row.length := by rw [← hR]; simp
  have hk : ∀ z : Int, (R.length : Int) = z → decide (z ≤ n) = false → n < row.length := by intro z h g; simp only [decide_eq_false_iff_not] at g; omega
  have hc1 : ∀ z : Int, (R.length : Int) = z → decide (z ≤ n) = true → colOf row n = Val.zero := by
    intro z h g; simp only [decide_eq_true_eq] at g; unfold colOf; rw [if_pos (by omega)]
  have hc2 : ∀ (z : Int) (x : Val), (R.length : Int) = z → decide (z ≤ n) = false → row[n.toNat]? = some x → colOf row n = clean x := by
    intro z x h g hx; simp only [decide_eq_false_iff_not] at g; unfold colOf; rw [if_neg (by omega), hx]; rfl
  refine PCall.x (nt := 14) (res := [.cell 3 25]) mixed tt_ok [] Try.func179 rfl rfl rfl c179 (Nat.le_of_ble_eq_true rfl) ?_
  intro cp cc lp Q' hcp hcc hlp hQ
  repeat' (first
    | (with_reducible refine Nm.mk ?_; intro z hz)
    | (with_reducible refine IfB.mk ?_ ?_ <;> (intro h; cases h))
    | (with_reducible refine Two.l ?_; refine Asm.mk ?_ ?_; focus (decide +kernel))
    | (with_reducible refine Two.r ?_)
    | (with_reducible refine Asm.mk ?_ ?_; focus kernel_rfl)
    | (with_reducible refine isCP hcp ?_; first | (refine vP hcp (clean_c _ _ _) ?_; intro v hv))
    | (with_reducible refine isCC hcc ?_; first | (refine vA hcc (clean_c _ _ _) rfl ?_; intro v hv))
    | (with_reducible refine Ix.map hR cells_len (by decide) h0 (hk _ (by assumption) (by assumption)) ?_; intro x hx)
    | (with_reducible refine Asm.mk2 ?_ ?_)
    | ((fail_if_success (with_reducible refine hQ _ ?_)); (fail_if_success (with_reducible refine Side.mk ?_)); (fail_if_success (with_reducible refine isCP hcp ?_)); (fail_if_success (with_reducible refine isCC hcc ?_)); (fail_if_success (with_reducible refine isLP hlp ?_)); (fail_if_success (with_reducible refine Ix.mk ?_)); (fail_if_success (with_reducible refine SIx.mk ?_)); (fail_if_success (with_reducible refine SEx.mk ?_)); (fail_if_success (with_reducible refine EIx.mk ?_)); (fail_if_success (with_reducible refine RIx.mk ?_)); (fail_if_success (with_reducible show False)); (fail_if_success (with_reducible refine hR ?_ _ ?_ ?_ ?_ ?_ ?_)); (fail_if_success (with_reducible refine hR2 ?_ _ ?_ ?_ ?_ ?_ ?_)); cbv))
  · refine hQ _ ?_
    rw [hc1 _ (by assumption) (by assumption)]; rfl
  · refine hQ _ ?_
    rw [hc2 _ _ (by assumption) (by assumption) hx]
    clear hQ hcp hcc hlp hk hc1 hc2
    subst_vars; rfl
def rowOk (row : List Val) : Prop := ∀ v, v ∈ row → okV v
theorem okV_colOf {row : List Val} (h : rowOk row) (n : Int) : okV (colOf row n) := by
  unfold colOf
  split
  · exact okV_zero
  · refine okV_clean ?_
    cases hx : row[n.toNat]? with
    | none => exact okV_zero
    | some x => exact h x (List.mem_of_getElem? hx)
theorem eval_c (op n vk vn : Int) (vs : ByteArray) (ar : List Ex) (es : List (List PV)) (hes : ar.map Ex.cells = es) (hw : (Ex.mk op n ⟨vk, vn, vs⟩ ar).wide) (ho : (Ex.mk op n ⟨vk, vn, vs⟩ ar).okc) (row : List Val) (R : List (List PV)) (hR : row.map Val.cells = R) (hr : rowOk row) :
    PCall Try.prog 64 [.agg [.int .i64 op, .int .i64 n, .int .i64 vk, .int .i64 vn, .str vs, .sl es], .sl R] fun r => r = [(evalM (colOf row) (.mk op n ⟨vk, vn, vs⟩ ar)).enc] := by
  have hcm := compile_all _ _ (Nat.le_refl _) hw
  have hrun : builtM (.mk op n ⟨vk, vn, vs⟩ ar) = true → PCall Try.prog (wk (.mk op n ⟨vk, vn, vs⟩ ar)).1 (.fn 179 [.ip [.sl R]] :: (wk (.mk op n ⟨vk, vn, vs⟩ ar)).2) fun r => r = [(evalM (colOf row) (.mk op n ⟨vk, vn, vs⟩ ar)).enc] := by
    intro hb
    have h := (work_all (kc := 179) (cc0 := [.ip [.sl R]]) (col := colOf row) (fun n h => ⟨okV_colOf hr n, rowCol_c row R hR n h⟩) _ _ (Nat.le_refl _) (good_of_built hb) ho).2
    unfold evalM; rw [if_pos hb]; exact h
  have hno : builtM (.mk op n ⟨vk, vn, vs⟩ ar) = false → evalM (colOf row) (.mk op n ⟨vk, vn, vs⟩ ar) = Val.zero := by intro hb; unfold evalM; rw [if_neg (by rw [hb]; decide)]
  have hbt := ebuilt_c op n vk vn vs ar es hes
  rw [cells_mk, hes] at hcm
  obtain ⟨E, hE⟩ : ∃ E, Ex.mk op n ⟨vk, vn, vs⟩ ar = E := ⟨_, rfl⟩
  rw [hE] at hcm hrun hno hbt ⊢
  obtain ⟨b, hb⟩ : ∃ b, builtM E = b := ⟨_, rfl⟩
  rw [hb] at hrun hno hbt
  have hrun' : ∀ k c z, wk E = (k, c) → b = z → (!z) = false → PCall Try.prog k (.fn 179 [.ip [.sl R]] :: c) fun r => r = [(evalM (colOf row) E).enc] := by
    intro k c z hk e hb
    subst e
    have := hrun (by simpa using hb)
    rw [hk] at this
    exact this
  refine PCall.x (nt := 14) (res := [.cell 4 25]) mixed tt_ok [] Try.func64 rfl rfl rfl c64 (Nat.le_of_ble_eq_true rfl) ?_
  intro cp cc lp Q' hcp hcc hlp hQ
  repeat' (first
    | (with_reducible refine Nm.mk ?_; intro z hz)
    | (with_reducible refine IfB.mk ?_ ?_ <;> (intro h; cases h))
    | (with_reducible refine Two.l ?_; refine Asm.mk ?_ ?_; focus (decide +kernel))
    | (with_reducible refine Two.r ?_)
    | (with_reducible refine Asm.mk ?_ ?_; focus kernel_rfl)
    | (with_reducible refine isCP hcp ?_; first | (refine bP hcp (hbt) ?_; intro z hz) | (refine fnP hcp (hcm) ?_; intro k c hX) | (refine xP hcp (rowOf_c _) ?_; skip))
    | (with_reducible refine isCC hcc ?_; first | (refine bA hcc (hbt) rfl ?_; intro z hz) | (refine fnA hcc (hcm) rfl ?_; intro k c hX) | (refine xA hcc (rowOf_c _) rfl ?_; skip))
    | (with_reducible refine isCC hcc ?_; refine vA hcc (hrun' _ _ _ hX (by assumption) (by assumption)) (hb1 rfl) ?_; intro v hv)
    | (with_reducible refine Asm.mk2 ?_ ?_)
    | ((fail_if_success (with_reducible refine hQ _ ?_)); (fail_if_success (with_reducible refine Side.mk ?_)); (fail_if_success (with_reducible refine isCP hcp ?_)); (fail_if_success (with_reducible refine isCC hcc ?_)); (fail_if_success (with_reducible refine isLP hlp ?_)); (fail_if_success (with_reducible refine Ix.mk ?_)); (fail_if_success (with_reducible refine SIx.mk ?_)); (fail_if_success (with_reducible refine SEx.mk ?_)); (fail_if_success (with_reducible refine EIx.mk ?_)); (fail_if_success (with_reducible refine RIx.mk ?_)); (fail_if_success (with_reducible show False)); (fail_if_success (with_reducible refine hR ?_ _ ?_ ?_ ?_ ?_ ?_)); (fail_if_success (with_reducible refine hR2 ?_ _ ?_ ?_ ?_ ?_ ?_)); cbv))
  · refine hQ _ ?_
    rw [hno (by clear hQ hcp hcc hlp hcm hrun hrun' hbt; simp_all)]; rfl
  · refine hQ _ ?_
    clear hQ hcp hcc hlp hcm hrun hrun' hbt
    subst_vars; rfl
end Go.Proofs.Ytnhmnfokbinplaa

namespace Go.Proofs.Ytnhmnfokbinplaa
open Go Go.RowKit
set_option maxRecDepth 100000
set_option linter.unusedSimpArgs false
set_option linter.unusedVariables false

mutual
theorem wide_copy : ∀ e : Ex, e.wide → (mapE id e).wide
  | .mk op n v ar, h => by
    rw [mapE]
    show wideN (mapL id ar).length ∧ wideL (mapL id ar)
    exact ⟨by rw [mapL_eq, List.length_map]; exact h.1, wide_copyL ar h.2⟩
theorem wide_copyL : ∀ l : List Ex, wideL l → wideL (mapL id l)
  | [], _ => trivial
  | e :: r, h => ⟨wide_copy e h.1, wide_copyL r h.2⟩
end
theorem okV_nV {op : Int} {v : Val} (h : okV v) : okV (nV op v) := by
  unfold nV
  split
  · exact okV_zero
  · split
    · exact okV_clean h
    · exact okV_zero
mutual
theorem okc_copy : ∀ e : Ex, e.okc → (mapE id e).okc
  | .mk op n v ar, h => by
    rw [mapE_mk, ← mapL_eq]
    exact ⟨okV_nV h.1, okc_copyL ar h.2⟩
theorem okc_copyL : ∀ l : List Ex, okcL l → okcL (mapL id l)
  | [], _ => trivial
  | e :: r, h => ⟨okc_copy e h.1, okc_copyL r h.2⟩
end
mutual
theorem parts_ok : ∀ e : Ex, e.wide → e.okc → ∀ p, p ∈ partsM e → p.wide ∧ p.okc
  | .mk op n v ar, hw, ho, p, hp => by
    rw [partsM] at hp
    split at hp
    · exact parts_okL ar hw.2 ho.2 p hp
    · simp only [List.mem_singleton] at hp
      subst hp
      exact ⟨wide_copy _ hw, okc_copy _ ho⟩
theorem parts_okL : ∀ l : List Ex, wideL l → okcL l → ∀ p, p ∈ partsL l → p.wide ∧ p.okc
  | [], _, _, p, hp => by simp [partsL] at hp
  | e :: r, hw, ho, p, hp => by
    rw [partsL, List.mem_append] at hp
    rcases hp with hp | hp
    · exact parts_ok e hw.1 ho.1 p hp
    · exact parts_okL r hw.2 ho.2 p hp
end
theorem built_two {n : Int} {v : Val} {ar : List Ex} (hb : builtM (.mk 19 n v ar) = true) : ∃ a b, ar = [a, b] ∧ builtM a = true ∧ builtM b = true := by
  obtain ⟨hbad, hbs⟩ := built_mk hb
  have ha := badE_arity hbad
  have hl : ar.length = 2 := by simp [arityE] at ha; omega
  match ar, hl, hbs with
  | [a, b], _, hbs => exact ⟨a, b, rfl, hbs a (by simp), hbs b (by simp)⟩
theorem parts_pos : ∀ (m : Nat) (e : Ex), e.sz ≤ m → 0 < (partsM e).length
  | 0, .mk op n v ar, h => by simp [Ex.sz] at h
  | m + 1, .mk op n v ar, h => by
    rw [partsM]
    split
    · rename_i hc
      obtain ⟨hb, rfl⟩ := hc
      obtain ⟨a, b, rfl, _, _⟩ := built_two hb
      simp only [partsL, List.length_append]
      have := parts_pos m a (by simp only [Ex.sz, szL] at h; omega)
      omega
    · simp

theorem parts_c (op n vk vn : Int) (vs : ByteArray) (ar : List Ex) (es : List (List PV)) (hes : ar.map Ex.cells = es) (hw : (Ex.mk op n ⟨vk, vn, vs⟩ ar).wide)
    (IH : ∀ x, x ∈ ar → TCall Try.prog 63 [.agg x.cells] (fun l => l = (partsM x).map Ex.cells) 6) :
    TCall Try.prog 63 [.agg [.int .i64 op, .int .i64 n, .int .i64 vk, .int .i64 vn, .str vs, .sl es]] (fun l => l = (partsM (.mk op n ⟨vk, vn, vs⟩ ar)).map Ex.cells) 6 := by
  have hbt := ebuilt_c op n vk vn vs ar es hes
  have hcp' := copy_c op n vk vn vs ar es hes hw
  obtain ⟨q, hq⟩ : ∃ q, (partsM (.mk op n ⟨vk, vn, vs⟩ ar)).map Ex.cells = q := ⟨_, rfl⟩
  rw [hq]
  rw [partsM] at hq
  have h2 : ∀ z, builtM (.mk op n ⟨vk, vn, vs⟩ ar) = z → (!z) = false → (!decide (op = 19)) = false → ∃ a b, es = [a.cells, b.cells] ∧ (partsM a).map Ex.cells ++ (partsM b).map Ex.cells = q ∧ (partsM a).length + (partsM b).length ≤ 400 ∧
      (TCall Try.prog 63 [.agg a.cells] (fun l => l = (partsM a).map Ex.cells) 6) ∧ TCall Try.prog 63 [.agg b.cells] (fun l => l = (partsM b).map Ex.cells) 6 := by
    intro z h1 h2 h3
    have hb : builtM (.mk op n ⟨vk, vn, vs⟩ ar) = true := by rw [h1]; simpa using h2
    have h19 : op = 19 := by simpa using h3
    subst h19
    have hs := built_sz hb
    obtain ⟨a, b, rfl, _, _⟩ := built_two hb
    refine ⟨a, b, hes.symm, ?_, ?_, IH a (by simp), IH b (by simp)⟩
    · rw [← hq, if_pos ⟨hb, rfl⟩]; simp [partsL]
    · have h1 := partsL_len [a, b]
      simp only [partsL, List.length_append, List.append_nil, List.length_nil, szL, Ex.sz] at h1 hs
      omega
  have h1 : ∀ z, builtM (.mk op n ⟨vk, vn, vs⟩ ar) = z → (!z) = true ∨ (!decide (op = 19)) = true → [(mapE id (.mk op n ⟨vk, vn, vs⟩ ar)).cells] = q := by
    intro z hz h
    rw [← hq, if_neg]
    · rfl
    · rintro ⟨x, y⟩
      rw [← hz, x] at h
      simp [y] at h
  clear hq
  refine TCall.x (nt := 25) (res := [.tmp 2]) mixed tt_ok [] Try.func63 rfl rfl rfl c63 (Nat.le_of_ble_eq_true rfl) ?_
  intro cp cc lp Q' hcp hcc hlp hQ
  repeat' (first
    | (with_reducible refine Nm.mk ?_; intro z hz)
    | (with_reducible refine IfB.mk ?_ ?_ <;> (intro h; cases h))
    | (with_reducible refine Two.l ?_; refine Asm.mk ?_ ?_; focus (decide +kernel))
    | (with_reducible refine Two.r ?_)
    | (with_reducible refine Asm.mk ?_ ?_; focus (first | kernel_rfl | decide))
    | (with_reducible refine isCP hcp ?_; first | (refine bP hcp (hbt) ?_; intro z hz) | (refine exP hcp (hcp') ?_; intro op2 n2 vk2 vn2 vs2 ar2 es2 hX hes2))
    | (with_reducible refine isCC hcc ?_; first | (refine bA hcc (hbt) rfl ?_; intro z hz) | (refine exA hcc (hcp') rfl ?_; intro op2 n2 vk2 vn2 vs2 ar2 es2 hX hes2))
    | (with_reducible refine Asm.mk2 ?_ ?_)
    | ((fail_if_success (with_reducible refine hQ _ ?_)); (fail_if_success (with_reducible refine Side.mk ?_)); (fail_if_success (with_reducible refine isCP hcp ?_)); (fail_if_success (with_reducible refine isCC hcc ?_)); (fail_if_success (with_reducible refine isLP hlp ?_)); (fail_if_success (with_reducible refine Ix.mk ?_)); (fail_if_success (with_reducible refine SIx.mk ?_)); (fail_if_success (with_reducible refine SEx.mk ?_)); (fail_if_success (with_reducible refine EIx.mk ?_)); (fail_if_success (with_reducible refine RIx.mk ?_)); (fail_if_success (with_reducible show False)); (fail_if_success (with_reducible refine hR ?_ _ ?_ ?_ ?_ ?_ ?_)); (fail_if_success (with_reducible refine hR2 ?_ _ ?_ ?_ ?_ ?_ ?_)); cbv))
  · refine hQ _ ?_
    rw [← h1 _ (by assumption) (.inl (by assumption)), hX, cells_mk, hes2]
  · refine hQ _ ?_
    rw [← h1 _ (by assumption) (.inr (by assumption)), hX, cells_mk, hes2]
  · obtain ⟨a, b, he, hab, hlen, ta, tb⟩ := h2 _ (by assumption) (by assumption) (by assumption)
    obtain ⟨oa, na, ⟨ka, ma, sa⟩, ra⟩ := a
    obtain ⟨ob, nb, ⟨kb, mb, sb⟩, rb⟩ := b
    have hA0 : es[0]? = some (Ex.mk oa na ⟨ka, ma, sa⟩ ra).cells := by rw [he]; rfl
    have hA1 : es[1]? = some (Ex.mk ob nb ⟨kb, mb, sb⟩ rb).cells := by rw [he]; rfl
    clear h1 h2
    have oka := okEs_cells (partsM (Ex.mk oa na ⟨ka, ma, sa⟩ ra))
    have okb := okEs_cells (partsM (Ex.mk ob nb ⟨kb, mb, sb⟩ rb))
    obtain ⟨PA, hPA⟩ : ∃ x, (partsM (Ex.mk oa na ⟨ka, ma, sa⟩ ra)).map Ex.cells = x := ⟨_, rfl⟩
    obtain ⟨PB, hPB⟩ : ∃ x, (partsM (Ex.mk ob nb ⟨kb, mb, sb⟩ rb)).map Ex.cells = x := ⟨_, rfl⟩
    have hl1 : PA.length + PB.length ≤ 400 := by rw [← hPA, ← hPB]; simpa using hlen
    rw [hPA] at ta oka hab
    rw [hPB] at tb okb hab
    rw [cells_mk] at ta tb hA0 hA1
    obtain ⟨ea, hea⟩ : ∃ x, ra.map Ex.cells = x := ⟨_, rfl⟩
    obtain ⟨eb, heb⟩ : ∃ x, rb.map Ex.cells = x := ⟨_, rfl⟩
    rw [hea] at ta hA0
    rw [heb] at tb hA1
    have hside : ∀ z1 z2 : List (List PV), PA = z1 → PB = z2 → z1.length = z1.length ∧ 6 = 6 ∧ okEs 6 z1 = true ∧ okEs 6 z2 = true ∧ z1.length + z2.length ≤ maxLen ∧ (z1.length + z2.length) * 72 ≤ 140737488355328 := by
      rintro z1 z2 rfl rfl
      refine ⟨rfl, rfl, oka, okb, ?_, ?_⟩
      · simp only [maxLen]; omega
      · omega
    repeat' (first
      | (with_reducible refine Nm.mk ?_; intro z hz)
      | (with_reducible refine IfB.mk ?_ ?_ <;> (intro h; cases h))
      | (with_reducible refine Two.l ?_; refine Asm.mk ?_ ?_; focus (decide +kernel))
      | (with_reducible refine Two.r ?_)
      | (with_reducible refine Asm.mk ?_ ?_; focus kernel_rfl)
      | (with_reducible refine isCP hcp ?_; first | (refine tP hcp (ta) ?_; intro z hz) | (refine tP hcp (tb) ?_; intro z hz))
      | (with_reducible refine isCC hcc ?_; first | (refine tA hcc (ta) rfl ?_; intro z mz hz hmz) | (refine tA hcc (tb) rfl ?_; intro z mz hz hmz))
      | (with_reducible refine Ix.el 0 (by decide) rfl hA0 rfl (by decide) ?_)
      | (with_reducible refine Ix.el 1 (by decide) rfl hA1 rfl (by decide) ?_)
      | (with_reducible refine Asm.mk2 ?_ ?_)
      | ((fail_if_success (with_reducible refine hQ _ ?_)); (fail_if_success (with_reducible refine Side.mk ?_)); (fail_if_success (with_reducible refine isCP hcp ?_)); (fail_if_success (with_reducible refine isCC hcc ?_)); (fail_if_success (with_reducible refine isLP hlp ?_)); (fail_if_success (with_reducible refine Ix.mk ?_)); (fail_if_success (with_reducible refine SIx.mk ?_)); (fail_if_success (with_reducible refine SEx.mk ?_)); (fail_if_success (with_reducible refine EIx.mk ?_)); (fail_if_success (with_reducible refine RIx.mk ?_)); (fail_if_success (with_reducible show False)); (fail_if_success (with_reducible refine hR ?_ _ ?_ ?_ ?_ ?_ ?_)); (fail_if_success (with_reducible refine hR2 ?_ _ ?_ ?_ ?_ ?_ ?_)); cbv))
    · refine Side.mk ?_
      obtain ⟨u1, u2, u3⟩ := hside _ _ (by assumption) (by assumption)
      exact ⟨Eq.symm (by assumption), u2, u3⟩
    · refine Side.mk ?_
      clear hQ
      subst_vars
      exact ⟨by simp, rfl⟩
    · refine hQ _ ?_
      clear hQ
      subst_vars
      rfl
theorem parts_all : ∀ (m : Nat) (e : Ex), e.sz ≤ m → e.wide → TCall Try.prog 63 [.agg e.cells] (fun l => l = (partsM e).map Ex.cells) 6
  | 0, .mk op n v ar, h, _ => by simp [Ex.sz] at h
  | m + 1, .mk op n ⟨vk, vn, vs⟩ ar, h, hw => by
    rw [cells_mk]
    refine parts_c op n vk vn vs ar _ rfl hw fun x hx => parts_all m x ?_ (wide_mem hw.2 hx)
    have := sz_mem hx
    simp only [Ex.sz] at h; omega
theorem partsP_c (op n vk vn : Int) (vs : ByteArray) (ar : List Ex) (es : List (List PV)) (hes : ar.map Ex.cells = es) (hw : (Ex.mk op n ⟨vk, vn, vs⟩ ar).wide) :
    PCall Try.prog 63 [.agg [.int .i64 op, .int .i64 n, .int .i64 vk, .int .i64 vn, .str vs, .sl es]] fun r => r = [.sl ((partsM (.mk op n ⟨vk, vn, vs⟩ ar)).map Ex.cells)] := by
  have h := (parts_all _ _ (Nat.le_refl _) hw).pure
  rw [cells_mk, hes] at h
  exact h.mono fun r hr => by obtain ⟨L, rfl, rfl⟩ := hr; rfl

theorem parts_400 (e : Ex) : (partsM e).length ≤ 400 := by
  obtain ⟨op, n, v, ar⟩ := e
  rw [partsM]
  split
  · rename_i h
    have h1 := built_sz h.1
    have h2 := partsL_len ar
    simp only [Ex.sz] at h1; omega
  · simp

set_option maxHeartbeats 4000000 in
theorem exprParts_c (op n vk vn : Int) (vs : ByteArray) (ar : List Ex) (es : List (List PV)) (hes : ar.map Ex.cells = es) (hw : (Ex.mk op n ⟨vk, vn, vs⟩ ar).wide) (ho : (Ex.mk op n ⟨vk, vn, vs⟩ ar).okc) (row : List Val) (R : List (List PV)) (hrw : row.map Val.cells = R) (hr : rowOk row) :
    PCall Try.prog 12 [.agg [.int .i64 op, .int .i64 n, .int .i64 vk, .int .i64 vn, .str vs, .sl es], .sl R] fun r => r = [.bool true] := by
  have hp := partsP_c op n vk vn vs ar es hes hw
  have he := eval_c op n vk vn vs ar es hes hw ho row R hrw hr
  have hlaw := parts_true (colOf row) (.mk op n ⟨vk, vn, vs⟩ ar)
  have hpos := parts_pos _ (.mk op n ⟨vk, vn, vs⟩ ar) (Nat.le_refl _)
  have hpo := parts_ok (.mk op n ⟨vk, vn, vs⟩ ar) hw ho
  have h400 := parts_400 (.mk op n ⟨vk, vn, vs⟩ ar)
  obtain ⟨E, hE⟩ : ∃ E, evalM (colOf row) (.mk op n ⟨vk, vn, vs⟩ ar) = E := ⟨_, rfl⟩
  obtain ⟨PL, hPL⟩ : ∃ x, partsM (.mk op n ⟨vk, vn, vs⟩ ar) = x := ⟨_, rfl⟩
  rw [hPL] at hp hlaw hpos hpo h400
  rw [hE] at he hlaw
  obtain ⟨L, hL⟩ : ∃ x, PL.map Ex.cells = x := ⟨_, rfl⟩
  rw [hL] at hp
  have hLl : L.length = PL.length := by rw [← hL]; simp
  have hev : ∀ (op' m' vk' vn' : Int) (vs' : ByteArray) (ar' : List Ex) (es' : List (List PV)) (i : Nat), PL[i]? = some (.mk op' m' ⟨vk', vn', vs'⟩ ar') → ar'.map Ex.cells = es' →
      PCall Try.prog 64 [.agg [.int .i64 op', .int .i64 m', .int .i64 vk', .int .i64 vn', .str vs', .sl es'], .sl R] fun r => r = [(evalM (colOf row) (.mk op' m' ⟨vk', vn', vs'⟩ ar')).enc] := by
    intro op' m' vk' vn' vs' ar' es' i hx he
    obtain ⟨w1, w2⟩ := hpo _ (List.mem_of_getElem? hx)
    exact eval_c op' m' vk' vn' vs' ar' es' he w1 w2 row R hrw hr
  have ht : ∀ (x v : Val), x = v → PCall Try.prog 57 [.agg [.int .i64 v.k, .int .i64 v.n, .str v.s]] fun r => r = [.bool (trueV x)] := by rintro x v rfl; exact true_c _ _ _
  have hw3 : ar.length ≤ 140737488355328 := by have := hw.1; unfold wideN at this; omega
  refine PCall.x (nt := 54) (res := [.tmp 4]) mixed tt_ok [] Try.func12 rfl rfl rfl c12 (Nat.le_of_ble_eq_true rfl) ?_
  intro cp cc lp Q' hcp hcc hlp hQ
  repeat' (first
    | (with_reducible refine Nm.mk ?_; intro z hz)
    | (with_reducible refine IfB.mk ?_ ?_ <;> (intro h; cases h))
    | (with_reducible refine Two.l ?_; refine Asm.mk ?_ ?_; focus (decide +kernel))
    | (with_reducible refine Two.r ?_)
    | (with_reducible refine Asm.mk ?_ ?_; focus (first | kernel_rfl | decide))
    | (with_reducible refine isCP hcp ?_; first | (refine xP hcp (hp) ?_; skip))
    | (with_reducible refine isCC hcc ?_; first | (refine xA hcc (hp) rfl ?_; skip))
    | (with_reducible refine Asm.mk2 ?_ ?_)
    | ((fail_if_success (with_reducible refine hQ _ ?_)); (fail_if_success (with_reducible refine Side.mk ?_)); (fail_if_success (with_reducible refine isCP hcp ?_)); (fail_if_success (with_reducible refine isCC hcc ?_)); (fail_if_success (with_reducible refine isLP hlp ?_)); (fail_if_success (with_reducible refine Ix.mk ?_)); (fail_if_success (with_reducible refine SIx.mk ?_)); (fail_if_success (with_reducible refine SEx.mk ?_)); (fail_if_success (with_reducible refine EIx.mk ?_)); (fail_if_success (with_reducible refine RIx.mk ?_)); (fail_if_success (with_reducible show False)); (fail_if_success (with_reducible refine hR ?_ _ ?_ ?_ ?_ ?_ ?_)); (fail_if_success (with_reducible refine hR2 ?_ _ ?_ ?_ ?_ ?_ ?_)); cbv))
  simp only [nc] at hz
  simp only [nc'] at hz
  have hzl := hz
  clear hz
  rename Int => zl
  refine loopK (ι := Int × Bool) mixed tt_ok hcp hcc hlp [1, 2, 6, 11, 12] (fun p => [(13, .p (.int .i64 p.1)), (5, .p (.bool p.2))]) (fun p => 0 ≤ p.1 ∧ p.1 ≤ zl ∧ (PL.take p.1.toNat).all (fun q => trueV (evalM (colOf row) q)) = p.2) (fun p => (zl - p.1).toNat) (0, true) (fun _ => rfl)
    ⟨by show (0 : Int) ≤ 0; omega, by show (0 : Int) ≤ zl; omega, rfl⟩ ⟨rfl, rfl, trivial⟩ ?_
  rintro R2 ⟨i, b⟩ ⟨hi0, hi1, hb⟩ hR
  have hi0 : 0 ≤ i := hi0
  have hi1 : i ≤ zl := hi1
  have hb : (PL.take i.toNat).all (fun q => trueV (evalM (colOf row) q)) = b := hb
  have hk : decide (i < zl) = true → i < PL.length := by simp only [decide_eq_true_eq]; omega
  have hst : decide (i < zl) = true → IntKind.i64.wrap (i + 1) = i + 1 ∧ (0 ≤ i + 1 ∧ i + 1 ≤ zl) ∧ (zl - (i + 1)).toNat < (zl - i).toNat := by
    intro h
    have hlt := hk h
    simp only [decide_eq_true_eq] at h
    exact ⟨wrap_in (by omega), by omega, by omega⟩
  have hfin : decide (i < zl) = false → b = trueV E := by
    simp only [decide_eq_false_iff_not]; intro h
    rw [List.take_of_length_le (by omega)] at hb
    rw [← hb, hlaw]
  have hz0 : ∀ z : Int, (L.length : Int) = z → decide (0 < z) = false → False := by intro z h g; simp only [decide_eq_false_iff_not] at g; omega
  have hstep : ∀ x, PL[i.toNat]? = some x → (PL.take (i + 1).toNat).all (fun q => trueV (evalM (colOf row) q)) = (b && trueV (evalM (colOf row) x)) := by
    intro x hx
    rw [show (i + 1).toNat = i.toNat + 1 by omega, takeS hx, List.all_append, hb]; simp
  repeat' (first
    | (with_reducible refine Nm.mk ?_; intro z hz)
    | (with_reducible refine IfB.mk ?_ ?_ <;> (intro h; cases h))
    | (with_reducible refine Two.l ?_; refine Asm.mk ?_ ?_; focus (decide +kernel))
    | (with_reducible refine Two.r ?_)
    | (with_reducible refine Asm.mk ?_ ?_; focus kernel_rfl)
    | (with_reducible refine isCP hcp ?_; first | (refine vP hcp (hev _ _ _ _ _ _ _ i.toNat (by assumption) (by assumption)) ?_; intro v hv) | (refine vP hcp (he) ?_; intro v hv) | (refine bP hcp (ht _ _ (by assumption)) ?_; intro z hz))
    | (with_reducible refine isCC hcc ?_; first | (refine vA hcc (hev _ _ _ _ _ _ _ i.toNat (by assumption) (by assumption)) rfl ?_; intro v hv) | (refine vA hcc (he) rfl ?_; intro v hv) | (refine bA hcc (ht _ _ (by assumption)) rfl ?_; intro z hz))
    | (with_reducible refine Ix.ex hL hi0 (hk (by assumption)) ?_; intro op' m' vk' vn' vs' ar' es' hx hes')
    | (with_reducible refine Asm.mk2 ?_ ?_)
    | ((fail_if_success (with_reducible refine hQ _ ?_)); (fail_if_success (with_reducible refine Side.mk ?_)); (fail_if_success (with_reducible refine isCP hcp ?_)); (fail_if_success (with_reducible refine isCC hcc ?_)); (fail_if_success (with_reducible refine isLP hlp ?_)); (fail_if_success (with_reducible refine Ix.mk ?_)); (fail_if_success (with_reducible refine SIx.mk ?_)); (fail_if_success (with_reducible refine SEx.mk ?_)); (fail_if_success (with_reducible refine EIx.mk ?_)); (fail_if_success (with_reducible refine RIx.mk ?_)); (fail_if_success (with_reducible show False)); (fail_if_success (with_reducible refine hR ?_ _ ?_ ?_ ?_ ?_ ?_)); (fail_if_success (with_reducible refine hR2 ?_ _ ?_ ?_ ?_ ?_ ?_)); cbv))
  all_goals first
    | (obtain ⟨e1, u, mu⟩ := hst (by assumption)
       rw [e1] at hz
       refine hR (i + 1, _) _ ⟨u.1, u.2, ?_⟩ mu ⟨hz ▸ rfl, rfl, trivial⟩ ⟨rfl, rfl, rfl, rfl, rfl, trivial⟩ rfl
       show (PL.take (i + 1).toNat).all (fun q => trueV (evalM (colOf row) q)) = _
       rw [hstep _ hx]
       first | rfl | (show trueV _ = _; assumption))
    | exact hQ _ rfl
    | exact (hz0 _ (by assumption) (by assumption)).elim
    | (have h := hfin (by assumption)
       refine hQ _ ?_
       clear hQ hR hcp hcc hlp hst hk hfin hstep hev ht hp he hz0
       simp_all)
    | (exfalso
       have h := hfin (by assumption)
       clear hQ hR hcp hcc hlp hst hk hfin hstep hev ht hp he hz0
       simp_all)
end Go.Proofs.Ytnhmnfokbinplaa

namespace Go.Proofs.Ytnhmnfokbinplaa
open Go Go.RowKit
set_option maxRecDepth 100000
set_option linter.unusedSimpArgs false
set_option linter.unusedVariables false

set_option maxHeartbeats 1000000 in
theorem neat_c (op n : Int) (v : Val) (ar : List Ex) (es : List (List PV)) (hes : ar.map Ex.cells = es) (hs : wideN ar.length)
    (IH : ∀ x, x ∈ ar → PCall Try.prog 141 [.agg x.cells] fun r => r = [.agg (mapE id x).cells]) :
    PCall Try.prog 141 [.agg [.int .i64 op, .int .i64 n, .int .i64 v.k, .int .i64 v.n, .str v.s, .sl es]] fun r => r = [.agg (mapE id (.mk op n v ar)).cells] := by
  have hel : es.length = ar.length := by rw [← hes]; simp
  obtain ⟨q, hq⟩ : ∃ q, mapE id (.mk op n v ar) = q := ⟨_, rfl⟩
  rw [hq]
  rw [mapE, mapL_eq] at hq
  obtain ⟨vk, vn, vs⟩ := v
  unfold wideN at hs
  have hmc : ∀ (op' m' vk' vn' : Int) (vs' : ByteArray) (ar' : List Ex) (es' : List (List PV)) (i : Nat), ar[i]? = some (.mk op' m' ⟨vk', vn', vs'⟩ ar') → ar'.map Ex.cells = es' →
      PCall Try.prog 141 [.agg [.int .i64 op', .int .i64 m', .int .i64 vk', .int .i64 vn', .str vs', .sl es']] fun r => r = [.agg (mapE id (.mk op' m' ⟨vk', vn', vs'⟩ ar')).cells] := by
    intro op' m' vk' vn' vs' ar' es' i hx he
    have := IH _ (List.mem_of_getElem? hx)
    rw [cells_mk, he] at this
    exact this
  refine PCall.x (nt := 38) (res := [.cell 2 80]) mixed tt_ok [] Try.func141 rfl rfl rfl c141 (Nat.le_of_ble_eq_true rfl) ?_
  intro cp cc lp Q' hcp hcc hlp hQ
  repeat' (first
    | (with_reducible refine Nm.mk ?_; intro z hz)
    | (with_reducible refine IfB.mk ?_ ?_ <;> (intro h; cases h))
    | (with_reducible refine Two.l ?_; refine Asm.mk ?_ ?_; focus (decide +kernel))
    | (with_reducible refine Two.r ?_)
    | (with_reducible refine Asm.mk ?_ ?_; focus (first | kernel_rfl | decide))
    | (with_reducible refine isCP hcp ?_; first | (refine vP hcp (rclean_c vk vn vs) ?_; intro v hv))
    | (with_reducible refine isCC hcc ?_; first | (refine vA hcc (rclean_c vk vn vs) rfl ?_; intro v hv))
    | (with_reducible refine Asm.mk2 ?_ ?_)
    | ((fail_if_success (with_reducible refine hQ _ ?_)); (fail_if_success (with_reducible refine Side.mk ?_)); (fail_if_success (with_reducible refine isCP hcp ?_)); (fail_if_success (with_reducible refine isCC hcc ?_)); (fail_if_success (with_reducible refine isLP hlp ?_)); (fail_if_success (with_reducible refine Ix.mk ?_)); (fail_if_success (with_reducible refine SIx.mk ?_)); (fail_if_success (with_reducible refine SEx.mk ?_)); (fail_if_success (with_reducible refine EIx.mk ?_)); (fail_if_success (with_reducible refine RIx.mk ?_)); (fail_if_success (with_reducible show False)); (fail_if_success (with_reducible refine hR ?_ _ ?_ ?_ ?_ ?_ ?_)); (fail_if_success (with_reducible refine hR2 ?_ _ ?_ ?_ ?_ ?_ ?_)); cbv))
  · exfalso
    have e1 : op = 2 := of_decide_eq_true (by assumption)
    have e2 : op = 1 := of_decide_eq_true (by assumption)
    omega
  · have hq' : Ex.mk op 0 ⟨v.k, v.n, v.s⟩ (ar.map (mapE id)) = q := by
      rw [← hq]
      clear hQ hcp hcc hlp hmc IH
      first
        | (have e : op = 1 := of_decide_eq_true (by assumption)
           subst e; rfl)
        | (have e : op = 2 := of_decide_eq_true (by assumption)
           subst e; subst_vars; rfl)
        | (have e1 : ¬ op = 1 := of_decide_eq_false (by assumption)
           have e2 : ¬ op = 2 := of_decide_eq_false (by assumption)
           rw [if_neg e1, if_neg e1, if_neg e2]; rfl)
    clear hq
    simp only [nc] at hz
    simp only [nc'] at hz
    have hzl := lenZ (n := ar.length) hel hz
    clear hz
    rename Int => zl
    refine mintX hlp 6 2 5 rfl rfl ?_
    refine loopT (ι := Int × List (List PV) × Nat) mixed tt_ok hcp hcc hlp [2, 3, 23, 24] (fun p => [(25, .p (.int .i64 p.1))])
      (fun p => [.cells [.p (.int .i64 op), .p (.int .i64 n), .p (.int .i64 vk), .p (.int .i64 vn), .p (.str vs), .p (.sl es)], .cells [.p (.int .i64 0), .p (.int .i64 0), .p (.int .i64 0), .p (.int .i64 0), .p (.str ⟨⟨[]⟩⟩), .full []],
        .cells [.p (.int .i64 op), .p (.int .i64 0), .p (.int .i64 v.k), .p (.int .i64 v.n), .p (.str v.s), .tok 3 p.2.1], .spare p.2.2 6])
      (fun p => Rng ar.length zl p.1 ∧ (ar.take p.1.toNat).map (fun e => (mapE id e).cells) = p.2.1 ∧ p.2.1.length = p.2.2) (fun p => (zl - p.1).toNat)
      (0, [], 0) 4 (fun _ => rfl) ⟨Rng.start hzl (by omega), by simp, rfl⟩ ⟨rfl, trivial⟩ rfl ?_
    rintro R ⟨i, L, m⟩ ⟨rg, hl, hm⟩ hR
    replace rg : Rng ar.length zl i := rg
    replace hl : (ar.take i.toNat).map (fun e => (mapE id e).cells) = L := hl
    replace hm : L.length = m := hm
    have hll : L.length ≤ i.toNat := by rw [← hl]; simp; omega
    have hok : okEs 6 L = true := by
      rw [← hl, show (fun e => (mapE id e).cells) = Ex.cells ∘ mapE id from rfl, ← List.map_map]; exact okEs_cells _
    have hst : decide (i < zl) = true → L.length + 1 ≤ maxLen ∧ (L.length + 1) * 72 ≤ 140737488355328 := by
      intro h
      have hlt := rg.ltN h
      refine ⟨by simp only [maxLen]; omega, by omega⟩
    have hfin : decide (i < zl) = false → (ar.map (mapE id)).map Ex.cells = L := by
      intro h
      rw [← hl, rg.take_ rfl h, List.map_map]; rfl
    repeat' (first
      | (with_reducible refine Nm.mk ?_; intro z hz)
      | (with_reducible refine IfB.mk ?_ ?_ <;> (intro h; cases h))
      | (with_reducible refine Two.l ?_; refine Asm.mk ?_ ?_; focus (decide +kernel))
      | (with_reducible refine Two.r ?_)
      | (with_reducible refine Asm.mk ?_ ?_; focus kernel_rfl)
      | (with_reducible refine isCP hcp ?_; first | (refine exP hcp (hmc _ _ _ _ _ _ _ i.toNat (by assumption) (by assumption)) ?_; intro op2 n2 vk2 vn2 vs2 ar2 es2 hX hes2))
      | (with_reducible refine isCC hcc ?_; first | (refine exA hcc (hmc _ _ _ _ _ _ _ i.toNat (by assumption) (by assumption)) rfl ?_; intro op2 n2 vk2 vn2 vs2 ar2 es2 hX hes2))
      | (with_reducible refine Ix.ex hes rg.lo (rg.lt (by assumption)) ?_; intro op' m' vk' vn' vs' ar' es' hx hes')
      | (with_reducible refine Asm.mk2 ?_ ?_)
      | ((fail_if_success (with_reducible refine hQ _ ?_)); (fail_if_success (with_reducible refine Side.mk ?_)); (fail_if_success (with_reducible refine isCP hcp ?_)); (fail_if_success (with_reducible refine isCC hcc ?_)); (fail_if_success (with_reducible refine isLP hlp ?_)); (fail_if_success (with_reducible refine Ix.mk ?_)); (fail_if_success (with_reducible refine SIx.mk ?_)); (fail_if_success (with_reducible refine SEx.mk ?_)); (fail_if_success (with_reducible refine EIx.mk ?_)); (fail_if_success (with_reducible refine RIx.mk ?_)); (fail_if_success (with_reducible show False)); (fail_if_success (with_reducible refine hR ?_ _ ?_ ?_ ?_ ?_ ?_)); (fail_if_success (with_reducible refine hR2 ?_ _ ?_ ?_ ?_ ?_ ?_)); cbv))
    · refine Side.mk ?_
      obtain ⟨u1, u2⟩ := hst (by assumption)
      exact ⟨hm.symm, rfl, hok, rfl, u1, u2⟩
    · have hlt : decide (i < zl) = true := by assumption
      rw [rg.wrap hlt] at hz
      rename_i L2 hL2 m2 hm2
      refine hR (i + 1, _, _) _ ⟨rg.next hlt, ?_, ?_⟩ (rg.less hlt) ⟨hz ▸ rfl, trivial⟩ ⟨rfl, rfl, rfl, rfl, trivial⟩ rfl
      · show (ar.take (i + 1).toNat).map (fun e => (mapE id e).cells) = L2
        rw [rg.take hx, List.map_append, hl, ← hL2]
        simp only [List.map_cons, List.map_nil, hX, cells_mk, hes2]
      · show L2.length = m2
        rw [← hL2, ← hm2, List.length_append]
    · refine hQ _ ?_
      rw [← hq', cells_mk, hfin (by assumption)]
  · have hq' : Ex.mk op n ⟨0, 0, ⟨⟨[]⟩⟩⟩ (ar.map (mapE id)) = q := by
      rw [← hq]
      clear hQ hcp hcc hlp hmc IH
      first
        | (have e : op = 1 := of_decide_eq_true (by assumption)
           subst e; rfl)
        | (have e : op = 2 := of_decide_eq_true (by assumption)
           subst e; subst_vars; rfl)
        | (have e1 : ¬ op = 1 := of_decide_eq_false (by assumption)
           have e2 : ¬ op = 2 := of_decide_eq_false (by assumption)
           rw [if_neg e1, if_neg e1, if_neg e2]; rfl)
    clear hq
    simp only [nc] at hz
    simp only [nc'] at hz
    have hzl := lenZ (n := ar.length) hel hz
    clear hz
    rename Int => zl
    refine mintX hlp 6 2 5 rfl rfl ?_
    refine loopT (ι := Int × List (List PV) × Nat) mixed tt_ok hcp hcc hlp [2, 3, 23, 24] (fun p => [(25, .p (.int .i64 p.1))])
      (fun p => [.cells [.p (.int .i64 op), .p (.int .i64 n), .p (.int .i64 vk), .p (.int .i64 vn), .p (.str vs), .p (.sl es)], .cells [.p (.int .i64 0), .p (.int .i64 0), .p (.int .i64 0), .p (.int .i64 0), .p (.str ⟨⟨[]⟩⟩), .full []],
        .cells [.p (.int .i64 op), .p (.int .i64 n), .p (.int .i64 0), .p (.int .i64 0), .p (.str ⟨⟨[]⟩⟩), .tok 3 p.2.1], .spare p.2.2 6])
      (fun p => Rng ar.length zl p.1 ∧ (ar.take p.1.toNat).map (fun e => (mapE id e).cells) = p.2.1 ∧ p.2.1.length = p.2.2) (fun p => (zl - p.1).toNat)
      (0, [], 0) 4 (fun _ => rfl) ⟨Rng.start hzl (by omega), by simp, rfl⟩ ⟨rfl, trivial⟩ rfl ?_
    rintro R ⟨i, L, m⟩ ⟨rg, hl, hm⟩ hR
    replace rg : Rng ar.length zl i := rg
    replace hl : (ar.take i.toNat).map (fun e => (mapE id e).cells) = L := hl
    replace hm : L.length = m := hm
    have hll : L.length ≤ i.toNat := by rw [← hl]; simp; omega
    have hok : okEs 6 L = true := by
      rw [← hl, show (fun e => (mapE id e).cells) = Ex.cells ∘ mapE id from rfl, ← List.map_map]; exact okEs_cells _
    have hst : decide (i < zl) = true → L.length + 1 ≤ maxLen ∧ (L.length + 1) * 72 ≤ 140737488355328 := by
      intro h
      have hlt := rg.ltN h
      refine ⟨by simp only [maxLen]; omega, by omega⟩
    have hfin : decide (i < zl) = false → (ar.map (mapE id)).map Ex.cells = L := by
      intro h
      rw [← hl, rg.take_ rfl h, List.map_map]; rfl
    repeat' (first
      | (with_reducible refine Nm.mk ?_; intro z hz)
      | (with_reducible refine IfB.mk ?_ ?_ <;> (intro h; cases h))
      | (with_reducible refine Two.l ?_; refine Asm.mk ?_ ?_; focus (decide +kernel))
      | (with_reducible refine Two.r ?_)
      | (with_reducible refine Asm.mk ?_ ?_; focus kernel_rfl)
      | (with_reducible refine isCP hcp ?_; first | (refine exP hcp (hmc _ _ _ _ _ _ _ i.toNat (by assumption) (by assumption)) ?_; intro op2 n2 vk2 vn2 vs2 ar2 es2 hX hes2))
      | (with_reducible refine isCC hcc ?_; first | (refine exA hcc (hmc _ _ _ _ _ _ _ i.toNat (by assumption) (by assumption)) rfl ?_; intro op2 n2 vk2 vn2 vs2 ar2 es2 hX hes2))
      | (with_reducible refine Ix.ex hes rg.lo (rg.lt (by assumption)) ?_; intro op' m' vk' vn' vs' ar' es' hx hes')
      | (with_reducible refine Asm.mk2 ?_ ?_)
      | ((fail_if_success (with_reducible refine hQ _ ?_)); (fail_if_success (with_reducible refine Side.mk ?_)); (fail_if_success (with_reducible refine isCP hcp ?_)); (fail_if_success (with_reducible refine isCC hcc ?_)); (fail_if_success (with_reducible refine isLP hlp ?_)); (fail_if_success (with_reducible refine Ix.mk ?_)); (fail_if_success (with_reducible refine SIx.mk ?_)); (fail_if_success (with_reducible refine SEx.mk ?_)); (fail_if_success (with_reducible refine EIx.mk ?_)); (fail_if_success (with_reducible refine RIx.mk ?_)); (fail_if_success (with_reducible show False)); (fail_if_success (with_reducible refine hR ?_ _ ?_ ?_ ?_ ?_ ?_)); (fail_if_success (with_reducible refine hR2 ?_ _ ?_ ?_ ?_ ?_ ?_)); cbv))
    · refine Side.mk ?_
      obtain ⟨u1, u2⟩ := hst (by assumption)
      exact ⟨hm.symm, rfl, hok, rfl, u1, u2⟩
    · have hlt : decide (i < zl) = true := by assumption
      rw [rg.wrap hlt] at hz
      rename_i L2 hL2 m2 hm2
      refine hR (i + 1, _, _) _ ⟨rg.next hlt, ?_, ?_⟩ (rg.less hlt) ⟨hz ▸ rfl, trivial⟩ ⟨rfl, rfl, rfl, rfl, trivial⟩ rfl
      · show (ar.take (i + 1).toNat).map (fun e => (mapE id e).cells) = L2
        rw [rg.take hx, List.map_append, hl, ← hL2]
        simp only [List.map_cons, List.map_nil, hX, cells_mk, hes2]
      · show L2.length = m2
        rw [← hL2, ← hm2, List.length_append]
    · refine hQ _ ?_
      rw [← hq', cells_mk, hfin (by assumption)]
  · have hq' : Ex.mk op 0 ⟨0, 0, ⟨⟨[]⟩⟩⟩ (ar.map (mapE id)) = q := by
      rw [← hq]
      clear hQ hcp hcc hlp hmc IH
      first
        | (have e : op = 1 := of_decide_eq_true (by assumption)
           subst e; rfl)
        | (have e : op = 2 := of_decide_eq_true (by assumption)
           subst e; subst_vars; rfl)
        | (have e1 : ¬ op = 1 := of_decide_eq_false (by assumption)
           have e2 : ¬ op = 2 := of_decide_eq_false (by assumption)
           rw [if_neg e1, if_neg e1, if_neg e2]; rfl)
    clear hq
    simp only [nc] at hz
    simp only [nc'] at hz
    have hzl := lenZ (n := ar.length) hel hz
    clear hz
    rename Int => zl
    refine mintX hlp 6 2 5 rfl rfl ?_
    refine loopT (ι := Int × List (List PV) × Nat) mixed tt_ok hcp hcc hlp [2, 3, 23, 24] (fun p => [(25, .p (.int .i64 p.1))])
      (fun p => [.cells [.p (.int .i64 op), .p (.int .i64 n), .p (.int .i64 vk), .p (.int .i64 vn), .p (.str vs), .p (.sl es)], .cells [.p (.int .i64 0), .p (.int .i64 0), .p (.int .i64 0), .p (.int .i64 0), .p (.str ⟨⟨[]⟩⟩), .full []],
        .cells [.p (.int .i64 op), .p (.int .i64 0), .p (.int .i64 0), .p (.int .i64 0), .p (.str ⟨⟨[]⟩⟩), .tok 3 p.2.1], .spare p.2.2 6])
      (fun p => Rng ar.length zl p.1 ∧ (ar.take p.1.toNat).map (fun e => (mapE id e).cells) = p.2.1 ∧ p.2.1.length = p.2.2) (fun p => (zl - p.1).toNat)
      (0, [], 0) 4 (fun _ => rfl) ⟨Rng.start hzl (by omega), by simp, rfl⟩ ⟨rfl, trivial⟩ rfl ?_
    rintro R ⟨i, L, m⟩ ⟨rg, hl, hm⟩ hR
    replace rg : Rng ar.length zl i := rg
    replace hl : (ar.take i.toNat).map (fun e => (mapE id e).cells) = L := hl
    replace hm : L.length = m := hm
    have hll : L.length ≤ i.toNat := by rw [← hl]; simp; omega
    have hok : okEs 6 L = true := by
      rw [← hl, show (fun e => (mapE id e).cells) = Ex.cells ∘ mapE id from rfl, ← List.map_map]; exact okEs_cells _
    have hst : decide (i < zl) = true → L.length + 1 ≤ maxLen ∧ (L.length + 1) * 72 ≤ 140737488355328 := by
      intro h
      have hlt := rg.ltN h
      refine ⟨by simp only [maxLen]; omega, by omega⟩
    have hfin : decide (i < zl) = false → (ar.map (mapE id)).map Ex.cells = L := by
      intro h
      rw [← hl, rg.take_ rfl h, List.map_map]; rfl
    repeat' (first
      | (with_reducible refine Nm.mk ?_; intro z hz)
      | (with_reducible refine IfB.mk ?_ ?_ <;> (intro h; cases h))
      | (with_reducible refine Two.l ?_; refine Asm.mk ?_ ?_; focus (decide +kernel))
      | (with_reducible refine Two.r ?_)
      | (with_reducible refine Asm.mk ?_ ?_; focus kernel_rfl)
      | (with_reducible refine isCP hcp ?_; first | (refine exP hcp (hmc _ _ _ _ _ _ _ i.toNat (by assumption) (by assumption)) ?_; intro op2 n2 vk2 vn2 vs2 ar2 es2 hX hes2))
      | (with_reducible refine isCC hcc ?_; first | (refine exA hcc (hmc _ _ _ _ _ _ _ i.toNat (by assumption) (by assumption)) rfl ?_; intro op2 n2 vk2 vn2 vs2 ar2 es2 hX hes2))
      | (with_reducible refine Ix.ex hes rg.lo (rg.lt (by assumption)) ?_; intro op' m' vk' vn' vs' ar' es' hx hes')
      | (with_reducible refine Asm.mk2 ?_ ?_)
      | ((fail_if_success (with_reducible refine hQ _ ?_)); (fail_if_success (with_reducible refine Side.mk ?_)); (fail_if_success (with_reducible refine isCP hcp ?_)); (fail_if_success (with_reducible refine isCC hcc ?_)); (fail_if_success (with_reducible refine isLP hlp ?_)); (fail_if_success (with_reducible refine Ix.mk ?_)); (fail_if_success (with_reducible refine SIx.mk ?_)); (fail_if_success (with_reducible refine SEx.mk ?_)); (fail_if_success (with_reducible refine EIx.mk ?_)); (fail_if_success (with_reducible refine RIx.mk ?_)); (fail_if_success (with_reducible show False)); (fail_if_success (with_reducible refine hR ?_ _ ?_ ?_ ?_ ?_ ?_)); (fail_if_success (with_reducible refine hR2 ?_ _ ?_ ?_ ?_ ?_ ?_)); cbv))
    · refine Side.mk ?_
      obtain ⟨u1, u2⟩ := hst (by assumption)
      exact ⟨hm.symm, rfl, hok, rfl, u1, u2⟩
    · have hlt : decide (i < zl) = true := by assumption
      rw [rg.wrap hlt] at hz
      rename_i L2 hL2 m2 hm2
      refine hR (i + 1, _, _) _ ⟨rg.next hlt, ?_, ?_⟩ (rg.less hlt) ⟨hz ▸ rfl, trivial⟩ ⟨rfl, rfl, rfl, rfl, trivial⟩ rfl
      · show (ar.take (i + 1).toNat).map (fun e => (mapE id e).cells) = L2
        rw [rg.take hx, List.map_append, hl, ← hL2]
        simp only [List.map_cons, List.map_nil, hX, cells_mk, hes2]
      · show L2.length = m2
        rw [← hL2, ← hm2, List.length_append]
    · refine hQ _ ?_
      rw [← hq', cells_mk, hfin (by assumption)]
theorem neat_all : ∀ (m : Nat) (e : Ex), e.sz ≤ m → e.wide → PCall Try.prog 141 [.agg e.cells] fun r => r = [.agg (mapE id e).cells]
  | 0, .mk op n v ar, h, _ => by simp [Ex.sz] at h
  | m + 1, .mk op n v ar, h, hw => by
    rw [cells_mk]
    refine neat_c op n v ar _ rfl hw.1 fun x hx => neat_all m x ?_ (wide_mem hw.2 hx)
    have := sz_mem hx
    simp only [Ex.sz] at h; omega
theorem rneat_c (op n vk vn : Int) (vs : ByteArray) (ar : List Ex) (es : List (List PV)) (hes : ar.map Ex.cells = es) (hw : (Ex.mk op n ⟨vk, vn, vs⟩ ar).wide) :
    PCall Try.prog 141 [.agg [.int .i64 op, .int .i64 n, .int .i64 vk, .int .i64 vn, .str vs, .sl es]] fun r => r = [.agg (mapE id (.mk op n ⟨vk, vn, vs⟩ ar)).cells] := by
  have := neat_all _ _ (Nat.le_refl _) hw
  rw [cells_mk, hes] at this
  exact this

theorem rparts_c (op n vk vn : Int) (vs : ByteArray) (ar : List Ex) (es : List (List PV)) (hes : ar.map Ex.cells = es) (hw : (Ex.mk op n ⟨vk, vn, vs⟩ ar).wide)
    (IH : ∀ x, x ∈ ar → TCall Try.prog 113 [.agg x.cells] (fun l => l = (partsM x).map Ex.cells) 6) :
    TCall Try.prog 113 [.agg [.int .i64 op, .int .i64 n, .int .i64 vk, .int .i64 vn, .str vs, .sl es]] (fun l => l = (partsM (.mk op n ⟨vk, vn, vs⟩ ar)).map Ex.cells) 6 := by
  have hbt := rbuilt_c op n vk vn vs ar es hes hw
  have hcp' := rneat_c op n vk vn vs ar es hes hw
  obtain ⟨q, hq⟩ : ∃ q, (partsM (.mk op n ⟨vk, vn, vs⟩ ar)).map Ex.cells = q := ⟨_, rfl⟩
  rw [hq]
  rw [partsM] at hq
  have h2 : ∀ z, builtM (.mk op n ⟨vk, vn, vs⟩ ar) = z → (!z) = false → (!decide (op = 19)) = false → ∃ a b, es = [a.cells, b.cells] ∧ (partsM a).map Ex.cells ++ (partsM b).map Ex.cells = q ∧ (partsM a).length + (partsM b).length ≤ 400 ∧
      (TCall Try.prog 113 [.agg a.cells] (fun l => l = (partsM a).map Ex.cells) 6) ∧ TCall Try.prog 113 [.agg b.cells] (fun l => l = (partsM b).map Ex.cells) 6 := by
    intro z h1 h2 h3
    have hb : builtM (.mk op n ⟨vk, vn, vs⟩ ar) = true := by rw [h1]; simpa using h2
    have h19 : op = 19 := by simpa using h3
    subst h19
    have hs := built_sz hb
    obtain ⟨a, b, rfl, _, _⟩ := built_two hb
    refine ⟨a, b, hes.symm, ?_, ?_, IH a (by simp), IH b (by simp)⟩
    · rw [← hq, if_pos ⟨hb, rfl⟩]; simp [partsL]
    · have h1 := partsL_len [a, b]
      simp only [partsL, List.length_append, List.append_nil, List.length_nil, szL, Ex.sz] at h1 hs
      omega
  have h1 : ∀ z, builtM (.mk op n ⟨vk, vn, vs⟩ ar) = z → (!z) = true ∨ (!decide (op = 19)) = true → [(mapE id (.mk op n ⟨vk, vn, vs⟩ ar)).cells] = q := by
    intro z hz h
    rw [← hq, if_neg]
    · rfl
    · rintro ⟨x, y⟩
      rw [← hz, x] at h
      simp [y] at h
  clear hq
  refine TCall.x (nt := 25) (res := [.tmp 2]) mixed tt_ok [] Try.func113 rfl rfl rfl c113 (Nat.le_of_ble_eq_true rfl) ?_
  intro cp cc lp Q' hcp hcc hlp hQ
  repeat' (first
    | (with_reducible refine Nm.mk ?_; intro z hz)
    | (with_reducible refine IfB.mk ?_ ?_ <;> (intro h; cases h))
    | (with_reducible refine Two.l ?_; refine Asm.mk ?_ ?_; focus (decide +kernel))
    | (with_reducible refine Two.r ?_)
    | (with_reducible refine Asm.mk ?_ ?_; focus (first | kernel_rfl | decide))
    | (with_reducible refine isCP hcp ?_; first | (refine bP hcp (hbt) ?_; intro z hz) | (refine exP hcp (hcp') ?_; intro op2 n2 vk2 vn2 vs2 ar2 es2 hX hes2))
    | (with_reducible refine isCC hcc ?_; first | (refine bA hcc (hbt) rfl ?_; intro z hz) | (refine exA hcc (hcp') rfl ?_; intro op2 n2 vk2 vn2 vs2 ar2 es2 hX hes2))
    | (with_reducible refine Asm.mk2 ?_ ?_)
    | ((fail_if_success (with_reducible refine hQ _ ?_)); (fail_if_success (with_reducible refine Side.mk ?_)); (fail_if_success (with_reducible refine isCP hcp ?_)); (fail_if_success (with_reducible refine isCC hcc ?_)); (fail_if_success (with_reducible refine isLP hlp ?_)); (fail_if_success (with_reducible refine Ix.mk ?_)); (fail_if_success (with_reducible refine SIx.mk ?_)); (fail_if_success (with_reducible refine SEx.mk ?_)); (fail_if_success (with_reducible refine EIx.mk ?_)); (fail_if_success (with_reducible refine RIx.mk ?_)); (fail_if_success (with_reducible show False)); (fail_if_success (with_reducible refine hR ?_ _ ?_ ?_ ?_ ?_ ?_)); (fail_if_success (with_reducible refine hR2 ?_ _ ?_ ?_ ?_ ?_ ?_)); cbv))
  · refine hQ _ ?_
    rw [← h1 _ (by assumption) (.inl (by assumption)), hX, cells_mk, hes2]
  · refine hQ _ ?_
    rw [← h1 _ (by assumption) (.inr (by assumption)), hX, cells_mk, hes2]
  · obtain ⟨a, b, he, hab, hlen, ta, tb⟩ := h2 _ (by assumption) (by assumption) (by assumption)
    obtain ⟨oa, na, ⟨ka, ma, sa⟩, ra⟩ := a
    obtain ⟨ob, nb, ⟨kb, mb, sb⟩, rb⟩ := b
    have hA0 : es[0]? = some (Ex.mk oa na ⟨ka, ma, sa⟩ ra).cells := by rw [he]; rfl
    have hA1 : es[1]? = some (Ex.mk ob nb ⟨kb, mb, sb⟩ rb).cells := by rw [he]; rfl
    clear h1 h2
    have oka := okEs_cells (partsM (Ex.mk oa na ⟨ka, ma, sa⟩ ra))
    have okb := okEs_cells (partsM (Ex.mk ob nb ⟨kb, mb, sb⟩ rb))
    obtain ⟨PA, hPA⟩ : ∃ x, (partsM (Ex.mk oa na ⟨ka, ma, sa⟩ ra)).map Ex.cells = x := ⟨_, rfl⟩
    obtain ⟨PB, hPB⟩ : ∃ x, (partsM (Ex.mk ob nb ⟨kb, mb, sb⟩ rb)).map Ex.cells = x := ⟨_, rfl⟩
    have hl1 : PA.length + PB.length ≤ 400 := by rw [← hPA, ← hPB]; simpa using hlen
    rw [hPA] at ta oka hab
    rw [hPB] at tb okb hab
    rw [cells_mk] at ta tb hA0 hA1
    obtain ⟨ea, hea⟩ : ∃ x, ra.map Ex.cells = x := ⟨_, rfl⟩
    obtain ⟨eb, heb⟩ : ∃ x, rb.map Ex.cells = x := ⟨_, rfl⟩
    rw [hea] at ta hA0
    rw [heb] at tb hA1
    have hside : ∀ z1 z2 : List (List PV), PA = z1 → PB = z2 → z1.length = z1.length ∧ 6 = 6 ∧ okEs 6 z1 = true ∧ okEs 6 z2 = true ∧ z1.length + z2.length ≤ maxLen ∧ (z1.length + z2.length) * 72 ≤ 140737488355328 := by
      rintro z1 z2 rfl rfl
      refine ⟨rfl, rfl, oka, okb, ?_, ?_⟩
      · simp only [maxLen]; omega
      · omega
    repeat' (first
      | (with_reducible refine Nm.mk ?_; intro z hz)
      | (with_reducible refine IfB.mk ?_ ?_ <;> (intro h; cases h))
      | (with_reducible refine Two.l ?_; refine Asm.mk ?_ ?_; focus (decide +kernel))
      | (with_reducible refine Two.r ?_)
      | (with_reducible refine Asm.mk ?_ ?_; focus kernel_rfl)
      | (with_reducible refine isCP hcp ?_; first | (refine tP hcp (ta) ?_; intro z hz) | (refine tP hcp (tb) ?_; intro z hz))
      | (with_reducible refine isCC hcc ?_; first | (refine tA hcc (ta) rfl ?_; intro z mz hz hmz) | (refine tA hcc (tb) rfl ?_; intro z mz hz hmz))
      | (with_reducible refine Ix.el 0 (by decide) rfl hA0 rfl (by decide) ?_)
      | (with_reducible refine Ix.el 1 (by decide) rfl hA1 rfl (by decide) ?_)
      | (with_reducible refine Asm.mk2 ?_ ?_)
      | ((fail_if_success (with_reducible refine hQ _ ?_)); (fail_if_success (with_reducible refine Side.mk ?_)); (fail_if_success (with_reducible refine isCP hcp ?_)); (fail_if_success (with_reducible refine isCC hcc ?_)); (fail_if_success (with_reducible refine isLP hlp ?_)); (fail_if_success (with_reducible refine Ix.mk ?_)); (fail_if_success (with_reducible refine SIx.mk ?_)); (fail_if_success (with_reducible refine SEx.mk ?_)); (fail_if_success (with_reducible refine EIx.mk ?_)); (fail_if_success (with_reducible refine RIx.mk ?_)); (fail_if_success (with_reducible show False)); (fail_if_success (with_reducible refine hR ?_ _ ?_ ?_ ?_ ?_ ?_)); (fail_if_success (with_reducible refine hR2 ?_ _ ?_ ?_ ?_ ?_ ?_)); cbv))
    · refine Side.mk ?_
      obtain ⟨u1, u2, u3⟩ := hside _ _ (by assumption) (by assumption)
      exact ⟨Eq.symm (by assumption), u2, u3⟩
    · refine Side.mk ?_
      clear hQ
      subst_vars
      exact ⟨by simp, rfl⟩
    · refine hQ _ ?_
      clear hQ
      subst_vars
      rfl
theorem rparts_all : ∀ (m : Nat) (e : Ex), e.sz ≤ m → e.wide → TCall Try.prog 113 [.agg e.cells] (fun l => l = (partsM e).map Ex.cells) 6
  | 0, .mk op n v ar, h, _ => by simp [Ex.sz] at h
  | m + 1, .mk op n ⟨vk, vn, vs⟩ ar, h, hw => by
    rw [cells_mk]
    refine rparts_c op n vk vn vs ar _ rfl hw fun x hx => rparts_all m x ?_ (wide_mem hw.2 hx)
    have := sz_mem hx
    simp only [Ex.sz] at h; omega
theorem rpartsP_c (op n vk vn : Int) (vs : ByteArray) (ar : List Ex) (es : List (List PV)) (hes : ar.map Ex.cells = es) (hw : (Ex.mk op n ⟨vk, vn, vs⟩ ar).wide) :
    PCall Try.prog 113 [.agg [.int .i64 op, .int .i64 n, .int .i64 vk, .int .i64 vn, .str vs, .sl es]] fun r => r = [.sl ((partsM (.mk op n ⟨vk, vn, vs⟩ ar)).map Ex.cells)] := by
  have h := (rparts_all _ _ (Nat.le_refl _) hw).pure
  rw [cells_mk, hes] at h
  exact h.mono fun r hr => by obtain ⟨L, rfl, rfl⟩ := hr; rfl

end Go.Proofs.Ytnhmnfokbinplaa

namespace Go.Proofs.Ytnhmnfokbinplaa
open Go Go.RowKit
set_option maxRecDepth 100000
set_option linter.unusedSimpArgs false
set_option linter.unusedVariables false

def cmpB_o (less same : Bool) : Int := if same = true then 0 else if less = true then -1 else 1
theorem rcmp_c_o (less same : Bool) : PCall Try.prog 101 [.bool less, .bool same] fun r => r = [.int .i64 (cmpB_o less same)] := by
  refine PCall.x (nt := 7) (res := [.tmp 4]) mixed tt_ok [] Try.func101 rfl rfl rfl c101 (Nat.le_of_ble_eq_true rfl) ?_
  intro cp cc lp Q' hcp hcc hlp hQ
  repeat' (first
    | (with_reducible refine Nm.mk ?_; intro z hz)
    | (with_reducible refine IfB.mk ?_ ?_ <;> (intro h; cases h))
    | (with_reducible refine Two.l ?_; refine Asm.mk ?_ ?_; focus (decide +kernel))
    | (with_reducible refine Two.r ?_)
    | (with_reducible refine Asm.mk ?_ ?_; focus (first | kernel_rfl | decide))
    | (with_reducible refine Asm.mk2 ?_ ?_)
    | ((fail_if_success (with_reducible refine hQ _ ?_)); (fail_if_success (with_reducible refine Side.mk ?_)); (fail_if_success (with_reducible refine isCP hcp ?_)); (fail_if_success (with_reducible refine isCC hcc ?_)); (fail_if_success (with_reducible refine isLP hlp ?_)); (fail_if_success (with_reducible refine Ix.mk ?_)); (fail_if_success (with_reducible refine SIx.mk ?_)); (fail_if_success (with_reducible refine SEx.mk ?_)); (fail_if_success (with_reducible refine EIx.mk ?_)); (fail_if_success (with_reducible refine RIx.mk ?_)); (fail_if_success (with_reducible show False)); (fail_if_success (with_reducible refine hR ?_ _ ?_ ?_ ?_ ?_ ?_)); (fail_if_success (with_reducible refine hR2 ?_ _ ?_ ?_ ?_ ?_ ?_)); cbv))
  all_goals (refine hQ _ ?_; clear hQ hcp hcc hlp; rfl)
theorem less_cmp_o : ∀ a b : List UInt8, (if (a == b) = true then (0 : Int) else if Op.bytesLess a b = true then -1 else 1) = Lib.compareBytes a b
  | [], [] => by simp [Lib.compareBytes]
  | [], _ :: _ => by simp [Lib.compareBytes, Op.bytesLess]
  | _ :: _, [] => by simp [Lib.compareBytes, Op.bytesLess]
  | x :: a, y :: b => by
    have ih := less_cmp_o a b
    rw [Lib.compareBytes, ← ih]
    by_cases h1 : x < y
    · have : x ≠ y := by rintro rfl; exact UInt8.lt_irrefl _ h1
      simp [Op.bytesLess, h1, this]
    · by_cases h2 : y < x
      · have : x ≠ y := by rintro rfl; exact UInt8.lt_irrefl _ h2
        simp [Op.bytesLess, h1, h2, this]
      · have : x = y := by
          rw [UInt8.lt_iff_toNat_lt] at h1 h2
          exact UInt8.toNat_inj.1 (by omega)
        subst this
        simp [Op.bytesLess, h1]
theorem cmp_str_o (a b : ByteArray) : cmpB_o (sless a b) (sbeq a b) = cmpS a b := by
  unfold cmpS
  rw [← less_cmp_o]
  unfold cmpB_o sless sbeq
  rw [ByteArray.toList_eq, ByteArray.toList_eq]
theorem cmpS_self_o (a : ByteArray) : cmpS a a = 0 := by unfold cmpS; rw [← less_cmp_o]; simp
theorem cmp_int_o (a b : Int) : cmpB_o (decide (a < b)) (decide (a = b)) = cmpI a b := by
  unfold cmpB_o cmpI
  by_cases h : a = b
  · subst h; simp
  · by_cases g : a < b <;> simp [h, g] <;> omega
theorem cmp_ne_o {a b : Int} (h : ¬ a = b) : cmpB_o (decide (a < b)) false = cmpI a b := by
  rw [← cmp_int_o, decide_eq_false h]
theorem cmpI_ne_o {a b : Int} (h : ¬ a = b) : ¬ cmpI a b = 0 := by unfold cmpI; split <;> (try split) <;> omega
theorem cmpI_self_o (a : Int) : cmpI a a = 0 := by unfold cmpI; simp
theorem clean_k1_o {v : Val} (h : (clean v).k = 1) : (clean v).s = ⟨#[]⟩ := by
  unfold clean at h ⊢; split at h
  · rename_i g; rw [if_pos g]
  · split at h
    · cases h
    · cases h
theorem clean_k2_o {v : Val} (h : ¬ (clean v).k = 1) : (clean v).n = 0 := by
  unfold clean at h ⊢; split at h
  · exact absurd rfl h
  · rename_i g; rw [if_neg g]; split <;> rfl
theorem rorder_o (k n : Int) (s : ByteArray) (k' n' : Int) (s' : ByteArray) : PCall Try.prog 51 [.agg [.int .i64 k, .int .i64 n, .str s], .agg [.int .i64 k', .int .i64 n', .str s']] fun r => r = [.int .i64 (orderV ⟨k, n, s⟩ ⟨k', n', s'⟩)] := by
  have c1 := rclean_c k n s
  have c2 := rclean_c k' n' s'
  have a1 := @clean_k1_o ⟨k, n, s⟩
  have a2 := @clean_k1_o ⟨k', n', s'⟩
  have b1 := @clean_k2_o ⟨k, n, s⟩
  have b2 := @clean_k2_o ⟨k', n', s'⟩
  unfold orderV
  obtain ⟨u, hu⟩ : ∃ u, clean ⟨k, n, s⟩ = u := ⟨_, rfl⟩
  obtain ⟨v, hv⟩ : ∃ u, clean ⟨k', n', s'⟩ = u := ⟨_, rfl⟩
  rw [hu] at c1 a1 b1 ⊢
  rw [hv] at c2 a2 b2 ⊢
  obtain ⟨uk, un, us⟩ := u
  obtain ⟨vk, vn, vs⟩ := v
  simp only [Val.enc] at c1 c2
  simp only at a1 a2 b1 b2 ⊢
  have e1 : (!decide (uk = vk)) = true → cmpB_o (decide (uk < vk)) false = orI [cmpI uk vk, cmpI un vn, cmpS us vs] := by
    intro h; simp only [Bool.not_eq_true', decide_eq_false_iff_not] at h
    rw [cmp_ne_o h]; unfold orI; rw [if_neg (cmpI_ne_o h)]
  have e2 : (!decide (uk = vk)) = false → decide (uk = 1) = true → cmpB_o (decide (un < vn)) (decide (un = vn)) = orI [cmpI uk vk, cmpI un vn, cmpS us vs] := by
    intro h g; simp only [Bool.not_eq_false', decide_eq_true_eq] at h g
    subst h
    rw [cmp_int_o, a1 g, a2 g, cmpS_self_o, cmpI_self_o]
    simp only [orI, if_true]; split
    · rename_i q; exact q
    · rfl
  have e3 : (!decide (uk = vk)) = false → decide (uk = 1) = false → cmpB_o (sless us vs) (sbeq us vs) = orI [cmpI uk vk, cmpI un vn, cmpS us vs] := by
    intro h g; simp only [Bool.not_eq_false', decide_eq_true_eq, decide_eq_false_iff_not] at h g
    subst h
    rw [cmp_str_o, b1 g, b2 g, cmpI_self_o, cmpI_self_o]
    simp only [orI, if_true]; split
    · rename_i q; exact q
    · rfl
  obtain ⟨Z, hZ⟩ : ∃ Z, orI [cmpI uk vk, cmpI un vn, cmpS us vs] = Z := ⟨_, rfl⟩
  rw [hZ] at e1 e2 e3 ⊢
  clear hu hv a1 a2 b1 b2 hZ
  refine PCall.x (nt := 45) (res := [.tmp 4]) mixed tt_ok [] Try.func51 rfl rfl rfl c51 (Nat.le_of_ble_eq_true rfl) ?_
  intro cp cc lp Q' hcp hcc hlp hQ
  repeat' (first
    | (with_reducible refine Nm.mk ?_; intro z hz)
    | (with_reducible refine IfB.mk ?_ ?_ <;> (intro h; cases h))
    | (with_reducible refine Two.l ?_; refine Asm.mk ?_ ?_; focus (decide +kernel))
    | (with_reducible refine Two.r ?_)
    | (with_reducible refine Asm.mk ?_ ?_; focus (first | kernel_rfl | decide))
    | (with_reducible refine isCP hcp ?_; first | (refine xP hcp (c1) ?_; skip) | (refine xP hcp (c2) ?_; skip) | (refine iP hcp (rcmp_c_o _ _) ?_; intro z hz))
    | (with_reducible refine isCC hcc ?_; first | (refine xA hcc (c1) rfl ?_; skip) | (refine xA hcc (c2) rfl ?_; skip) | (refine iA hcc (rcmp_c_o _ _) rfl ?_; intro z hz))
    | (with_reducible refine Asm.mk2 ?_ ?_)
    | ((fail_if_success (with_reducible refine hQ _ ?_)); (fail_if_success (with_reducible refine Side.mk ?_)); (fail_if_success (with_reducible refine isCP hcp ?_)); (fail_if_success (with_reducible refine isCC hcc ?_)); (fail_if_success (with_reducible refine isLP hlp ?_)); (fail_if_success (with_reducible refine Ix.mk ?_)); (fail_if_success (with_reducible refine SIx.mk ?_)); (fail_if_success (with_reducible refine SEx.mk ?_)); (fail_if_success (with_reducible refine EIx.mk ?_)); (fail_if_success (with_reducible refine RIx.mk ?_)); (fail_if_success (with_reducible show False)); (fail_if_success (with_reducible refine hR ?_ _ ?_ ?_ ?_ ?_ ?_)); (fail_if_success (with_reducible refine hR2 ?_ _ ?_ ?_ ?_ ?_ ?_)); cbv))
  all_goals (refine hQ _ ?_)
  · rw [← e1 (by assumption)]; clear hQ hcp hcc hlp c1 c2 e1 e2 e3; subst_vars; rfl
  · rw [← e2 (by assumption) (by assumption)]; clear hQ hcp hcc hlp c1 c2 e1 e2 e3; subst_vars; rfl
  · rw [← e3 (by assumption) (by assumption)]; clear hQ hcp hcc hlp c1 c2 e1 e2 e3; subst_vars; rfl

theorem compareBytes_flip : ∀ a b : List UInt8, Lib.compareBytes b a = - Lib.compareBytes a b
  | [], [] => by simp [Lib.compareBytes]
  | [], _ :: _ => by simp [Lib.compareBytes]
  | _ :: _, [] => by simp [Lib.compareBytes]
  | x :: a, y :: b => by
    have ih := compareBytes_flip a b
    rw [Lib.compareBytes, Lib.compareBytes, ih]
    have hx : x < y ↔ x.toNat < y.toNat := UInt8.lt_iff_toNat_lt
    have hy : y < x ↔ y.toNat < x.toNat := UInt8.lt_iff_toNat_lt
    by_cases h1 : x < y
    · have h2 : ¬ y < x := by rw [hy]; rw [hx] at h1; omega
      simp [h1, h2]
    · by_cases h2 : y < x <;> simp [h1, h2]
theorem cmpI_flip (a b : Int) : cmpI b a = - cmpI a b := by unfold cmpI; (repeat' split) <;> omega
theorem orderV_flip (a b : Val) : orderV b a = - orderV a b := by
  unfold orderV orI orI orI
  rw [cmpI_flip (clean a).k, cmpI_flip (clean a).n]
  have hs : cmpS (clean b).s (clean a).s = - cmpS (clean a).s (clean b).s := compareBytes_flip _ _
  rw [hs]
  generalize cmpI (clean a).k (clean b).k = p
  generalize cmpI (clean a).n (clean b).n = q
  generalize cmpS (clean a).s (clean b).s = r
  rw [show orI [] = 0 from rfl]
  (repeat' split) <;> omega
end Go.Proofs.Ytnhmnfokbinplaa

namespace Go.Proofs.Ytnhmnfokbinplaa
open Go Go.RowKit
set_option maxRecDepth 100000
set_option linter.unusedSimpArgs false
set_option linter.unusedVariables false

def turnM (op : Int) : Int := if op = 14 then 16 else if op = 15 then 17 else if op = 16 then 14 else if op = 17 then 15 else op
theorem turn_c (op : Int) : PCall Try.prog 162 [.int .i64 op] fun r => r = [.int .i64 (turnM op)] := by
  refine PCall.x (nt := 13) (res := [.tmp 2]) mixed tt_ok [] Try.func162 rfl rfl rfl c162 (Nat.le_of_ble_eq_true rfl) ?_
  intro cp cc lp Q' hcp hcc hlp hQ
  repeat' (first
    | (with_reducible refine Nm.mk ?_; intro z hz)
    | (with_reducible refine IfB.mk ?_ ?_ <;> (intro h; cases h))
    | (with_reducible refine Two.l ?_; refine Asm.mk ?_ ?_; focus (decide +kernel))
    | (with_reducible refine Two.r ?_)
    | (with_reducible refine Asm.mk ?_ ?_; focus (first | kernel_rfl | decide))
    | (with_reducible refine Asm.mk2 ?_ ?_)
    | ((fail_if_success (with_reducible refine hQ _ ?_)); (fail_if_success (with_reducible refine Side.mk ?_)); (fail_if_success (with_reducible refine isCP hcp ?_)); (fail_if_success (with_reducible refine isCC hcc ?_)); (fail_if_success (with_reducible refine isLP hlp ?_)); (fail_if_success (with_reducible refine Ix.mk ?_)); (fail_if_success (with_reducible refine SIx.mk ?_)); (fail_if_success (with_reducible refine SEx.mk ?_)); (fail_if_success (with_reducible refine EIx.mk ?_)); (fail_if_success (with_reducible refine RIx.mk ?_)); (fail_if_success (with_reducible show False)); (fail_if_success (with_reducible refine hR ?_ _ ?_ ?_ ?_ ?_ ?_)); (fail_if_success (with_reducible refine hR2 ?_ _ ?_ ?_ ?_ ?_ ?_)); cbv))
  all_goals (refine hQ _ ?_; clear hQ hcp hcc hlp; simp_all [turnM])
theorem isCol_c (op n vk vn : Int) (vs : ByteArray) (es : List (List PV)) : PCall Try.prog 161 [.agg [.int .i64 op, .int .i64 n, .int .i64 vk, .int .i64 vn, .str vs, .sl es]] fun r => r = [.bool (decide (op = 1))] := by
  refine PCall.x (nt := 6) (res := [.tmp 2]) mixed tt_ok [] Try.func161 rfl rfl rfl c161 (Nat.le_of_ble_eq_true rfl) ?_
  intro cp cc lp Q' hcp hcc hlp hQ
  repeat' (first
    | (with_reducible refine Nm.mk ?_; intro z hz)
    | (with_reducible refine IfB.mk ?_ ?_ <;> (intro h; cases h))
    | (with_reducible refine Two.l ?_; refine Asm.mk ?_ ?_; focus (decide +kernel))
    | (with_reducible refine Two.r ?_)
    | (with_reducible refine Asm.mk ?_ ?_; focus (first | kernel_rfl | decide))
    | (with_reducible refine Asm.mk2 ?_ ?_)
    | ((fail_if_success (with_reducible refine hQ _ ?_)); (fail_if_success (with_reducible refine Side.mk ?_)); (fail_if_success (with_reducible refine isCP hcp ?_)); (fail_if_success (with_reducible refine isCC hcc ?_)); (fail_if_success (with_reducible refine isLP hlp ?_)); (fail_if_success (with_reducible refine Ix.mk ?_)); (fail_if_success (with_reducible refine SIx.mk ?_)); (fail_if_success (with_reducible refine SEx.mk ?_)); (fail_if_success (with_reducible refine EIx.mk ?_)); (fail_if_success (with_reducible refine RIx.mk ?_)); (fail_if_success (with_reducible show False)); (fail_if_success (with_reducible refine hR ?_ _ ?_ ?_ ?_ ?_ ?_)); (fail_if_success (with_reducible refine hR2 ?_ _ ?_ ?_ ?_ ?_ ?_)); cbv))
  all_goals (refine hQ _ ?_; clear hQ hcp hcc hlp; subst_vars; rfl)
/- A part: the number of its operator, its value; of its parts the numbers, columns and values. -/
structure Pt where
  op : Int
  v : Val
  o0 : Int
  m0 : Int
  v0 : Val
  o1 : Int
  m1 : Int
  v1 : Val
  o2 : Int
  m2 : Int
def gV (l : List Val) (i : Int) : Val := (l[i.toNat]?).getD Val.zero
def gI (l : List Int) (i : Int) : Int := (l[i.toNat]?).getD 0
def ruled (op u o : Int) : Bool :=
  if op = 12 then decide (u < 0) || decide (0 < o) else if op = 13 then decide (u = 0) && decide (o = 0) else if op = 14 then decide (u ≤ 0) else if op = 15 then decide (u < 0) else if op = 16 then decide (0 ≤ o) else decide (0 < o)
def neverT (low high : Val) (v : Val) (op : Int) : Bool :=
  if (clean low).k = 0 ∨ v.k = 0 then true else ruled op (orderV v low) (orderV v high)
def neverM (L H : List Val) (N : List Int) (p : Pt) : Bool :=
  if p.op = 2 then !trueV p.v
  else if p.op = 5 ∧ p.o0 = 1 then decide (gI N p.m0 ≤ 0)
  else if p.op = 4 ∧ p.o0 = 5 ∧ p.o2 = 1 then decide ((clean (gV L p.m2)).k = 0)
  else if p.op < 12 ∨ 17 < p.op then false
  else if p.o0 = 1 ∧ p.o1 = 2 then neverT (gV L p.m0) (gV H p.m0) p.v1 p.op
  else if p.o0 = 2 ∧ p.o1 = 1 then neverT (gV L p.m1) (gV H p.m1) p.v0 (turnM p.op)
  else false
/- What is known of a part's parts. -/
structure PtOk (n : Nat) (p : Pt) (es es0 : List (List PV)) : Prop where
  a0 : p.op = 4 ∨ p.op = 5 ∨ (12 ≤ p.op ∧ p.op ≤ 17) → es[Int.toNat 0]? = some [.int .i64 p.o0, .int .i64 p.m0, .int .i64 p.v0.k, .int .i64 p.v0.n, .str p.v0.s, .sl es0]
  a1 : 12 ≤ p.op ∧ p.op ≤ 17 → ∃ es1, es[Int.toNat 1]? = some [.int .i64 p.o1, .int .i64 p.m1, .int .i64 p.v1.k, .int .i64 p.v1.n, .str p.v1.s, .sl es1]
  a2 : p.op = 4 → p.o0 = 5 → ∃ k n s es2, es0[Int.toNat 0]? = some [.int .i64 p.o2, .int .i64 p.m2, .int .i64 k, .int .i64 n, .str s, .sl es2]
  m0 : (p.op = 5 ∨ (12 ≤ p.op ∧ p.op ≤ 17)) → p.o0 = 1 → 0 ≤ p.m0 ∧ p.m0 < n
  m1 : 12 ≤ p.op ∧ p.op ≤ 17 → p.o1 = 1 → 0 ≤ p.m1 ∧ p.m1 < n
  m2 : p.op = 4 → p.o0 = 5 → p.o2 = 1 → 0 ≤ p.m2 ∧ p.m2 < n
theorem Ix.giveV {l : List (List PV)} {v : List Val} {n : Int} {m : Nat} {K : List PV → Prop} (hl : v.map Val.cells = l) (hm : v.length = m) (h : 0 ≤ n ∧ n < m) (k : ∀ a b c, gV v n = ⟨a, b, c⟩ → K [.int .i64 a, .int .i64 b, .str c]) : Ix 3 l n K := by
  have hlt : n.toNat < v.length := by omega
  have hx : v[n.toNat]? = some v[n.toNat] := List.getElem?_eq_getElem hlt
  refine ⟨v[n.toNat].cells, h.1, by rw [← hl, List.getElem?_map, hx]; rfl, rfl, by decide, k _ _ _ ?_⟩
  rw [gV, hx]; rfl
theorem Ix.giveI {l : List (List PV)} {v : List Int} {n : Int} {m : Nat} {K : List PV → Prop} (hl : v.map i64c = l) (hm : v.length = m) (h : 0 ≤ n ∧ n < m) (k : ∀ a, gI v n = a → K [.int .i64 a]) : Ix 1 l n K := by
  have hlt : n.toNat < v.length := by omega
  have hx : v[n.toNat]? = some v[n.toNat] := List.getElem?_eq_getElem hlt
  refine ⟨i64c v[n.toNat], h.1, by rw [← hl, List.getElem?_map, hx]; rfl, rfl, by decide, k _ ?_⟩
  rw [gI, hx]; rfl
set_option maxHeartbeats 4000000 in
theorem never_c (n : Nat) (rows : Int) (L H : List Val) (N : List Int) (CL CH CN : List (List PV)) (hL : L.map Val.cells = CL) (hH : H.map Val.cells = CH) (hN : N.map i64c = CN) (lL : L.length = n) (lH : H.length = n) (lN : N.length = n)
    (op m vk vn o0 m0 k0 n0 o1 m1 k1 n1 o2 m2 : Int) (vs s0 s1 : ByteArray) (es es0 : List (List PV)) (ok : PtOk n ⟨op, ⟨vk, vn, vs⟩, o0, m0, ⟨k0, n0, s0⟩, o1, m1, ⟨k1, n1, s1⟩, o2, m2⟩ es es0) :
    PCall Try.prog 111 [.agg [.int .i64 rows, .sl CL, .sl CH, .sl CN], .agg [.int .i64 op, .int .i64 m, .int .i64 vk, .int .i64 vn, .str vs, .sl es]] fun r => r = [.bool (neverM L H N ⟨op, ⟨vk, vn, vs⟩, o0, m0, ⟨k0, n0, s0⟩, o1, m1, ⟨k1, n1, s1⟩, o2, m2⟩)] := by
  obtain ⟨a0, a1, a2, q0, q1, q2⟩ := ok
  dsimp only at a0 a1 a2 q0 q1 q2
  obtain ⟨es1, b1⟩ : ∃ es1, 12 ≤ op ∧ op ≤ 17 → es[Int.toNat 1]? = some [.int .i64 o1, .int .i64 m1, .int .i64 k1, .int .i64 n1, .str s1, .sl es1] := by
    by_cases h : 12 ≤ op ∧ op ≤ 17
    · obtain ⟨e, he⟩ := a1 h; exact ⟨e, fun _ => he⟩
    · exact ⟨[], fun h' => absurd h' h⟩
  obtain ⟨k2, n2, s2, es2, b2⟩ : ∃ k n s es2, op = 4 → o0 = 5 → es0[Int.toNat 0]? = some [.int .i64 o2, .int .i64 m2, .int .i64 k, .int .i64 n, .str s, .sl es2] := by
    by_cases h : op = 4
    · by_cases h' : o0 = 5
      · obtain ⟨k, n, s, e, he⟩ := a2 h h'; exact ⟨k, n, s, e, fun _ _ => he⟩
      · exact ⟨0, 0, ⟨#[]⟩, [], fun _ g => absurd g h'⟩
    · exact ⟨0, 0, ⟨#[]⟩, [], fun g => absurd g h⟩
  clear a1 a2
  have c4 : decide (op = 4) = true → op = 4 := of_decide_eq_true
  have c5 : decide (op = 5) = true → op = 5 := of_decide_eq_true
  have c12 : decide (op < 12) = false → decide (17 < op) = false → 12 ≤ op ∧ op ≤ 17 := by simp only [decide_eq_false_iff_not]; omega
  have d0 : decide (o0 = 1) = true → o0 = 1 := of_decide_eq_true
  have d5 : decide (o0 = 5) = true → o0 = 5 := of_decide_eq_true
  have d1 : decide (o1 = 1) = true → o1 = 1 := of_decide_eq_true
  have d2 : decide (o2 = 1) = true → o2 = 1 := of_decide_eq_true
  have e54 : decide (op = 5) = true → decide (op = 4) = false := by simp only [decide_eq_true_eq, decide_eq_false_iff_not]; omega
  have e5l : decide (op = 5) = true → decide (op < 12) = true := by simp only [decide_eq_true_eq]; omega
  have e4l : decide (op = 4) = true → decide (op < 12) = true := by simp only [decide_eq_true_eq]; omega
  obtain ⟨q, hq⟩ : ∃ q, neverM L H N ⟨op, ⟨vk, vn, vs⟩, o0, m0, ⟨k0, n0, s0⟩, o1, m1, ⟨k1, n1, s1⟩, o2, m2⟩ = q := ⟨_, rfl⟩
  rw [hq]
  refine PCall.x (nt := 177) (res := [.tmp 4]) mixed tt_ok [] Try.func111 rfl rfl rfl c111 (Nat.le_of_ble_eq_true rfl) ?_
  intro cp cc lp Q' hcp hcc hlp hQ
  repeat' (first
    | (with_reducible refine Nm.b true (by first | assumption | exact e5l (by assumption) | exact e4l (by assumption) | with_unfolding_all rfl) ?_)
    | (with_reducible refine Nm.b false (by first | assumption | exact e54 (by assumption) | with_unfolding_all rfl) ?_)
    | (with_reducible refine Nm.mk ?_; intro z hz)
    | (with_reducible refine IfB.mk ?_ ?_ <;> (intro h; cases h))
    | (with_reducible refine Two.l ?_; refine Asm.mk ?_ ?_; focus (decide +kernel))
    | (with_reducible refine Two.r ?_)
    | (with_reducible refine Asm.mk ?_ ?_; focus kernel_rfl)
    | (with_reducible refine isCP hcp ?_; first | (refine bP hcp (true_c vk vn vs) ?_; intro z hz) | (refine vP hcp (clean_c _ _ _) ?_; intro v hv) | (refine iP hcp (turn_c op) ?_; intro z hz) | (refine bP hcp (isCol_c _ _ _ _ _ _) ?_; rintro (_ | _) hz) | (refine iP hcp (order_c _ _ _ _ _ _) ?_; intro z hz))
    | (with_reducible refine isCC hcc ?_; first | (refine bA hcc (true_c vk vn vs) rfl ?_; intro z hz) | (refine vA hcc (clean_c _ _ _) rfl ?_; intro v hv) | (refine iA hcc (turn_c op) rfl ?_; intro z hz) | (refine bA hcc (isCol_c _ _ _ _ _ _) rfl ?_; rintro (_ | _) hz) | (refine iA hcc (order_c _ _ _ _ _ _) rfl ?_; intro z hz))
    | (with_reducible refine Ix.giveK (by decide) (a0 (by first | exact .inl (c4 (by assumption)) | exact .inr (.inl (c5 (by assumption))) | exact .inr (.inr (c12 (by assumption) (by assumption))))) rfl (by decide) ?_)
    | (with_reducible refine Ix.giveK (by decide) (b1 (c12 (by assumption) (by assumption))) rfl (by decide) ?_)
    | (with_reducible refine Ix.giveK (by decide) (b2 (c4 (by assumption)) (d5 (by assumption))) rfl (by decide) ?_)
    | (with_reducible refine Ix.giveI hN lN (q0 (.inl (c5 (by assumption))) (d0 (by assumption))) ?_; intro x hx)
    | (with_reducible refine Ix.giveV hL lL (q2 (c4 (by assumption)) (d5 (by assumption)) (d2 (by assumption))) ?_; intro xa xb xc hx)
    | (with_reducible refine Ix.giveV hL lL (q0 (.inr (c12 (by assumption) (by assumption))) (d0 (by assumption))) ?_; intro xa xb xc hxL)
    | (with_reducible refine Ix.giveV hL lL (q1 (c12 (by assumption) (by assumption)) (d1 (by assumption))) ?_; intro xa xb xc hxL)
    | (with_reducible refine Ix.giveV hH lH (q0 (.inr (c12 (by assumption) (by assumption))) (d0 (by assumption))) ?_; intro ya yb yc hxH)
    | (with_reducible refine Ix.giveV hH lH (q1 (c12 (by assumption) (by assumption)) (d1 (by assumption))) ?_; intro ya yb yc hxH)
    | (with_reducible refine Asm.mk2 ?_ ?_)
    | ((fail_if_success (with_reducible refine hQ _ ?_)); (fail_if_success (with_reducible refine Side.mk ?_)); (fail_if_success (with_reducible refine isCP hcp ?_)); (fail_if_success (with_reducible refine isCC hcc ?_)); (fail_if_success (with_reducible refine isLP hlp ?_)); (fail_if_success (with_reducible refine Ix.mk ?_)); (fail_if_success (with_reducible refine SIx.mk ?_)); (fail_if_success (with_reducible refine SEx.mk ?_)); (fail_if_success (with_reducible refine EIx.mk ?_)); (fail_if_success (with_reducible refine RIx.mk ?_)); (fail_if_success (with_reducible show False)); (fail_if_success (with_reducible refine hR ?_ _ ?_ ?_ ?_ ?_ ?_)); (fail_if_success (with_reducible refine hR2 ?_ _ ?_ ?_ ?_ ?_ ?_)); cbv))
  all_goals
    (refine hQ _ ?_
     rw [← hq]
     clear hQ hq hcp hcc hlp a0 q0 q1 q2 b1 b2 c4 c5 c12 d0 d5 d1 d2 e54 e5l e4l hL hH hN lL lH lN
     congr 2
     rw [neverM]
     dsimp only
     simp only [neverT, ruled]
     try simp only [hxL, hxH]
     try simp only [hx]
     try simp only [hv]
     simp only [decide_eq_true_eq, decide_eq_false_iff_not, Bool.not_eq_true', Bool.not_eq_false'] at *
     repeat (first | rw [if_pos (by omega)] | rw [if_neg (by omega)])
     first
       | done
       | rfl
       | (subst_vars; rfl)
       | (subst_vars; simp_all; done)
       | (subst_vars; rw [decide_eq_false hz]; rfl))
end Go.Proofs.Ytnhmnfokbinplaa

namespace Go.Proofs.Ytnhmnfokbinplaa
open Go Go.RowKit
set_option maxRecDepth 100000
set_option linter.unusedSimpArgs false
set_option linter.unusedVariables false

theorem rtrue_o (k n : Int) (s : ByteArray) : PCall Try.prog 58 [.agg [.int .i64 k, .int .i64 n, .str s]] fun r => r = [.bool (trueV ⟨k, n, s⟩)] := by
  refine PCall.x (nt := 11) (res := [.tmp 2]) mixed tt_ok [] Try.func58 rfl rfl rfl c58 (Nat.le_of_ble_eq_true rfl) ?_
  intro cp cc lp Q' hcp hcc hlp hQ
  repeat' (first
    | (with_reducible refine Nm.mk ?_; intro z hz)
    | (with_reducible refine IfB.mk ?_ ?_ <;> (intro h; cases h))
    | (with_reducible refine Two.l ?_; refine Asm.mk ?_ ?_; focus (decide +kernel))
    | (with_reducible refine Two.r ?_)
    | (with_reducible refine Asm.mk ?_ ?_; focus (first | kernel_rfl | decide))
    | (with_reducible refine Asm.mk2 ?_ ?_)
    | ((fail_if_success (with_reducible refine hQ _ ?_)); (fail_if_success (with_reducible refine Side.mk ?_)); (fail_if_success (with_reducible refine isCP hcp ?_)); (fail_if_success (with_reducible refine isCC hcc ?_)); (fail_if_success (with_reducible refine isLP hlp ?_)); (fail_if_success (with_reducible refine Ix.mk ?_)); (fail_if_success (with_reducible refine SIx.mk ?_)); (fail_if_success (with_reducible refine SEx.mk ?_)); (fail_if_success (with_reducible refine EIx.mk ?_)); (fail_if_success (with_reducible refine RIx.mk ?_)); (fail_if_success (with_reducible show False)); (fail_if_success (with_reducible refine hR ?_ _ ?_ ?_ ?_ ?_ ?_)); (fail_if_success (with_reducible refine hR2 ?_ _ ?_ ?_ ?_ ?_ ?_)); cbv))
  all_goals (refine hQ _ ?_; clear hQ hcp hcc hlp; subst_vars; simp_all [trueV])
theorem nullP_c (op m vk vn o0 m0 k0 n0 : Int) (vs s0 : ByteArray) (es es0 : List (List PV)) (a0 : op = 5 → es[Int.toNat 0]? = some [.int .i64 o0, .int .i64 m0, .int .i64 k0, .int .i64 n0, .str s0, .sl es0]) :
    PCall Try.prog 164 [.agg [.int .i64 op, .int .i64 m, .int .i64 vk, .int .i64 vn, .str vs, .sl es]] fun r => r = [.int .i64 (if op = 5 ∧ o0 = 1 then m0 else 0), .bool (decide (op = 5) && decide (o0 = 1))] := by
  have c5 : decide (op = 5) = true → op = 5 := of_decide_eq_true
  have f1 : decide (op = 5) = true → decide (o0 = 1) = true → (if op = 5 ∧ o0 = 1 then m0 else 0) = m0 := by
    simp only [decide_eq_true_eq]; intro h1 h2; rw [if_pos ⟨h1, h2⟩]
  have f2 : decide (op = 5) = false ∨ decide (o0 = 1) = false → (if op = 5 ∧ o0 = 1 then m0 else 0) = 0 := by
    simp only [decide_eq_false_iff_not]; intro h; rw [if_neg]; rintro ⟨h1, h2⟩; rcases h with h | h
    · exact h h1
    · exact h h2
  obtain ⟨q, hq⟩ : ∃ q, (if op = 5 ∧ o0 = 1 then m0 else 0) = q := ⟨_, rfl⟩
  obtain ⟨b, hb⟩ : ∃ q, (decide (op = 5) && decide (o0 = 1)) = q := ⟨_, rfl⟩
  rw [hq] at f1 f2 ⊢
  rw [hb]
  refine PCall.x (nt := 20) (res := [.tmp 2, .tmp 3]) mixed tt_ok [] Try.func164 rfl rfl rfl c164 (Nat.le_of_ble_eq_true rfl) ?_
  intro cp cc lp Q' hcp hcc hlp hQ
  repeat' (first
    | (with_reducible refine Nm.mk ?_; intro z hz)
    | (with_reducible refine IfB.mk ?_ ?_ <;> (intro h; cases h))
    | (with_reducible refine Two.l ?_; refine Asm.mk ?_ ?_; focus (decide +kernel))
    | (with_reducible refine Two.r ?_)
    | (with_reducible refine Asm.mk ?_ ?_; focus kernel_rfl)
    | (with_reducible refine Ix.giveK (by decide) (a0 (c5 (by assumption))) rfl (by decide) ?_)
    | (with_reducible refine Asm.mk2 ?_ ?_)
    | ((fail_if_success (with_reducible refine hQ _ ?_)); (fail_if_success (with_reducible refine Side.mk ?_)); (fail_if_success (with_reducible refine isCP hcp ?_)); (fail_if_success (with_reducible refine isCC hcc ?_)); (fail_if_success (with_reducible refine isLP hlp ?_)); (fail_if_success (with_reducible refine Ix.mk ?_)); (fail_if_success (with_reducible refine SIx.mk ?_)); (fail_if_success (with_reducible refine SEx.mk ?_)); (fail_if_success (with_reducible refine EIx.mk ?_)); (fail_if_success (with_reducible refine RIx.mk ?_)); (fail_if_success (with_reducible show False)); (fail_if_success (with_reducible refine hR ?_ _ ?_ ?_ ?_ ?_ ?_)); (fail_if_success (with_reducible refine hR2 ?_ _ ?_ ?_ ?_ ?_ ?_)); cbv))
  · refine hQ _ ?_
    have h1 : decide (op = 5) = true := by assumption
    have h2 : decide (o0 = 1) = true := by assumption
    rw [f1 h1 h2, ← hb, h1, h2]; rfl
  · refine hQ _ ?_
    have h1 : decide (op = 5) = true := by assumption
    have h2 : decide (o0 = 1) = false := by assumption
    rw [f2 (.inr h2), ← hb, h1, h2]; rfl
  · refine hQ _ ?_
    have h1 : decide (op = 5) = false := by assumption
    rw [f2 (.inl h1), ← hb, h1]; rfl
def toldM (p : Pt) : Int × Val × Int × Bool :=
  if p.op < 12 ∨ 17 < p.op then (0, Val.zero, 0, false)
  else if p.o0 = 1 ∧ p.o1 = 2 then (p.m0, p.v1, p.op, true)
  else if p.o0 = 2 ∧ p.o1 = 1 then (p.m1, p.v0, turnM p.op, true)
  else (0, Val.zero, 0, false)
theorem neverM_told (L H : List Val) (N : List Int) (p : Pt) (h2 : ¬ p.op = 2) (h5 : ¬ (p.op = 5 ∧ p.o0 = 1)) (h4 : ¬ (p.op = 4 ∧ p.o0 = 5 ∧ p.o2 = 1)) {c : Int} {v : Val} {o : Int} {b : Bool} (ht : toldM p = (c, v, o, b)) :
    neverM L H N p = if b = true then neverT (gV L c) (gV H c) v o else false := by
  rw [neverM, if_neg h2, if_neg h5, if_neg h4]
  rw [toldM] at ht
  split at ht
  · rename_i h
    simp only [Prod.mk.injEq] at ht
    rw [if_pos h, ← ht.2.2.2]; rfl
  · rename_i h
    rw [if_neg h]
    split at ht
    · rename_i h1
      simp only [Prod.mk.injEq] at ht
      obtain ⟨rfl, rfl, rfl, rfl⟩ := ht
      rw [if_pos h1, if_pos rfl]
    · rename_i h1
      rw [if_neg h1]
      split at ht
      · rename_i h3
        simp only [Prod.mk.injEq] at ht
        obtain ⟨rfl, rfl, rfl, rfl⟩ := ht
        rw [if_pos h3, if_pos rfl]
      · rename_i h3
        simp only [Prod.mk.injEq] at ht
        rw [if_neg h3, ← ht.2.2.2]; rfl
theorem turn_range {op : Int} (h : 12 ≤ op ∧ op ≤ 17) : 12 ≤ turnM op ∧ turnM op ≤ 17 := by unfold turnM; (repeat' split) <;> omega
theorem Ix.round {op n : Int} {K : List PV → Prop} (h : 12 ≤ op ∧ op ≤ 17) (hn : n = op - 12) (k : ∀ a, turnM op = a → K [.int .i64 a]) :
    Ix 1 [[.int .i64 12], [.int .i64 13], [.int .i64 16], [.int .i64 17], [.int .i64 14], [.int .i64 15]] n K := by
  refine ⟨[.int .i64 (turnM op)], by omega, ?_, rfl, by decide, k _ rfl⟩
  rcases (by omega : op = 12 ∨ op = 13 ∨ op = 14 ∨ op = 15 ∨ op = 16 ∨ op = 17) with e | e | e | e | e | e <;> (subst e; subst hn; rfl)
def sel6 (op : Int) (b0 b1 b2 b3 b4 b5 : Bool) : Bool := if op = 12 then b0 else if op = 13 then b1 else if op = 14 then b2 else if op = 15 then b3 else if op = 16 then b4 else b5
theorem Ix.six {op n : Int} {b0 b1 b2 b3 b4 b5 : Bool} {K : List PV → Prop} (h : 12 ≤ op ∧ op ≤ 17) (hn : n = op - 12) (k : ∀ a, sel6 op b0 b1 b2 b3 b4 b5 = a → K [.bool a]) :
    Ix 1 [[.bool b0], [.bool b1], [.bool b2], [.bool b3], [.bool b4], [.bool b5]] n K := by
  refine ⟨[.bool (sel6 op b0 b1 b2 b3 b4 b5)], by omega, ?_, rfl, by decide, k _ rfl⟩
  rcases (by omega : op = 12 ∨ op = 13 ∨ op = 14 ∨ op = 15 ∨ op = 16 ∨ op = 17) with e | e | e | e | e | e <;> (subst e; subst hn; rfl)
theorem told_c (op m vk vn o0 m0 k0 n0 o1 m1 k1 n1 o2 m2 : Int) (vs s0 s1 : ByteArray) (es es0 es1 : List (List PV)) (a0 : 12 ≤ op ∧ op ≤ 17 → es[Int.toNat 0]? = some [.int .i64 o0, .int .i64 m0, .int .i64 k0, .int .i64 n0, .str s0, .sl es0])
    (a1 : 12 ≤ op ∧ op ≤ 17 → es[Int.toNat 1]? = some [.int .i64 o1, .int .i64 m1, .int .i64 k1, .int .i64 n1, .str s1, .sl es1]) (c wk wn o : Int) (ws : ByteArray) (b : Bool) (ht : toldM ⟨op, ⟨vk, vn, vs⟩, o0, m0, ⟨k0, n0, s0⟩, o1, m1, ⟨k1, n1, s1⟩, o2, m2⟩ = (c, ⟨wk, wn, ws⟩, o, b)) :
    PCall Try.prog 165 [.agg [.int .i64 op, .int .i64 m, .int .i64 vk, .int .i64 vn, .str vs, .sl es]] fun r => r = [.int .i64 c, .agg [.int .i64 wk, .int .i64 wn, .str ws], .int .i64 o, .bool b] := by
  have c12 : decide (op < 12) = false → decide (17 < op) = false → 12 ≤ op ∧ op ≤ 17 := by simp only [decide_eq_false_iff_not]; omega
  have hw : decide (op < 12) = false → decide (17 < op) = false → ∀ z, IntKind.i64.wrap (op - 12) = z → z = op - 12 := by
    intro h1 h2 z hz; have := c12 h1 h2; rw [← hz]; exact wrap_in (by omega)
  refine PCall.x (nt := 60) (res := [.tmp 2, .cell 3 25, .tmp 4, .tmp 5]) mixed tt_ok [] Try.func165 rfl rfl rfl c165 (Nat.le_of_ble_eq_true rfl) ?_
  intro cp cc lp Q' hcp hcc hlp hQ
  repeat' (first
    | (with_reducible refine Nm.mk ?_; intro z hz)
    | (with_reducible refine IfB.mk ?_ ?_ <;> (intro h; cases h))
    | (with_reducible refine Two.l ?_; refine Asm.mk ?_ ?_; focus (decide +kernel))
    | (with_reducible refine Two.r ?_)
    | (with_reducible refine Asm.mk ?_ ?_; focus kernel_rfl)
    | (with_reducible refine isCP hcp ?_; first | (refine vP hcp (none_r) ?_; intro v hv))
    | (with_reducible refine isCC hcc ?_; first | (refine vA hcc (none_r) rfl ?_; intro v hv))
    | (with_reducible refine Ix.giveK (by decide) (a0 (c12 (by assumption) (by assumption))) rfl (by decide) ?_)
    | (with_reducible refine Ix.giveK (by decide) (a1 (c12 (by assumption) (by assumption))) rfl (by decide) ?_)
    | (with_reducible refine Ix.round (c12 (by assumption) (by assumption)) (hw (by assumption) (by assumption) _ (by assumption)) ?_; intro x hx)
    | (with_reducible refine Asm.mk2 ?_ ?_)
    | ((fail_if_success (with_reducible refine hQ _ ?_)); (fail_if_success (with_reducible refine Side.mk ?_)); (fail_if_success (with_reducible refine isCP hcp ?_)); (fail_if_success (with_reducible refine isCC hcc ?_)); (fail_if_success (with_reducible refine isLP hlp ?_)); (fail_if_success (with_reducible refine Ix.mk ?_)); (fail_if_success (with_reducible refine SIx.mk ?_)); (fail_if_success (with_reducible refine SEx.mk ?_)); (fail_if_success (with_reducible refine EIx.mk ?_)); (fail_if_success (with_reducible refine RIx.mk ?_)); (fail_if_success (with_reducible show False)); (fail_if_success (with_reducible refine hR ?_ _ ?_ ?_ ?_ ?_ ?_)); (fail_if_success (with_reducible refine hR2 ?_ _ ?_ ?_ ?_ ?_ ?_)); cbv))
  all_goals
    (refine hQ _ ?_
     rw [toldM] at ht
     dsimp only at ht
     clear hQ hcp hcc hlp hw c12 a0 a1
     simp only [decide_eq_true_eq, decide_eq_false_iff_not] at *
     repeat (first | rw [if_pos (by omega)] at ht | rw [if_neg (by omega)] at ht)
     simp only [Prod.mk.injEq, Val.mk.injEq, Val.zero] at ht
     obtain ⟨rfl, ⟨rfl, rfl, rfl⟩, rfl, rfl⟩ := ht
     first
       | rfl
       | (rw [hx]; rfl)
       | (subst_vars; rfl)
       | (exfalso; omega))
theorem ruled_not {o l g u w : Int} (hu : l = -u) (hw : g = -w) (h : 12 ≤ o ∧ o ≤ 17) (b0 b1 : Bool) (h0 : (decide (l ≤ 0) && decide (0 ≤ g)) = b0) (h1 : ((!decide (l = 0)) || (!decide (g = 0))) = b1) :
    sel6 o b0 b1 (decide (l < 0)) (decide (l ≤ 0)) (decide (0 < g)) (decide (0 ≤ g)) = !ruled o u w := by
  subst hu hw h0 h1
  rw [ruled, sel6, Bool.eq_iff_iff]
  rcases (by omega : o = 12 ∨ o = 13 ∨ o = 14 ∨ o = 15 ∨ o = 16 ∨ o = 17) with e | e | e | e | e | e <;> subst e <;> simp <;> omega
set_option maxHeartbeats 4000000 in
theorem possible_c (n : Nat) (rows : Int) (L H : List Val) (N : List Int) (CL CH CN : List (List PV)) (hL : L.map Val.cells = CL) (hH : H.map Val.cells = CH) (hN : N.map i64c = CN) (lL : L.length = n) (lH : H.length = n) (lN : N.length = n)
    (op m vk vn o0 m0 k0 n0 o1 m1 k1 n1 o2 m2 : Int) (vs s0 s1 : ByteArray) (es es0 : List (List PV)) (ok : PtOk n ⟨op, ⟨vk, vn, vs⟩, o0, m0, ⟨k0, n0, s0⟩, o1, m1, ⟨k1, n1, s1⟩, o2, m2⟩ es es0) :
    PCall Try.prog 114 [.agg [.int .i64 op, .int .i64 m, .int .i64 vk, .int .i64 vn, .str vs, .sl es], .agg [.int .i64 rows, .sl CL, .sl CH, .sl CN]] fun r => r = [.bool (!neverM L H N ⟨op, ⟨vk, vn, vs⟩, o0, m0, ⟨k0, n0, s0⟩, o1, m1, ⟨k1, n1, s1⟩, o2, m2⟩)] := by
  obtain ⟨a0, a1, a2, q0, q1, q2⟩ := ok
  dsimp only at a0 a1 a2 q0 q1 q2
  obtain ⟨es1, b1⟩ : ∃ es1, 12 ≤ op ∧ op ≤ 17 → es[Int.toNat 1]? = some [.int .i64 o1, .int .i64 m1, .int .i64 k1, .int .i64 n1, .str s1, .sl es1] := by
    by_cases h : 12 ≤ op ∧ op ≤ 17
    · obtain ⟨e, he⟩ := a1 h; exact ⟨e, fun _ => he⟩
    · exact ⟨[], fun h' => absurd h' h⟩
  obtain ⟨k2, n2, s2, es2, b2⟩ : ∃ k n s es2, op = 4 → o0 = 5 → es0[Int.toNat 0]? = some [.int .i64 o2, .int .i64 m2, .int .i64 k, .int .i64 n, .str s, .sl es2] := by
    by_cases h : op = 4
    · by_cases h' : o0 = 5
      · obtain ⟨k, n, s, e, he⟩ := a2 h h'; exact ⟨k, n, s, e, fun _ _ => he⟩
      · exact ⟨0, 0, ⟨#[]⟩, [], fun _ g => absurd g h'⟩
    · exact ⟨0, 0, ⟨#[]⟩, [], fun g => absurd g h⟩
  clear a1 a2
  have c4 : decide (op = 4) = true → op = 4 := of_decide_eq_true
  have p1 := nullP_c op m vk vn o0 m0 k0 n0 vs s0 es es0 (fun h => a0 (.inr (.inl h)))
  have p2 : decide (op = 4) = true → _ := fun h => nullP_c o0 m0 k0 n0 o2 m2 k2 n2 s0 s2 es0 es2 (b2 (c4 h))
  obtain ⟨c, ⟨wk, wn, ws⟩, o, b, ht⟩ : ∃ c v o b, toldM ⟨op, ⟨vk, vn, vs⟩, o0, m0, ⟨k0, n0, s0⟩, o1, m1, ⟨k1, n1, s1⟩, o2, m2⟩ = (c, v, o, b) := ⟨_, _, _, _, rfl⟩
  have p3 := told_c op m vk vn o0 m0 k0 n0 o1 m1 k1 n1 o2 m2 vs s0 s1 es es0 es1 (fun h => a0 (.inr (.inr h))) b1 c wk wn o ws b ht
  have hcb : b = true → (0 ≤ c ∧ c < n) ∧ 12 ≤ o ∧ o ≤ 17 := by
    intro hb
    rw [toldM] at ht
    dsimp only at ht
    split at ht
    · simp only [Prod.mk.injEq] at ht; rw [← ht.2.2.2] at hb; cases hb
    · rename_i h
      split at ht
      · rename_i h1
        simp only [Prod.mk.injEq] at ht
        obtain ⟨rfl, _, rfl, _⟩ := ht
        exact ⟨q0 (.inr (by omega)) h1.1, by omega⟩
      · split at ht
        · rename_i h3
          simp only [Prod.mk.injEq] at ht
          obtain ⟨rfl, _, rfl, _⟩ := ht
          exact ⟨q1 (by omega) h3.2, turn_range (by omega)⟩
        · simp only [Prod.mk.injEq] at ht; rw [← ht.2.2.2] at hb; cases hb
  have hnt := fun h2 h5 h4 => neverM_told L H N ⟨op, ⟨vk, vn, vs⟩, o0, m0, ⟨k0, n0, s0⟩, o1, m1, ⟨k1, n1, s1⟩, o2, m2⟩ h2 h5 h4 ht
  dsimp only at hnt
  obtain ⟨q, hq⟩ : ∃ q, neverM L H N ⟨op, ⟨vk, vn, vs⟩, o0, m0, ⟨k0, n0, s0⟩, o1, m1, ⟨k1, n1, s1⟩, o2, m2⟩ = q := ⟨_, rfl⟩
  rw [hq] at hnt ⊢
  obtain ⟨y1, hy1⟩ : ∃ y, (if op = 5 ∧ o0 = 1 then m0 else 0) = y := ⟨_, rfl⟩
  obtain ⟨y2, hy2⟩ : ∃ y, (if o0 = 5 ∧ o2 = 1 then m2 else 0) = y := ⟨_, rfl⟩
  obtain ⟨z1, hz1⟩ : ∃ y, (decide (op = 5) && decide (o0 = 1)) = y := ⟨_, rfl⟩
  obtain ⟨z2, hz2⟩ : ∃ y, (decide (o0 = 5) && decide (o2 = 1)) = y := ⟨_, rfl⟩
  rw [hy1, hz1] at p1
  rw [hy2, hz2] at p2
  have r1 : z1 = true → 0 ≤ y1 ∧ y1 < n := by
    intro h; rw [← hz1, Bool.and_eq_true, decide_eq_true_eq, decide_eq_true_eq] at h
    rw [← hy1, if_pos h]; exact q0 (.inl h.1) h.2
  have r2 : decide (op = 4) = true → z2 = true → 0 ≤ y2 ∧ y2 < n := by
    intro h4 h; rw [← hz2, Bool.and_eq_true, decide_eq_true_eq, decide_eq_true_eq] at h
    rw [← hy2, if_pos h]; exact q2 (c4 h4) h.1 h.2
  have l1 : z1 = true → q = decide (gI N y1 ≤ 0) := by
    intro h; rw [← hz1, Bool.and_eq_true, decide_eq_true_eq, decide_eq_true_eq] at h
    rw [← hq, neverM]; dsimp only
    rw [if_neg (by omega), if_pos h, ← hy1, if_pos h]
  have l2 : decide (op = 4) = true → z2 = true → q = decide ((clean (gV L y2)).k = 0) := by
    intro h4 h; rw [← hz2, Bool.and_eq_true, decide_eq_true_eq, decide_eq_true_eq] at h
    have := c4 h4
    rw [← hq, neverM]; dsimp only
    rw [if_neg (by omega), if_neg (by omega), if_pos (by omega), ← hy2, if_pos h]
  have l3 : decide (op = 2) = true → q = !trueV ⟨vk, vn, vs⟩ := by
    intro h; have := of_decide_eq_true h
    rw [← hq, neverM]; dsimp only
    rw [if_pos this]
  have l4 : z1 = false → (decide (op = 4) = false ∨ z2 = false) → decide (op = 2) = false → q = if b = true then neverT (gV L c) (gV H c) ⟨wk, wn, ws⟩ o else false := by
    intro h1 h2 h3
    refine hnt (of_decide_eq_false h3) ?_ ?_
    · rintro ⟨g1, g2⟩; rw [← hz1, decide_eq_true g1, decide_eq_true g2] at h1; cases h1
    · rintro ⟨g1, g2, g3⟩
      rcases h2 with h2 | h2
      · exact of_decide_eq_false h2 g1
      · rw [← hz2, decide_eq_true g2, decide_eq_true g3] at h2; cases h2
  clear hnt hq hy1 hy2 hz1 hz2
  have hcn : (!b) = false → (0 ≤ c ∧ c < n) ∧ 12 ≤ o ∧ o ≤ 17 := fun h => hcb (by simpa using h)
  have e42 : decide (op = 4) = true → decide (op = 2) = false := by simp only [decide_eq_true_eq, decide_eq_false_iff_not]; omega
  have hw : (!b) = false → ∀ z, IntKind.i64.wrap (o - 12) = z → z = o - 12 := by
    intro h z hz; have := (hcn h).2; rw [← hz]; exact wrap_in (by omega)
  refine PCall.x (nt := 117) (res := [.tmp 4]) mixed tt_ok [] Try.func114 rfl rfl rfl c114 (Nat.le_of_ble_eq_true rfl) ?_
  intro cp cc lp Q' hcp hcc hlp hQ
  repeat' (first
    | (with_reducible refine Nm.b true (by first | assumption | with_unfolding_all rfl) ?_)
    | (with_reducible refine Nm.b false (by first | assumption | exact e42 (by assumption) | with_unfolding_all rfl) ?_)
    | (with_reducible refine Nm.mk ?_; intro z hz)
    | (with_reducible refine IfB.mk ?_ ?_ <;> (intro h; cases h))
    | (with_reducible refine Two.l ?_; refine Asm.mk ?_ ?_; focus (decide +kernel))
    | (with_reducible refine Two.r ?_)
    | (with_reducible refine Asm.mk ?_ ?_; focus kernel_rfl)
    | (with_reducible refine isCP hcp ?_; first | (refine xP hcp (p1) ?_; skip) | (refine xP hcp (p2 (by assumption)) ?_; skip) | (refine xP hcp (p3) ?_; skip) | (refine vP hcp (rclean_c _ _ _) ?_; intro v hv) | (refine bP hcp (rtrue_o _ _ _) ?_; intro z hz) | (refine iP hcp (rorder_o _ _ _ _ _ _) ?_; intro z hz))
    | (with_reducible refine isCC hcc ?_; first | (refine xA hcc (p1) rfl ?_; skip) | (refine xA hcc (p2 (by assumption)) rfl ?_; skip) | (refine xA hcc (p3) rfl ?_; skip) | (refine vA hcc (rclean_c _ _ _) rfl ?_; intro v hv) | (refine bA hcc (rtrue_o _ _ _) rfl ?_; intro z hz) | (refine iA hcc (rorder_o _ _ _ _ _ _) rfl ?_; intro z hz))
    | (with_reducible refine Ix.giveK (by decide) (a0 (.inl (c4 (by assumption)))) rfl (by decide) ?_)
    | (with_reducible refine Ix.giveI hN lN (r1 rfl) ?_; intro x hx)
    | (with_reducible refine Ix.giveV hL lL (r2 (by assumption) rfl) ?_; intro xa xb xc hx)
    | (with_reducible refine Ix.giveV hL lL (hcn (by assumption)).1 ?_; intro xa xb xc hxL)
    | (with_reducible refine Ix.giveV hH lH (hcn (by assumption)).1 ?_; intro ya yb yc hxH)
    | (with_reducible refine Ix.six (hcn (by assumption)).2 (hw (by assumption) _ (by assumption)) ?_; intro w hww)
    | (with_reducible refine Asm.mk2 ?_ ?_)
    | ((fail_if_success (with_reducible refine hQ _ ?_)); (fail_if_success (with_reducible refine Side.mk ?_)); (fail_if_success (with_reducible refine isCP hcp ?_)); (fail_if_success (with_reducible refine isCC hcc ?_)); (fail_if_success (with_reducible refine isLP hlp ?_)); (fail_if_success (with_reducible refine Ix.mk ?_)); (fail_if_success (with_reducible refine SIx.mk ?_)); (fail_if_success (with_reducible refine SEx.mk ?_)); (fail_if_success (with_reducible refine EIx.mk ?_)); (fail_if_success (with_reducible refine RIx.mk ?_)); (fail_if_success (with_reducible show False)); (fail_if_success (with_reducible refine hR ?_ _ ?_ ?_ ?_ ?_ ?_)); (fail_if_success (with_reducible refine hR2 ?_ _ ?_ ?_ ?_ ?_ ?_)); cbv))
  all_goals
    (refine hQ _ ?_
     first
       | (rw [l1 rfl, hx, ← hz]; congr 2; rw [Bool.eq_iff_iff]; simp; done)
       | (rw [l2 (by assumption) rfl, hx, hv, ← hz]; done)
       | (rw [l3 (by assumption), ← hz, Bool.not_not]; done)
       | (have hqb := l4 rfl (by first | exact .inl (by assumption) | exact .inr rfl) (by first | assumption | exact e42 (by assumption))
          clear hQ hcp hcc hlp l1 l2 l3 l4 p1 p2 p3 r1 r2 a0 b1 b2
          first
            | (have hb : b = false := by simpa using hz
               rw [hqb, if_neg (by rw [hb]; decide)]; rfl)
            | (have hb : b = true := by simpa using (show (!b) = false by assumption)
               rw [hqb, if_pos hb, neverT, hxL, hv, if_pos (by first | exact .inl (of_decide_eq_true (by assumption)) | exact .inr (of_decide_eq_true (by assumption)))]
               rfl)
            | (have hr := hcn (by assumption)
               have hb : b = true := by simpa using (show (!b) = false by assumption)
               have hvk : ¬ v.k = 0 := of_decide_eq_false (by assumption)
               have hwk : ¬ wk = 0 := of_decide_eq_false (by assumption)
               have hcl : (clean (gV L c)).k = v.k := by rw [← hv]; first | (congr 2; done) | (congr 2; assumption)
               have hn : neverT (gV L c) (gV H c) ⟨wk, wn, ws⟩ o = ruled o (orderV ⟨wk, wn, ws⟩ (gV L c)) (orderV ⟨wk, wn, ws⟩ (gV H c)) := by
                 rw [neverT, hcl, if_neg (by rintro (h | h); exact hvk h; exact hwk h)]
               rw [hqb, if_pos hb, hn, ← hww, hxH, hxL]
               congr 1
               have f1 := orderV_flip ⟨wk, wn, ws⟩ ⟨xa, xb, xc⟩
               have f2 := orderV_flip ⟨wk, wn, ws⟩ ⟨ya, yb, yc⟩
               congr 1
               rw [← ruled_not f1 f2 hr.2 _ _ rfl rfl]
               clear hqb hn hr hcn hcl hxL hxH f1 f2 hww
               subst_vars
               congr 1 <;> (simp_all <;> omega))))
end Go.Proofs.Ytnhmnfokbinplaa

namespace Go.Proofs.Ytnhmnfokbinplaa
open Go Go.RowKit
set_option maxRecDepth 100000
set_option linter.unusedVariables false

theorem cells80 : Try.prog.cellsOf 80 = 6 := by kernel_rfl
theorem cells78 : Try.prog.cellsOf 78 = 1 := by kernel_rfl
theorem bytes80 : Try.prog.bytesOf 80 = 72 := by kernel_rfl
theorem ok_okV {v : Val} (h : v.ok) : okV v := by
  obtain ⟨_, h2, h3⟩ := h
  simp only [Lit.wf, Bool.and_eq_true, decide_eq_true_eq] at h2
  have e1 : IntKind.min .i64 = -9223372036854775808 := by decide
  have e2 : IntKind.max .i64 = 9223372036854775807 := by decide
  have : reachBytes = 140737488351232 := by decide
  exact ⟨by omega, by omega⟩
theorem wideL_of : ∀ {l : List Ex}, (∀ x, x ∈ l → x.wide) → wideL l
  | [], _ => trivial
  | e :: r, h => ⟨h e (by simp), wideL_of (fun x hx => h x (by simp [hx]))⟩
theorem okcL_of : ∀ {l : List Ex}, (∀ x, x ∈ l → x.okc) → okcL l
  | [], _ => trivial
  | e :: r, h => ⟨h e (by simp), okcL_of (fun x hx => h x (by simp [hx]))⟩
theorem exOf : ∀ (n : Nat) (cs : List PV), Fits Try.prog n 80 cs → ∃ e : Ex, e.cells = cs ∧ e.wide ∧ e.okc := by
  intro n
  induction n using Nat.strongRecOn with
  | _ n ih =>
    intro cs h
    obtain ⟨m, rfl, hl, hf⟩ := h.struct Try.underlying80
    rw [cells80] at hl
    obtain ⟨a, b, c, d, e, f, rfl⟩ : ∃ a b c d e f, cs = [a, b, c, d, e, f] := by
      match cs, hl with
      | [a, b, c, d, e, f], _ => exact ⟨a, b, c, d, e, f, rfl⟩
    have h0 : Fits Try.prog m 3 (([a, b, c, d, e, f].drop 0).take (Try.prog.cellsOf 3)) := hf 0 _ rfl
    have h1 : Fits Try.prog m 3 (([a, b, c, d, e, f].drop 1).take (Try.prog.cellsOf 3)) := hf 1 _ rfl
    have h2 : Fits Try.prog m 25 (([a, b, c, d, e, f].drop 2).take (Try.prog.cellsOf 25)) := hf 2 _ rfl
    have h3 : Fits Try.prog m 78 (([a, b, c, d, e, f].drop 5).take (Try.prog.cellsOf 78)) := hf 3 _ rfl
    rw [cells3] at h0 h1
    rw [cells25] at h2
    rw [cells78] at h3
    have h0 : Fits Try.prog m 3 [a] := h0
    have h1 : Fits Try.prog m 3 [b] := h1
    have h2 : Fits Try.prog m 25 [c, d, e] := h2
    have h3 : Fits Try.prog m 78 [f] := h3
    obtain ⟨op, e0, _⟩ := h0.int Try.underlying3
    obtain ⟨nn, e1, _⟩ := h1.int Try.underlying3
    obtain ⟨v, e2, ov⟩ := cellsV h2
    obtain ⟨m', es, rfl, e3, ⟨_, hb⟩, hes⟩ := h3.slice Try.underlying78
    simp only [List.cons.injEq, and_true, Val.cells] at e0 e1 e2 e3
    obtain ⟨rfl, rfl, rfl⟩ := e2
    subst e0 e1 e3
    obtain ⟨l, rfl, hlk⟩ := elems_of (enc := Ex.cells) (ok := fun e => e.wide ∧ e.okc) (fun x hx => by
      obtain ⟨y, hy, h1, h2⟩ := ih m' (by omega) x (hes x hx).2
      exact ⟨y, hy, h1, h2⟩)
    rw [bytes80, List.length_map] at hb
    refine ⟨.mk op nn v l, ?_, ⟨?_, ?_⟩, ok_okV ov, ?_⟩
    · rw [cells_mk]
    · unfold wideN; have : reachBytes = 140737488351232 := by decide
      omega
    · exact wideL_of fun x hx => (hlk x hx).1
    · exact okcL_of fun x hx => (hlk x hx).2
theorem fits80 {n : Nat} {x : PV} (h : FitsA Try.prog n 80 x) : ∃ op m vk vn vs ar, x = .agg [.int .i64 op, .int .i64 m, .int .i64 vk, .int .i64 vn, .str vs, .sl (ar.map Ex.cells)] ∧ (Ex.mk op m ⟨vk, vn, vs⟩ ar).wide ∧ (Ex.mk op m ⟨vk, vn, vs⟩ ar).okc := by
  obtain ⟨cs, rfl, g⟩ := h.agg Try.underlying80
  obtain ⟨⟨op, m, ⟨vk, vn, vs⟩, ar⟩, rfl, h1, h2⟩ := exOf _ _ g
  exact ⟨op, m, vk, vn, vs, ar, by rw [cells_mk], h1, h2⟩
theorem row_ok {l : List Val} (h : ∀ v, v ∈ l → v.ok) : rowOk l := fun v hv => ok_okV (h v hv)
end Go.Proofs.Ytnhmnfokbinplaa

namespace Go.Proofs.Ytnhmnfokbinplaa
open Go Go.RowKit
set_option maxRecDepth 100000
set_option linter.unusedSimpArgs false
set_option linter.unusedVariables false

def exD : Ex := .mk 0 0 Val.zero []
def argE (ar : List Ex) (i : Nat) : Ex := (ar[i]?).getD exD
def Ex.opO : Ex → Int | .mk op _ _ _ => op
def Ex.nO : Ex → Int | .mk _ n _ _ => n
def Ex.vO : Ex → Val | .mk _ _ v _ => v
def Ex.arO : Ex → List Ex | .mk _ _ _ ar => ar
def ptE : Ex → Pt
  | .mk op m v ar => ⟨op, v, (argE ar 0).opO, (argE ar 0).nO, (argE ar 0).vO, (argE ar 1).opO, (argE ar 1).nO, (argE ar 1).vO, (argE (argE ar 0).arO 0).opO, (argE (argE ar 0).arO 0).nO⟩
theorem cells_O (e : Ex) : e.cells = [.int .i64 e.opO, .int .i64 e.nO, .int .i64 e.vO.k, .int .i64 e.vO.n, .str e.vO.s, .sl (e.arO.map Ex.cells)] := by cases e; exact cells_mk _ _ _ _
theorem arg_get {ar : List Ex} {es : List (List PV)} (hes : ar.map Ex.cells = es) {i : Nat} (h : i < ar.length) : es[i]? = some (argE ar i).cells ∧ argE ar i ∈ ar := by
  have hx : ar[i]? = some ar[i] := List.getElem?_eq_getElem h
  have e : argE ar i = ar[i] := by rw [argE, hx]; rfl
  rw [e]
  exact ⟨by rw [← hes, List.getElem?_map, hx]; rfl, List.getElem_mem h⟩
theorem fine_O {n : Nat} {e : Ex} (h : e.fine n) : arityE e.opO = (e.arO.length : Int) ∧ (e.opO = 1 → 0 ≤ e.nO ∧ e.nO < n) ∧ fineL n e.arO := by
  cases e; rw [Ex.fine] at h; exact h
theorem ptOk_of {n : Nat} {op m : Int} {v : Val} {ar : List Ex} {es : List (List PV)} (hf : (Ex.mk op m v ar).fine n) (hes : ar.map Ex.cells = es) : PtOk n (ptE (.mk op m v ar)) es ((argE ar 0).arO.map Ex.cells) := by
  rw [Ex.fine] at hf
  obtain ⟨f1, _, f3⟩ := hf
  have ar1 : op = 4 ∨ op = 5 ∨ (12 ≤ op ∧ op ≤ 17) → 0 < ar.length := by
    intro h; have : 1 ≤ arityE op := by unfold arityE; (repeat' split) <;> omega
    omega
  have ar2 : 12 ≤ op ∧ op ≤ 17 → 1 < ar.length := by
    intro h; have : 2 ≤ arityE op := by unfold arityE; (repeat' split) <;> omega
    omega
  have g0 := fun h => fine_O (fine_mem f3 (arg_get hes (ar1 h)).2)
  have g1 := fun h => fine_O (fine_mem f3 (arg_get hes (ar2 h)).2)
  have ar3 : op = 4 → (argE ar 0).opO = 5 → 0 < (argE ar 0).arO.length := by
    intro h h5
    have := (g0 (.inl h)).1
    rw [h5] at this
    have : arityE 5 = 1 := by decide
    omega
  have g2 := fun h h5 => fine_O (fine_mem (g0 (.inl h)).2.2 (arg_get rfl (ar3 h h5)).2)
  constructor
  · intro h
    have := (arg_get hes (ar1 h)).1
    rw [cells_O] at this
    exact this
  · intro h
    have := (arg_get hes (ar2 h)).1
    rw [cells_O] at this
    exact ⟨_, this⟩
  · intro h h5
    have := (arg_get rfl (ar3 h h5)).1
    rw [cells_O] at this
    exact ⟨_, _, _, _, this⟩
  · intro h h1; exact (g0 (.inr h)).2.1 h1
  · intro h h1; exact (g1 h).2.1 h1
  · intro h h5 h1; exact (g2 h h5).2.1 h1
mutual
theorem fine_copy (n : Nat) : ∀ e : Ex, e.fine n → (mapE id e).fine n
  | .mk op m v ar, h => by
    rw [Ex.fine] at h
    rw [mapE]
    show arityE op = _ ∧ (op = 1 → _) ∧ fineL n (mapL id ar)
    refine ⟨by rw [mapL_eq, List.length_map]; exact h.1, fun h1 => ?_, fine_copyL n ar h.2.2⟩
    rw [if_pos h1]; exact h.2.1 h1
theorem fine_copyL (n : Nat) : ∀ l : List Ex, fineL n l → fineL n (mapL id l)
  | [], _ => trivial
  | e :: r, h => ⟨fine_copy n e h.1, fine_copyL n r h.2⟩
end
mutual
theorem fine_parts (n : Nat) : ∀ e : Ex, e.fine n → ∀ p, p ∈ partsM e → p.fine n
  | .mk op m v ar, hw, p, hp => by
    rw [partsM] at hp
    split at hp
    · rw [Ex.fine] at hw; exact fine_partsL n ar hw.2.2 p hp
    · simp only [List.mem_singleton] at hp
      subst hp
      exact fine_copy n _ hw
theorem fine_partsL (n : Nat) : ∀ l : List Ex, fineL n l → ∀ p, p ∈ partsL l → p.fine n
  | [], _, p, hp => by simp [partsL] at hp
  | e :: r, hw, p, hp => by
    rw [partsL, List.mem_append] at hp
    rcases hp with hp | hp
    · exact fine_parts n e hw.1 p hp
    · exact fine_partsL n r hw.2 p hp
end
def mayM (K : List Int) (rows : Int) (L H : List Val) (N : List Int) (e : Ex) : Bool × Int :=
  if rows < 0 ∨ ¬ L.length = K.length ∨ ¬ H.length = K.length ∨ ¬ N.length = K.length then (false, 1)
  else if ¬ (kindM K e).2 = 0 then (false, (kindM K e).2)
  else if rows = 0 then (false, 0)
  else (!(partsM e).any (fun p => neverM L H N (ptE p)), 0)
theorem kind_ok {K : List Int} {e : Ex} (h : (kindM K e).2 = 0) : e.fine K.length := by
  rw [kindM] at h
  split at h
  · cases h
  · rename_i h1
    split at h
    · cases h
    · split at h
      · cases h
      · rename_i h3
        exact kind_fine (by simpa using h1) (by simpa using h3)
theorem never_all {n : Nat} {rows : Int} {L H : List Val} {N : List Int} {CL CH CN : List (List PV)} (hL : L.map Val.cells = CL) (hH : H.map Val.cells = CH) (hN : N.map i64c = CN) (lL : L.length = n) (lH : H.length = n) (lN : N.length = n)
    {op m vk vn : Int} {vs : ByteArray} {ar : List Ex} {es : List (List PV)} (hf : (Ex.mk op m ⟨vk, vn, vs⟩ ar).fine n) (hes : ar.map Ex.cells = es) {b : Bool} (hb : neverM L H N (ptE (.mk op m ⟨vk, vn, vs⟩ ar)) = b) :
    (PCall Try.prog 111 [.agg [.int .i64 rows, .sl CL, .sl CH, .sl CN], .agg [.int .i64 op, .int .i64 m, .int .i64 vk, .int .i64 vn, .str vs, .sl es]] fun r => r = [.bool b]) ∧
    PCall Try.prog 114 [.agg [.int .i64 op, .int .i64 m, .int .i64 vk, .int .i64 vn, .str vs, .sl es], .agg [.int .i64 rows, .sl CL, .sl CH, .sl CN]] fun r => r = [.bool (!b)] := by
  have ok := ptOk_of hf hes
  rw [← hb]
  exact ⟨never_c n rows L H N CL CH CN hL hH hN lL lH lN op m vk vn _ _ _ _ _ _ _ _ _ _ vs _ _ es _ ok, possible_c n rows L H N CL CH CN hL hH hN lL lH lN op m vk vn _ _ _ _ _ _ _ _ _ _ vs _ _ es _ ok⟩
set_option maxHeartbeats 4000000 in
theorem smay_c (K : List Int) (rows : Int) (L H : List Val) (N : List Int) (C CL CH CN : List (List PV)) (hC : K.map i64c = C) (hL : L.map Val.cells = CL) (hH : H.map Val.cells = CH) (hN : N.map i64c = CN) (op m vk vn : Int) (vs : ByteArray) (ar : List Ex) (es : List (List PV)) (hes : ar.map Ex.cells = es) (hw : (Ex.mk op m ⟨vk, vn, vs⟩ ar).wide) (M : Bool) (E : Int) (hM : mayM K rows L H N (.mk op m ⟨vk, vn, vs⟩ ar) = (M, E)) :
    PCall Try.prog 61 [.sl C, .agg [.int .i64 rows, .sl CL, .sl CH, .sl CN], .agg [.int .i64 op, .int .i64 m, .int .i64 vk, .int .i64 vn, .str vs, .sl es]] fun r => r = [.bool M, .int .i64 E] := by
  have hk := ekind_c K C hC op m vk vn vs ar es hes hw
  have hp := partsP_c op m vk vn vs ar es hes hw
  obtain ⟨e, he⟩ : ∃ e, Ex.mk op m ⟨vk, vn, vs⟩ ar = e := ⟨_, rfl⟩
  rw [he] at hk hp hM
  have hfine : (kindM K e).2 = 0 → ∀ p, p ∈ partsM e → p.fine K.length := fun h => fine_parts _ e (kind_ok h)
  have h400 := parts_400 e
  obtain ⟨k, f, hkf⟩ : ∃ k f, kindM K e = (k, f) := ⟨_, _, rfl⟩
  rw [hkf] at hk hfine
  dsimp only at hk hfine
  obtain ⟨PL, hPL⟩ : ∃ x, partsM e = x := ⟨_, rfl⟩
  rw [hPL] at hp hfine h400
  obtain ⟨L1, hL1⟩ : ∃ x, PL.map Ex.cells = x := ⟨_, rfl⟩
  rw [hL1] at hp
  have hLl : L1.length = PL.length := by rw [← hL1]; simp
  rw [mayM, hkf, hPL] at hM
  dsimp only at hM
  have c0 : C.length = K.length := by rw [← hC]; simp
  have c1 : CL.length = L.length := by rw [← hL]; simp
  have c2 : CH.length = H.length := by rw [← hH]; simp
  have c3 : CN.length = N.length := by rw [← hN]; simp
  have hev : f = 0 → L.length = K.length → H.length = K.length → N.length = K.length → ∀ (op' m' vk' vn' : Int) (vs' : ByteArray) (ar' : List Ex) (es' : List (List PV)) (i : Nat), PL[i]? = some (.mk op' m' ⟨vk', vn', vs'⟩ ar') → ar'.map Ex.cells = es' → ∃ b nb, neverM L H N (ptE (.mk op' m' ⟨vk', vn', vs'⟩ ar')) = b ∧ (!b) = nb ∧
      (PCall Try.prog 111 [.agg [.int .i64 rows, .sl CL, .sl CH, .sl CN], .agg [.int .i64 op', .int .i64 m', .int .i64 vk', .int .i64 vn', .str vs', .sl es']] fun r => r = [.bool b]) ∧
      PCall Try.prog 114 [.agg [.int .i64 op', .int .i64 m', .int .i64 vk', .int .i64 vn', .str vs', .sl es'], .agg [.int .i64 rows, .sl CL, .sl CH, .sl CN]] fun r => r = [.bool nb] := by
    intro h0 h1 h2 h3 op' m' vk' vn' vs' ar' es' i hx he'
    exact ⟨_, _, rfl, rfl, never_all hL hH hN h1 h2 h3 (hfine h0 _ (List.mem_of_getElem? hx)) he' rfl⟩
  have lens : ∀ z1 z2 z3 z4 : Int, (CL.length : Int) = z1 → (CH.length : Int) = z2 → (CN.length : Int) = z3 → (C.length : Int) = z4 → (!decide (z1 = z4)) = false → (!decide (z2 = z4)) = false → (!decide (z3 = z4)) = false → L.length = K.length ∧ H.length = K.length ∧ N.length = K.length := by
    intro z1 z2 z3 z4 h1 h2 h3 h4 g1 g2 g3
    simp only [Bool.not_eq_false', decide_eq_true_eq] at g1 g2 g3
    omega
  have off : ∀ z1 z4 : Int, (!decide (z1 = z4)) = true → ((CL.length : Int) = z1 ∨ (CH.length : Int) = z1 ∨ (CN.length : Int) = z1) → (C.length : Int) = z4 → ¬ L.length = K.length ∨ ¬ H.length = K.length ∨ ¬ N.length = K.length := by
    intro z1 z4 h1 h2 h4
    simp only [Bool.not_eq_true', decide_eq_false_iff_not] at h1
    omega
  refine PCall.x (nt := 62) (res := [.tmp 6, .tmp 7]) mixed tt_ok [] Try.func61 rfl rfl rfl c61 (Nat.le_of_ble_eq_true rfl) ?_
  intro cp cc lp Q' hcp hcc hlp hQ
  repeat' (first
    | (with_reducible refine Nm.mk ?_; intro z hz)
    | (with_reducible refine IfB.mk ?_ ?_ <;> (intro h; cases h))
    | (with_reducible refine Two.l ?_; refine Asm.mk ?_ ?_; focus (decide +kernel))
    | (with_reducible refine Two.r ?_)
    | (with_reducible refine Asm.mk ?_ ?_; focus kernel_rfl)
    | (with_reducible refine isCP hcp ?_; first | (refine xP hcp (hk) ?_; skip) | (refine xP hcp (hp) ?_; skip))
    | (with_reducible refine isCC hcc ?_; first | (refine xA hcc (hk) rfl ?_; skip) | (refine xA hcc (hp) rfl ?_; skip))
    | (with_reducible refine Asm.mk2 ?_ ?_)
    | ((fail_if_success (with_reducible refine hQ _ ?_)); (fail_if_success (with_reducible refine Side.mk ?_)); (fail_if_success (with_reducible refine isCP hcp ?_)); (fail_if_success (with_reducible refine isCC hcc ?_)); (fail_if_success (with_reducible refine isLP hlp ?_)); (fail_if_success (with_reducible refine Ix.mk ?_)); (fail_if_success (with_reducible refine SIx.mk ?_)); (fail_if_success (with_reducible refine SEx.mk ?_)); (fail_if_success (with_reducible refine EIx.mk ?_)); (fail_if_success (with_reducible refine RIx.mk ?_)); (fail_if_success (with_reducible show False)); (fail_if_success (with_reducible refine hR ?_ _ ?_ ?_ ?_ ?_ ?_)); (fail_if_success (with_reducible refine hR2 ?_ _ ?_ ?_ ?_ ?_ ?_)); cbv))
  all_goals
    (clear off lens
     try simp only [nc] at *
     try simp only [nc'] at *)
  all_goals first
    | (refine hQ _ ?_
       clear hQ hev hfine hp hk hcp hcc hlp
       simp only [Bool.not_eq_true', Bool.not_eq_false', decide_eq_true_eq, decide_eq_false_iff_not] at *
       first
         | rw [if_pos (by omega)] at hM
         | rw [if_neg (by omega), if_pos (by omega)] at hM
         | rw [if_neg (by omega), if_neg (by omega), if_pos (by omega)] at hM
       simp only [Prod.mk.injEq] at hM
       rw [hM.1, hM.2]
       done)
    | skip
  have hx : L.length = K.length ∧ H.length = K.length ∧ N.length = K.length ∧ f = 0 ∧ ¬ rows < 0∧ ¬ rows = 0 := by
    clear hQ hev hfine hp hk hcp hcc hlp hM
    simp only [Bool.not_eq_true', Bool.not_eq_false', decide_eq_true_eq, decide_eq_false_iff_not, eq_iff_iff, iff_false] at *
    omega
  obtain ⟨hx1, hx2, hx3, hx4, hx5, hx6⟩ := hx
  have hzl := lenZ (n := PL.length) hLl (by assumption)
  replace hev := hev hx4 hx1 hx2 hx3
  rw [if_neg (by omega), if_neg (by omega)] at hM
  clear hx1 hx2 hx3
  rename Int => zl
  have h2 : (PL.any fun p => neverM L H N (ptE p)) = true → M = false ∧ E = 0 := by
    intro h
    by_cases hr : rows = 0
    · rw [if_pos hr] at hM; simp only [Prod.mk.injEq] at hM; exact ⟨hM.1.symm, hM.2.symm⟩
    · rw [if_neg hr, h] at hM; simp only [Prod.mk.injEq] at hM; exact ⟨hM.1.symm, hM.2.symm⟩
  have h3 : (PL.any fun p => neverM L H N (ptE p)) = false → M = (!decide (rows = 0)) ∧ E = 0 := by
    intro h
    by_cases hr : rows = 0
    · rw [if_pos hr] at hM; simp only [Prod.mk.injEq] at hM; exact ⟨by rw [← hM.1]; simp [hr], hM.2.symm⟩
    · rw [if_neg hr, h] at hM; simp only [Prod.mk.injEq] at hM; exact ⟨by rw [← hM.1]; simp [hr], hM.2.symm⟩
  clear hM
  obtain ⟨A, hA⟩ : ∃ A, (PL.any fun p => neverM L H N (ptE p)) = A := ⟨_, rfl⟩
  rw [hA] at h2 h3
  refine loopK (ι := Int) mixed tt_ok hcp hcc hlp [0, 4, 5, 53, 52] (fun i => [(54, .p (.int .i64 i))]) (fun i => Rng PL.length zl i ∧ ((PL.drop i.toNat).any fun p => neverM L H N (ptE p)) = A) (fun i => (zl - i).toNat) 0 (fun _ => rfl) ⟨Rng.start hzl (by omega), hA⟩ ⟨rfl, trivial⟩ ?_
  rintro R i ⟨rg, hf⟩ hR
  replace hev := fun a b c d e g h hx hy => hev a b c d e g h i.toNat hx hy
  have hbad : ∀ x, PL[i.toNat]? = some x → neverM L H N (ptE x) = true → A = true := by
    intro x hx h
    rw [← hf, rg.step hx, List.any_cons, h]; rfl
  have hgood : ∀ x, PL[i.toNat]? = some x → neverM L H N (ptE x) = false → ((PL.drop (i + 1).toNat).any fun p => neverM L H N (ptE p)) = A := by
    intro x hx h
    rw [← hf, rg.step hx, List.any_cons, h]; rfl
  have hout : decide (i < zl) = false → A = false := by
    intro h; rw [← hf, rg.end_ rfl h]; rfl
  repeat' (first
    | (with_reducible refine Nm.mk ?_; intro z hz)
    | (with_reducible refine IfB.mk ?_ ?_ <;> (intro h; cases h))
    | (with_reducible refine Two.l ?_; refine Asm.mk ?_ ?_; focus (decide +kernel))
    | (with_reducible refine Two.r ?_)
    | (with_reducible refine Asm.mk ?_ ?_; focus kernel_rfl)
    | (with_reducible refine Ix.ex hL1 rg.lo (rg.lt (by assumption)) ?_; intro op' m' vk' vn' vs' ar' es' hx hes'; obtain ⟨b, nb, hb, hnb, hn1, hn2⟩ := hev _ _ _ _ _ _ _ hx hes')
    | (with_reducible refine isCC hcc ?_; first | refine xA hcc hn1 rfl ?_ | refine xA hcc hn2 rfl ?_)
    | (with_reducible refine Asm.mk2 ?_ ?_)
    | ((fail_if_success (with_reducible refine hQ _ ?_)); (fail_if_success (with_reducible refine Side.mk ?_)); (fail_if_success (with_reducible refine isCP hcp ?_)); (fail_if_success (with_reducible refine isCC hcc ?_)); (fail_if_success (with_reducible refine isLP hlp ?_)); (fail_if_success (with_reducible refine Ix.mk ?_)); (fail_if_success (with_reducible refine SIx.mk ?_)); (fail_if_success (with_reducible refine SEx.mk ?_)); (fail_if_success (with_reducible refine EIx.mk ?_)); (fail_if_success (with_reducible refine RIx.mk ?_)); (fail_if_success (with_reducible show False)); (fail_if_success (with_reducible refine hR ?_ _ ?_ ?_ ?_ ?_ ?_)); (fail_if_success (with_reducible refine hR2 ?_ _ ?_ ?_ ?_ ?_ ?_)); cbv))
  · have h := h2 (hbad _ hx (by first | exact hb | (rw [hb]; revert hz; rw [← hnb]; cases b <;> simp)))
    refine hQ _ ?_
    rw [h.1, h.2]
  · have hlt : decide (i < zl) = true := by assumption
    rw [rg.wrap hlt] at hz
    rename_i hz2
    exact hR (i + 1) _ ⟨rg.next hlt, hgood _ hx (by first | exact hb | (rw [hb]; revert hz2; rw [← hnb]; cases b <;> simp))⟩ (rg.less hlt) ⟨hz ▸ rfl, trivial⟩ ⟨rfl, rfl, rfl, rfl, rfl, trivial⟩ rfl
  · have h := h3 (hout (by assumption))
    refine hQ _ ?_
    rw [h.1, h.2]
    first
      | (rw [decide_eq_false hx6]; rfl)
      | (rw [← hz]; congr 2; rw [Bool.eq_iff_iff]; simp; omega)
set_option maxHeartbeats 4000000 in
theorem rmay_c (K : List Int) (rows : Int) (L H : List Val) (N : List Int) (C CL CH CN : List (List PV)) (hC : K.map i64c = C) (hL : L.map Val.cells = CL) (hH : H.map Val.cells = CH) (hN : N.map i64c = CN) (op m vk vn : Int) (vs : ByteArray) (ar : List Ex) (es : List (List PV)) (hes : ar.map Ex.cells = es) (hw : (Ex.mk op m ⟨vk, vn, vs⟩ ar).wide) (M : Bool) (E : Int) (hM : mayM K rows L H N (.mk op m ⟨vk, vn, vs⟩ ar) = (M, E)) :
    PCall Try.prog 62 [.sl C, .agg [.int .i64 rows, .sl CL, .sl CH, .sl CN], .agg [.int .i64 op, .int .i64 m, .int .i64 vk, .int .i64 vn, .str vs, .sl es]] fun r => r = [.bool M, .int .i64 E] := by
  have hk := rkind_c K C hC op m vk vn vs ar es hes hw
  have hp := rpartsP_c op m vk vn vs ar es hes hw
  obtain ⟨e, he⟩ : ∃ e, Ex.mk op m ⟨vk, vn, vs⟩ ar = e := ⟨_, rfl⟩
  rw [he] at hk hp hM
  have hfine : (kindM K e).2 = 0 → ∀ p, p ∈ partsM e → p.fine K.length := fun h => fine_parts _ e (kind_ok h)
  have h400 := parts_400 e
  obtain ⟨k, f, hkf⟩ : ∃ k f, kindM K e = (k, f) := ⟨_, _, rfl⟩
  rw [hkf] at hk hfine
  dsimp only at hk hfine
  obtain ⟨PL, hPL⟩ : ∃ x, partsM e = x := ⟨_, rfl⟩
  rw [hPL] at hp hfine h400
  obtain ⟨L1, hL1⟩ : ∃ x, PL.map Ex.cells = x := ⟨_, rfl⟩
  rw [hL1] at hp
  have hLl : L1.length = PL.length := by rw [← hL1]; simp
  rw [mayM, hkf, hPL] at hM
  dsimp only at hM
  have c0 : C.length = K.length := by rw [← hC]; simp
  have c1 : CL.length = L.length := by rw [← hL]; simp
  have c2 : CH.length = H.length := by rw [← hH]; simp
  have c3 : CN.length = N.length := by rw [← hN]; simp
  have hev : f = 0 → L.length = K.length → H.length = K.length → N.length = K.length → ∀ (op' m' vk' vn' : Int) (vs' : ByteArray) (ar' : List Ex) (es' : List (List PV)) (i : Nat), PL[i]? = some (.mk op' m' ⟨vk', vn', vs'⟩ ar') → ar'.map Ex.cells = es' → ∃ b nb, neverM L H N (ptE (.mk op' m' ⟨vk', vn', vs'⟩ ar')) = b ∧ (!b) = nb ∧
      (PCall Try.prog 111 [.agg [.int .i64 rows, .sl CL, .sl CH, .sl CN], .agg [.int .i64 op', .int .i64 m', .int .i64 vk', .int .i64 vn', .str vs', .sl es']] fun r => r = [.bool b]) ∧
      PCall Try.prog 114 [.agg [.int .i64 op', .int .i64 m', .int .i64 vk', .int .i64 vn', .str vs', .sl es'], .agg [.int .i64 rows, .sl CL, .sl CH, .sl CN]] fun r => r = [.bool nb] := by
    intro h0 h1 h2 h3 op' m' vk' vn' vs' ar' es' i hx he'
    exact ⟨_, _, rfl, rfl, never_all hL hH hN h1 h2 h3 (hfine h0 _ (List.mem_of_getElem? hx)) he' rfl⟩
  have lens : ∀ z1 z2 z3 z4 : Int, (CL.length : Int) = z1 → (CH.length : Int) = z2 → (CN.length : Int) = z3 → (C.length : Int) = z4 → (!decide (z1 = z4)) = false → (!decide (z2 = z4)) = false → (!decide (z3 = z4)) = false → L.length = K.length ∧ H.length = K.length ∧ N.length = K.length := by
    intro z1 z2 z3 z4 h1 h2 h3 h4 g1 g2 g3
    simp only [Bool.not_eq_false', decide_eq_true_eq] at g1 g2 g3
    omega
  have off : ∀ z1 z4 : Int, (!decide (z1 = z4)) = true → ((CL.length : Int) = z1 ∨ (CH.length : Int) = z1 ∨ (CN.length : Int) = z1) → (C.length : Int) = z4 → ¬ L.length = K.length ∨ ¬ H.length = K.length ∨ ¬ N.length = K.length := by
    intro z1 z4 h1 h2 h4
    simp only [Bool.not_eq_true', decide_eq_false_iff_not] at h1
    omega
  refine PCall.x (nt := 63) (res := [.tmp 6, .tmp 7]) mixed tt_ok [] Try.func62 rfl rfl rfl c62 (Nat.le_of_ble_eq_true rfl) ?_
  intro cp cc lp Q' hcp hcc hlp hQ
  repeat' (first
    | (with_reducible refine Nm.mk ?_; intro z hz)
    | (with_reducible refine IfB.mk ?_ ?_ <;> (intro h; cases h))
    | (with_reducible refine Two.l ?_; refine Asm.mk ?_ ?_; focus (decide +kernel))
    | (with_reducible refine Two.r ?_)
    | (with_reducible refine Asm.mk ?_ ?_; focus kernel_rfl)
    | (with_reducible refine isCP hcp ?_; first | (refine xP hcp (hk) ?_; skip) | (refine xP hcp (hp) ?_; skip))
    | (with_reducible refine isCC hcc ?_; first | (refine xA hcc (hk) rfl ?_; skip) | (refine xA hcc (hp) rfl ?_; skip))
    | (with_reducible refine Asm.mk2 ?_ ?_)
    | ((fail_if_success (with_reducible refine hQ _ ?_)); (fail_if_success (with_reducible refine Side.mk ?_)); (fail_if_success (with_reducible refine isCP hcp ?_)); (fail_if_success (with_reducible refine isCC hcc ?_)); (fail_if_success (with_reducible refine isLP hlp ?_)); (fail_if_success (with_reducible refine Ix.mk ?_)); (fail_if_success (with_reducible refine SIx.mk ?_)); (fail_if_success (with_reducible refine SEx.mk ?_)); (fail_if_success (with_reducible refine EIx.mk ?_)); (fail_if_success (with_reducible refine RIx.mk ?_)); (fail_if_success (with_reducible show False)); (fail_if_success (with_reducible refine hR ?_ _ ?_ ?_ ?_ ?_ ?_)); (fail_if_success (with_reducible refine hR2 ?_ _ ?_ ?_ ?_ ?_ ?_)); cbv))
  all_goals
    (clear off lens
     try simp only [nc] at *
     try simp only [nc'] at *)
  all_goals first
    | (refine hQ _ ?_
       clear hQ hev hfine hp hk hcp hcc hlp
       simp only [Bool.not_eq_true', Bool.not_eq_false', decide_eq_true_eq, decide_eq_false_iff_not] at *
       first
         | rw [if_pos (by omega)] at hM
         | rw [if_neg (by omega), if_pos (by omega)] at hM
         | rw [if_neg (by omega), if_neg (by omega), if_pos (by omega)] at hM
       simp only [Prod.mk.injEq] at hM
       rw [hM.1, hM.2]
       done)
    | skip
  have hx : L.length = K.length ∧ H.length = K.length ∧ N.length = K.length ∧ f = 0 ∧ ¬ rows < 0 := by
    clear hQ hev hfine hp hk hcp hcc hlp hM
    simp only [Bool.not_eq_true', Bool.not_eq_false', decide_eq_true_eq, decide_eq_false_iff_not, eq_iff_iff, iff_false] at *
    omega
  obtain ⟨hx1, hx2, hx3, hx4, hx5⟩ := hx
  have hzl := lenZ (n := PL.length) hLl (by assumption)
  replace hev := hev hx4 hx1 hx2 hx3
  rw [if_neg (by omega), if_neg (by omega)] at hM
  clear hx1 hx2 hx3
  rename Int => zl
  have h2 : (PL.any fun p => neverM L H N (ptE p)) = true → M = false ∧ E = 0 := by
    intro h
    by_cases hr : rows = 0
    · rw [if_pos hr] at hM; simp only [Prod.mk.injEq] at hM; exact ⟨hM.1.symm, hM.2.symm⟩
    · rw [if_neg hr, h] at hM; simp only [Prod.mk.injEq] at hM; exact ⟨hM.1.symm, hM.2.symm⟩
  have h3 : (PL.any fun p => neverM L H N (ptE p)) = false → M = (!decide (rows = 0)) ∧ E = 0 := by
    intro h
    by_cases hr : rows = 0
    · rw [if_pos hr] at hM; simp only [Prod.mk.injEq] at hM; exact ⟨by rw [← hM.1]; simp [hr], hM.2.symm⟩
    · rw [if_neg hr, h] at hM; simp only [Prod.mk.injEq] at hM; exact ⟨by rw [← hM.1]; simp [hr], hM.2.symm⟩
  clear hM
  obtain ⟨A, hA⟩ : ∃ A, (PL.any fun p => neverM L H N (ptE p)) = A := ⟨_, rfl⟩
  rw [hA] at h2 h3
  refine loopK (ι := Int) mixed tt_ok hcp hcc hlp [0, 4, 5, 50, 49] (fun i => [(51, .p (.int .i64 i))]) (fun i => Rng PL.length zl i ∧ ((PL.drop i.toNat).any fun p => neverM L H N (ptE p)) = A) (fun i => (zl - i).toNat) 0 (fun _ => rfl) ⟨Rng.start hzl (by omega), hA⟩ ⟨rfl, trivial⟩ ?_
  rintro R i ⟨rg, hf⟩ hR
  replace hev := fun a b c d e g h hx hy => hev a b c d e g h i.toNat hx hy
  have hbad : ∀ x, PL[i.toNat]? = some x → neverM L H N (ptE x) = true → A = true := by
    intro x hx h
    rw [← hf, rg.step hx, List.any_cons, h]; rfl
  have hgood : ∀ x, PL[i.toNat]? = some x → neverM L H N (ptE x) = false → ((PL.drop (i + 1).toNat).any fun p => neverM L H N (ptE p)) = A := by
    intro x hx h
    rw [← hf, rg.step hx, List.any_cons, h]; rfl
  have hout : decide (i < zl) = false → A = false := by
    intro h; rw [← hf, rg.end_ rfl h]; rfl
  repeat' (first
    | (with_reducible refine Nm.mk ?_; intro z hz)
    | (with_reducible refine IfB.mk ?_ ?_ <;> (intro h; cases h))
    | (with_reducible refine Two.l ?_; refine Asm.mk ?_ ?_; focus (decide +kernel))
    | (with_reducible refine Two.r ?_)
    | (with_reducible refine Asm.mk ?_ ?_; focus kernel_rfl)
    | (with_reducible refine Ix.ex hL1 rg.lo (rg.lt (by assumption)) ?_; intro op' m' vk' vn' vs' ar' es' hx hes'; obtain ⟨b, nb, hb, hnb, hn1, hn2⟩ := hev _ _ _ _ _ _ _ hx hes')
    | (with_reducible refine isCC hcc ?_; first | refine xA hcc hn1 rfl ?_ | refine xA hcc hn2 rfl ?_)
    | (with_reducible refine Asm.mk2 ?_ ?_)
    | ((fail_if_success (with_reducible refine hQ _ ?_)); (fail_if_success (with_reducible refine Side.mk ?_)); (fail_if_success (with_reducible refine isCP hcp ?_)); (fail_if_success (with_reducible refine isCC hcc ?_)); (fail_if_success (with_reducible refine isLP hlp ?_)); (fail_if_success (with_reducible refine Ix.mk ?_)); (fail_if_success (with_reducible refine SIx.mk ?_)); (fail_if_success (with_reducible refine SEx.mk ?_)); (fail_if_success (with_reducible refine EIx.mk ?_)); (fail_if_success (with_reducible refine RIx.mk ?_)); (fail_if_success (with_reducible show False)); (fail_if_success (with_reducible refine hR ?_ _ ?_ ?_ ?_ ?_ ?_)); (fail_if_success (with_reducible refine hR2 ?_ _ ?_ ?_ ?_ ?_ ?_)); cbv))
  · have h := h2 (hbad _ hx (by first | exact hb | (rw [hb]; revert hz; rw [← hnb]; cases b <;> simp)))
    refine hQ _ ?_
    rw [h.1, h.2]
  · have hlt : decide (i < zl) = true := by assumption
    rw [rg.wrap hlt] at hz
    rename_i hz2
    exact hR (i + 1) _ ⟨rg.next hlt, hgood _ hx (by first | exact hb | (rw [hb]; revert hz2; rw [← hnb]; cases b <;> simp))⟩ (rg.less hlt) ⟨hz ▸ rfl, trivial⟩ ⟨rfl, rfl, rfl, rfl, rfl, trivial⟩ rfl
  · have h := h3 (hout (by assumption))
    refine hQ _ ?_
    rw [h.1, h.2]
    first
      | (rw [decide_eq_false hx6]; rfl)
      | (rw [← hz]; congr 2; rw [Bool.eq_iff_iff]; simp; omega)
theorem cells77 : Try.prog.cellsOf 77 = 4 := by kernel_rfl
theorem cells22' : Try.prog.cellsOf 22 = 1 := by kernel_rfl
theorem cells29' : Try.prog.cellsOf 29 = 1 := by kernel_rfl
theorem colsOf1 {n : Nat} {x : PV} (h : Fits Try.prog n 22 [x]) : ∃ l : List Int, x = .sl (l.map i64c) := by
  obtain ⟨m, es, rfl, h1, ⟨h2, h3⟩, h4⟩ := h.slice Try.underlying22
  simp only [List.cons.injEq, and_true] at h1
  subst h1
  obtain ⟨l, rfl, _⟩ := elems_of (enc := i64c) (ok := fun _ => True) (fun x hx => by
    obtain ⟨v, e, _⟩ := (h4 x hx).2.int Try.underlying3
    exact ⟨v, e.symm, trivial⟩)
  exact ⟨l, rfl⟩
theorem valsOf1 {n : Nat} {x : PV} (h : Fits Try.prog n 29 [x]) : ∃ l : List Val, x = .sl (l.map Val.cells) := by
  obtain ⟨m, es, rfl, h1, ⟨h2, h3⟩, h4⟩ := h.slice Try.underlying29
  simp only [List.cons.injEq, and_true] at h1
  subst h1
  obtain ⟨l, rfl, hl⟩ := elems_of (fun x hx => cellsV (h4 x hx).2)
  exact ⟨l, rfl⟩
theorem fits77 {n : Nat} {x : PV} (h : FitsA Try.prog n 77 x) : ∃ (a : Int) (L H : List Val) (N : List Int), x = .agg [.int .i64 a, .sl (L.map Val.cells), .sl (H.map Val.cells), .sl (N.map i64c)] := by
  obtain ⟨cs, rfl, g⟩ := h.agg Try.underlying77
  obtain ⟨m, rfl, hl, hf⟩ := g.struct Try.underlying77
  rw [cells77] at hl
  obtain ⟨a, b, c, d, rfl⟩ : ∃ a b c d, cs = [a, b, c, d] := by
    match cs, hl with
    | [a, b, c, d], _ => exact ⟨a, b, c, d, rfl⟩
  have h0 : Fits Try.prog m 3 (([a, b, c, d].drop 0).take (Try.prog.cellsOf 3)) := hf 0 _ rfl
  have h1 : Fits Try.prog m 29 (([a, b, c, d].drop 1).take (Try.prog.cellsOf 29)) := hf 1 _ rfl
  have h2 : Fits Try.prog m 29 (([a, b, c, d].drop 2).take (Try.prog.cellsOf 29)) := hf 2 _ rfl
  have h3 : Fits Try.prog m 22 (([a, b, c, d].drop 3).take (Try.prog.cellsOf 22)) := hf 3 _ rfl
  rw [cells3] at h0
  rw [cells29'] at h1 h2
  rw [cells22'] at h3
  have h0 : Fits Try.prog m 3 [a] := h0
  obtain ⟨k, e0, w0⟩ := h0.int Try.underlying3
  obtain ⟨L, rfl⟩ := valsOf1 (x := b) h1
  obtain ⟨H, rfl⟩ := valsOf1 (x := c) h2
  obtain ⟨N, rfl⟩ := colsOf1 (x := d) h3
  simp only [List.cons.injEq, and_true] at e0
  subst e0
  exact ⟨k, L, H, N, rfl⟩
theorem fits22K {n : Nat} {x : PV} (h : FitsA Try.prog n 22 x) : ∃ l : List Int, x = .sl (l.map i64c) := colsOf1 (h.one Try.underlying22 rfl)
theorem segMay_c (K : List Int) (rows : Int) (L H : List Val) (N : List Int) (C CL CH CN : List (List PV)) (hC : K.map i64c = C) (hL : L.map Val.cells = CL) (hH : H.map Val.cells = CH) (hN : N.map i64c = CN) (op m vk vn : Int) (vs : ByteArray) (ar : List Ex) (es : List (List PV)) (hes : ar.map Ex.cells = es) (hw : (Ex.mk op m ⟨vk, vn, vs⟩ ar).wide) :
    PCall Try.prog 11 [.sl C, .agg [.int .i64 rows, .sl CL, .sl CH, .sl CN], .agg [.int .i64 op, .int .i64 m, .int .i64 vk, .int .i64 vn, .str vs, .sl es]] fun r => r = [.bool true] := by
  obtain ⟨⟨M, E⟩, hM⟩ : ∃ p, mayM K rows L H N (.mk op m ⟨vk, vn, vs⟩ ar) = p := ⟨_, rfl⟩
  have h1 := smay_c K rows L H N C CL CH CN hC hL hH hN op m vk vn vs ar es hes hw M E hM
  have h2 := rmay_c K rows L H N C CL CH CN hC hL hH hN op m vk vn vs ar es hes hw M E hM
  have h3 := num_c E
  refine PCall.x (nt := 34) (res := [.tmp 6]) mixed tt_ok [] Try.func11 rfl rfl rfl c11 (Nat.le_of_ble_eq_true rfl) ?_
  intro cp cc lp Q' hcp hcc hlp hQ
  repeat' (first
    | (with_reducible refine Nm.mk ?_; intro z hz)
    | (with_reducible refine IfB.mk ?_ ?_ <;> (intro h; cases h))
    | (with_reducible refine Two.l ?_; refine Asm.mk ?_ ?_; focus (decide +kernel))
    | (with_reducible refine Two.r ?_)
    | (with_reducible refine Asm.mk ?_ ?_; focus (first | kernel_rfl | decide))
    | (with_reducible refine isCP hcp ?_; first | (refine xP hcp (h1) ?_; skip) | (refine xP hcp (h2) ?_; skip) | (refine xP hcp (h3) ?_; skip))
    | (with_reducible refine isCC hcc ?_; first | (refine xA hcc (h1) rfl ?_; skip) | (refine xA hcc (h2) rfl ?_; skip) | (refine xA hcc (h3) rfl ?_; skip))
    | (with_reducible refine Asm.mk2 ?_ ?_)
    | ((fail_if_success (with_reducible refine hQ _ ?_)); (fail_if_success (with_reducible refine Side.mk ?_)); (fail_if_success (with_reducible refine isCP hcp ?_)); (fail_if_success (with_reducible refine isCC hcc ?_)); (fail_if_success (with_reducible refine isLP hlp ?_)); (fail_if_success (with_reducible refine Ix.mk ?_)); (fail_if_success (with_reducible refine SIx.mk ?_)); (fail_if_success (with_reducible refine SEx.mk ?_)); (fail_if_success (with_reducible refine EIx.mk ?_)); (fail_if_success (with_reducible refine RIx.mk ?_)); (fail_if_success (with_reducible show False)); (fail_if_success (with_reducible refine hR ?_ _ ?_ ?_ ?_ ?_ ?_)); (fail_if_success (with_reducible refine hR2 ?_ _ ?_ ?_ ?_ ?_ ?_)); cbv))
  all_goals
    (refine hQ _ ?_
     clear hQ h1 h2 h3 hcp hcc hlp
     simp_all)
theorem segMay_law {k0 k1 k2 : Nat} {x0 x1 x2 : PV} (f0 : FitsA Try.prog k0 22 x0) (f1 : FitsA Try.prog k1 77 x1) (f2 : FitsA Try.prog k2 80 x2) : PCall Try.prog 11 [x0, x1, x2] fun r => r = [.bool true] := by
  obtain ⟨K, rfl⟩ := fits22K f0
  obtain ⟨a, L, H, N, rfl⟩ := fits77 f1
  obtain ⟨op, m, vk, vn, vs, ar, rfl, hw, ho⟩ := fits80 f2
  exact segMay_c K a L H N _ _ _ _ rfl rfl rfl rfl op m vk vn vs ar _ rfl hw
end Go.Proofs.Ytnhmnfokbinplaa
