/- Expressions: the workers that compile makes. Own work; no condition. -/
import Derived.Test.YtnhmnfokbinplaaExS
namespace Go.Proofs.Ytnhmnfokbinplaa
open Go Go.RowKit
set_option maxRecDepth 100000
set_option linter.unusedSimpArgs false
set_option linter.unusedVariables false

theorem Ix.el {L : List (List PV)} {es : Nat} {i : Int} {K : List PV → Prop} (n : Nat) {e : List PV} (hi : 0 ≤ i) (hn : i.toNat = n) (h : L[n]? = some e) (he : e.length = es) (hes : es ≠ 0) (k : K e) : Ix es L i K := ⟨e, hi, by rw [hn]; exact h, he, hes, k⟩

abbrev oneW (f L : PV) : PV := .fn 167 [.ip [f], .ip [L]]
abbrev twoW (f L : PV) : PV := .fn 169 [.ip [f], .ip [L]]
abbrev byW (f : PV) (cells : List PV) (L : PV) : PV := twoW (.fn 171 [.ip [f], .ip cells]) L

/-- one, two, by: what they hand back. -/
theorem one_c (k : Nat) (caps : List PV) (L : List (List PV)) : PCall Try.prog 166 [.fn k caps, .ip [.sl L]] fun r => r = [oneW (.fn k caps) (.sl L)] := by
  refine PCall.x (nt := 5) (res := [.tmp 3]) mixed tt_ok [] Try.func166 rfl rfl rfl c166 (Nat.le_of_ble_eq_true rfl) ?_
  intro cp cc lp Q' hcp hcc hlp hQ
  repeat' (first
    | (with_reducible refine Nm.mk ?_; intro z hz)
    | (with_reducible refine IfB.mk ?_ ?_ <;> (intro h; cases h))
    | (with_reducible refine Asm.mk ?_ ?_; focus (first | kernel_rfl | decide))
    | (with_reducible refine Asm.mk2 ?_ ?_)
    | ((fail_if_success (with_reducible refine hQ _ ?_)); (fail_if_success (with_reducible refine Side.mk ?_)); (fail_if_success (with_reducible refine isCP hcp ?_)); (fail_if_success (with_reducible refine isCC hcc ?_)); (fail_if_success (with_reducible refine isLP hlp ?_)); (fail_if_success (with_reducible refine Ix.mk ?_)); (fail_if_success (with_reducible refine SIx.mk ?_)); (fail_if_success (with_reducible refine SEx.mk ?_)); (fail_if_success (with_reducible refine EIx.mk ?_)); (fail_if_success (with_reducible show False)); (fail_if_success (with_reducible refine hR ?_ _ ?_ ?_ ?_ ?_ ?_)); (fail_if_success (with_reducible refine hR2 ?_ _ ?_ ?_ ?_ ?_ ?_)); cbv))
  all_goals (refine hQ _ ?_; clear hQ hcp hcc hlp; subst_vars; simp_all [oneW])
theorem two_c (k : Nat) (caps : List PV) (L : List (List PV)) : PCall Try.prog 168 [.fn k caps, .ip [.sl L]] fun r => r = [twoW (.fn k caps) (.sl L)] := by
  refine PCall.x (nt := 5) (res := [.tmp 3]) mixed tt_ok [] Try.func168 rfl rfl rfl c168 (Nat.le_of_ble_eq_true rfl) ?_
  intro cp cc lp Q' hcp hcc hlp hQ
  repeat' (first
    | (with_reducible refine Nm.mk ?_; intro z hz)
    | (with_reducible refine IfB.mk ?_ ?_ <;> (intro h; cases h))
    | (with_reducible refine Asm.mk ?_ ?_; focus (first | kernel_rfl | decide))
    | (with_reducible refine Asm.mk2 ?_ ?_)
    | ((fail_if_success (with_reducible refine hQ _ ?_)); (fail_if_success (with_reducible refine Side.mk ?_)); (fail_if_success (with_reducible refine isCP hcp ?_)); (fail_if_success (with_reducible refine isCC hcc ?_)); (fail_if_success (with_reducible refine isLP hlp ?_)); (fail_if_success (with_reducible refine Ix.mk ?_)); (fail_if_success (with_reducible refine SIx.mk ?_)); (fail_if_success (with_reducible refine SEx.mk ?_)); (fail_if_success (with_reducible refine EIx.mk ?_)); (fail_if_success (with_reducible show False)); (fail_if_success (with_reducible refine hR ?_ _ ?_ ?_ ?_ ?_ ?_)); (fail_if_success (with_reducible refine hR2 ?_ _ ?_ ?_ ?_ ?_ ?_)); cbv))
  all_goals (refine hQ _ ?_; clear hQ hcp hcc hlp; subst_vars; simp_all [twoW])
theorem by_c (k : Nat) (caps : List PV) (cells : List PV) (L : List (List PV)) : PCall Try.prog 170 [.fn k caps, .ip [.fn 168 [.ip [.sl L]]], .ip cells] fun r => r = [byW (.fn k caps) cells (.sl L)] := by
  refine PCall.x (nt := 8) (res := [.tmp 4]) mixed tt_ok [(168, [0])] Try.func170 rfl rfl rfl c170 (Nat.le_of_ble_eq_true rfl) ?_
  intro cp cc lp Q' hcp hcc hlp hQ
  repeat' (first
    | (with_reducible refine Nm.mk ?_; intro z hz)
    | (with_reducible refine IfB.mk ?_ ?_ <;> (intro h; cases h))
    | (with_reducible refine Asm.mk ?_ ?_; focus (first | kernel_rfl | decide))
    | (with_reducible refine isCP hcp ?_; first | (refine xP hcp (two_c _ _ _) ?_; skip))
    | (with_reducible refine isCC hcc ?_; first | (refine xA hcc (two_c _ _ _) rfl ?_; skip))
    | (with_reducible refine Asm.mk2 ?_ ?_)
    | ((fail_if_success (with_reducible refine hQ _ ?_)); (fail_if_success (with_reducible refine Side.mk ?_)); (fail_if_success (with_reducible refine isCP hcp ?_)); (fail_if_success (with_reducible refine isCC hcc ?_)); (fail_if_success (with_reducible refine isLP hlp ?_)); (fail_if_success (with_reducible refine Ix.mk ?_)); (fail_if_success (with_reducible refine SIx.mk ?_)); (fail_if_success (with_reducible refine SEx.mk ?_)); (fail_if_success (with_reducible refine EIx.mk ?_)); (fail_if_success (with_reducible show False)); (fail_if_success (with_reducible refine hR ?_ _ ?_ ?_ ?_ ?_ ?_)); (fail_if_success (with_reducible refine hR2 ?_ _ ?_ ?_ ?_ ?_ ?_)); cbv))
  exact hQ _ rfl

/-- What a worker of one part, of two, does. -/
theorem run1_c (kf : Nat) (cf : List PV) (k0 : Nat) (c0 : List PV) (kc : Nat) (cc0 : List PV) (L : List (List PV)) (h0 : L[0]? = some [.fn k0 c0]) (a b : Val)
    (ha : PCall Try.prog k0 (.fn kc cc0 :: c0) fun r => r = [a.enc]) (hb : PCall Try.prog kf (a.enc :: cf) fun r => r = [b.enc]) :
    PCall Try.prog 167 [.fn kc cc0, .ip [.fn kf cf], .ip [.sl L]] fun r => r = [b.enc] := by
  have hb' : ∀ v : Val, a = v → PCall Try.prog kf (.agg [.int .i64 v.k, .int .i64 v.n, .str v.s] :: cf) fun r => r = [b.enc] := by rintro v rfl; exact hb
  refine PCall.x (nt := 12) (res := [.cell 4 25]) mixed tt_ok [] Try.func167 rfl rfl rfl c167 (Nat.le_of_ble_eq_true rfl) ?_
  intro cp cc lp Q' hcp hcc hlp hQ
  repeat' (first
    | (with_reducible refine Nm.mk ?_; intro z hz)
    | (with_reducible refine IfB.mk ?_ ?_ <;> (intro h; cases h))
    | (with_reducible refine Asm.mk ?_ ?_; focus kernel_rfl)
    | (with_reducible refine isCP hcp ?_; first | (refine vP hcp (ha) ?_; intro v hv) | (refine vP hcp (hb' _ (by assumption)) ?_; intro v hv))
    | (with_reducible refine isCC hcc ?_; first | (refine vA hcc (ha) rfl ?_; intro v hv) | (refine vA hcc (hb' _ (by assumption)) rfl ?_; intro v hv))
    | (with_reducible refine Ix.el 0 (by decide) rfl h0 rfl (by decide) ?_)
    | (with_reducible refine Asm.mk2 ?_ ?_)
    | ((fail_if_success (with_reducible refine hQ _ ?_)); (fail_if_success (with_reducible refine Side.mk ?_)); (fail_if_success (with_reducible refine isCP hcp ?_)); (fail_if_success (with_reducible refine isCC hcc ?_)); (fail_if_success (with_reducible refine isLP hlp ?_)); (fail_if_success (with_reducible refine Ix.mk ?_)); (fail_if_success (with_reducible refine SIx.mk ?_)); (fail_if_success (with_reducible refine SEx.mk ?_)); (fail_if_success (with_reducible refine EIx.mk ?_)); (fail_if_success (with_reducible show False)); (fail_if_success (with_reducible refine hR ?_ _ ?_ ?_ ?_ ?_ ?_)); (fail_if_success (with_reducible refine hR2 ?_ _ ?_ ?_ ?_ ?_ ?_)); cbv))
  all_goals (refine hQ _ ?_; clear hQ hcp hcc hlp ha hb hb'; subst_vars; rfl)
theorem run2_c (kf : Nat) (cf : List PV) (k0 : Nat) (c0 : List PV) (k1 : Nat) (c1 : List PV) (kc : Nat) (cc0 : List PV) (L : List (List PV)) (h0 : L[0]? = some [.fn k0 c0]) (h1 : L[1]? = some [.fn k1 c1]) (a b c : Val)
    (ha : PCall Try.prog k0 (.fn kc cc0 :: c0) fun r => r = [a.enc]) (hb : PCall Try.prog k1 (.fn kc cc0 :: c1) fun r => r = [b.enc]) (hc : PCall Try.prog kf (a.enc :: b.enc :: cf) fun r => r = [c.enc]) :
    PCall Try.prog 169 [.fn kc cc0, .ip [.fn kf cf], .ip [.sl L]] fun r => r = [c.enc] := by
  have hc' : ∀ v w : Val, a = v → b = w → PCall Try.prog kf (.agg [.int .i64 v.k, .int .i64 v.n, .str v.s] :: .agg [.int .i64 w.k, .int .i64 w.n, .str w.s] :: cf) fun r => r = [c.enc] := by rintro v w rfl rfl; exact hc
  refine PCall.x (nt := 17) (res := [.cell 4 25]) mixed tt_ok [] Try.func169 rfl rfl rfl c169 (Nat.le_of_ble_eq_true rfl) ?_
  intro cp cc lp Q' hcp hcc hlp hQ
  repeat' (first
    | (with_reducible refine Nm.mk ?_; intro z hz)
    | (with_reducible refine IfB.mk ?_ ?_ <;> (intro h; cases h))
    | (with_reducible refine Asm.mk ?_ ?_; focus kernel_rfl)
    | (with_reducible refine isCP hcp ?_; first | (refine vP hcp (ha) ?_; intro v hv) | (refine vP hcp (hb) ?_; intro v hv) | (refine vP hcp (hc' _ _ (by assumption) (by assumption)) ?_; intro v hv))
    | (with_reducible refine isCC hcc ?_; first | (refine vA hcc (ha) rfl ?_; intro v hv) | (refine vA hcc (hb) rfl ?_; intro v hv) | (refine vA hcc (hc' _ _ (by assumption) (by assumption)) rfl ?_; intro v hv))
    | (with_reducible refine Ix.el 0 (by decide) rfl h0 rfl (by decide) ?_)
    | (with_reducible refine Ix.el 1 (by decide) rfl h1 rfl (by decide) ?_)
    | (with_reducible refine Asm.mk2 ?_ ?_)
    | ((fail_if_success (with_reducible refine hQ _ ?_)); (fail_if_success (with_reducible refine Side.mk ?_)); (fail_if_success (with_reducible refine isCP hcp ?_)); (fail_if_success (with_reducible refine isCC hcc ?_)); (fail_if_success (with_reducible refine isLP hlp ?_)); (fail_if_success (with_reducible refine Ix.mk ?_)); (fail_if_success (with_reducible refine SIx.mk ?_)); (fail_if_success (with_reducible refine SEx.mk ?_)); (fail_if_success (with_reducible refine EIx.mk ?_)); (fail_if_success (with_reducible show False)); (fail_if_success (with_reducible refine hR ?_ _ ?_ ?_ ?_ ?_ ?_)); (fail_if_success (with_reducible refine hR2 ?_ _ ?_ ?_ ?_ ?_ ?_)); cbv))
  all_goals (refine hQ _ ?_; clear hQ hcp hcc hlp ha hb hc hc'; subst_vars; rfl)
theorem runBy_c (kf : Nat) (cf : List PV) (op n k m : Int) (s : ByteArray) (es : List (List PV)) (a b c : Val) (hc : PCall Try.prog kf (.int .i64 op :: a.enc :: b.enc :: cf) fun r => r = [c.enc]) :
    PCall Try.prog 171 [a.enc, b.enc, .ip [.fn kf cf], .ip [.int .i64 op, .int .i64 n, .int .i64 k, .int .i64 m, .str s, .sl es]] fun r => r = [c.enc] := by
  obtain ⟨ak, an, as'⟩ := a
  obtain ⟨bk', bn, bs⟩ := b
  have hb3 : ∀ {x y z : AV} {p q r : PV} {cs : List PV}, pureX x = some p → pureX y = some q → pureX z = some r → optL pureX (catX [x, y, z] (mapX .p cs)) = some (p :: q :: r :: cs) := by
    intro x y z p q r cs h1 h2 h3
    show optL pureX (x :: y :: z :: mapX .p cs) = _
    simp only [optL, h1, h2, h3, pure_p]
  simp only [Val.enc] at hc
  refine PCall.x (nt := 13) (res := [.cell 6 25]) mixed tt_ok [] Try.func171 rfl rfl rfl c171 (Nat.le_of_ble_eq_true rfl) ?_
  intro cp cc lp Q' hcp hcc hlp hQ
  repeat' (first
    | (with_reducible refine Nm.mk ?_; intro z hz)
    | (with_reducible refine IfB.mk ?_ ?_ <;> (intro h; cases h))
    | (with_reducible refine Asm.mk ?_ ?_; focus kernel_rfl)
    | (with_reducible refine isCC hcc ?_; refine vA hcc hc (hb3 rfl rfl rfl) ?_; intro v hv)
    | (with_reducible refine Asm.mk2 ?_ ?_)
    | ((fail_if_success (with_reducible refine hQ _ ?_)); (fail_if_success (with_reducible refine Side.mk ?_)); (fail_if_success (with_reducible refine isCP hcp ?_)); (fail_if_success (with_reducible refine isCC hcc ?_)); (fail_if_success (with_reducible refine isLP hlp ?_)); (fail_if_success (with_reducible refine Ix.mk ?_)); (fail_if_success (with_reducible refine SIx.mk ?_)); (fail_if_success (with_reducible refine SEx.mk ?_)); (fail_if_success (with_reducible refine EIx.mk ?_)); (fail_if_success (with_reducible show False)); (fail_if_success (with_reducible refine hR ?_ _ ?_ ?_ ?_ ?_ ?_)); (fail_if_success (with_reducible refine hR2 ?_ _ ?_ ?_ ?_ ?_ ?_)); cbv))
  all_goals (refine hQ _ ?_; clear hQ hcp hcc hlp hc hb3; subst_vars; rfl)
theorem run3_c (k0 : Nat) (c0 : List PV) (k1 : Nat) (c1 : List PV) (k2 : Nat) (c2 : List PV) (kc : Nat) (cc0 : List PV) (L : List (List PV)) (h0 : L[0]? = some [.fn k0 c0]) (h1 : L[1]? = some [.fn k1 c1]) (h2 : L[2]? = some [.fn k2 c2]) (a b c : Val)
    (ha : PCall Try.prog k0 (.fn kc cc0 :: c0) fun r => r = [a.enc]) (hb : PCall Try.prog k1 (.fn kc cc0 :: c1) fun r => r = [b.enc]) (hc : PCall Try.prog k2 (.fn kc cc0 :: c2) fun r => r = [c.enc]) :
    PCall Try.prog 178 [.fn kc cc0, .ip [.sl L]] fun r => r = [(if trueV a = true then b else c).enc] := by
  have ht : ∀ v : Val, a = v → PCall Try.prog 57 [.agg [.int .i64 v.k, .int .i64 v.n, .str v.s]] fun r => r = [.bool (trueV a)] := by rintro v rfl; exact true_c _ _ _
  refine PCall.x (nt := 20) (res := [.cell 3 25]) mixed tt_ok [] Try.func178 rfl rfl rfl c178 (Nat.le_of_ble_eq_true rfl) ?_
  intro cp cc lp Q' hcp hcc hlp hQ
  repeat' (first
    | (with_reducible refine Nm.mk ?_; intro z hz)
    | (with_reducible refine IfB.mk ?_ ?_ <;> (intro h; cases h))
    | (with_reducible refine Asm.mk ?_ ?_; focus kernel_rfl)
    | (with_reducible refine isCP hcp ?_; first | (refine bP hcp (ht _ (by assumption)) ?_; intro z hz))
    | (with_reducible refine isCC hcc ?_; first | (refine bA hcc (ht _ (by assumption)) rfl ?_; intro z hz))
    | (with_reducible refine Ix.el 0 (by decide) rfl h0 rfl (by decide) ?_)
    | (with_reducible refine Ix.el 1 (by decide) rfl h1 rfl (by decide) ?_)
    | (with_reducible refine Ix.el 2 (by decide) rfl h2 rfl (by decide) ?_)
    | (with_reducible refine isCC hcc ?_; first | (refine vA hcc ha (hb1 rfl) ?_; intro v hv) | (refine vA hcc hb (hb1 rfl) ?_; intro v hv) | (refine vA hcc hc (hb1 rfl) ?_; intro v hv))
    | (with_reducible refine Asm.mk2 ?_ ?_)
    | ((fail_if_success (with_reducible refine hQ _ ?_)); (fail_if_success (with_reducible refine Side.mk ?_)); (fail_if_success (with_reducible refine isCP hcp ?_)); (fail_if_success (with_reducible refine isCC hcc ?_)); (fail_if_success (with_reducible refine isLP hlp ?_)); (fail_if_success (with_reducible refine Ix.mk ?_)); (fail_if_success (with_reducible refine SIx.mk ?_)); (fail_if_success (with_reducible refine SEx.mk ?_)); (fail_if_success (with_reducible refine EIx.mk ?_)); (fail_if_success (with_reducible show False)); (fail_if_success (with_reducible refine hR ?_ _ ?_ ?_ ?_ ?_ ?_)); (fail_if_success (with_reducible refine hR2 ?_ _ ?_ ?_ ?_ ?_ ?_)); cbv))
  all_goals (refine hQ _ ?_; clear hQ hcp hcc hlp ha hb hc ht; simp_all [Val.enc])

/-- The small ones. -/
theorem flagk_c (b : Bool) : PCall Try.prog 172 [.bool b] fun r => r = [(flag b).enc] := by
  refine PCall.x (nt := 6) (res := [.cell 2 25]) mixed tt_ok [] Try.func172 rfl rfl rfl c172 (Nat.le_of_ble_eq_true rfl) ?_
  intro cp cc lp Q' hcp hcc hlp hQ
  repeat' (first
    | (with_reducible refine Nm.mk ?_; intro z hz)
    | (with_reducible refine IfB.mk ?_ ?_ <;> (intro h; cases h))
    | (with_reducible refine Asm.mk ?_ ?_; focus (first | kernel_rfl | decide))
    | (with_reducible refine Asm.mk2 ?_ ?_)
    | ((fail_if_success (with_reducible refine hQ _ ?_)); (fail_if_success (with_reducible refine Side.mk ?_)); (fail_if_success (with_reducible refine isCP hcp ?_)); (fail_if_success (with_reducible refine isCC hcc ?_)); (fail_if_success (with_reducible refine isLP hlp ?_)); (fail_if_success (with_reducible refine Ix.mk ?_)); (fail_if_success (with_reducible refine SIx.mk ?_)); (fail_if_success (with_reducible refine SEx.mk ?_)); (fail_if_success (with_reducible refine EIx.mk ?_)); (fail_if_success (with_reducible show False)); (fail_if_success (with_reducible refine hR ?_ _ ?_ ?_ ?_ ?_ ?_)); (fail_if_success (with_reducible refine hR2 ?_ _ ?_ ?_ ?_ ?_ ?_)); cbv))
  all_goals (refine hQ _ ?_; clear hQ hcp hcc hlp; subst_vars; simp_all [flag, num, Val.enc])
theorem colW_c (kc : Nat) (cc0 : List PV) (op n k m : Int) (s : ByteArray) (es : List (List PV)) (a : Val) (ha : PCall Try.prog kc (.int .i64 n :: cc0) fun r => r = [a.enc]) :
    PCall Try.prog 173 [.fn kc cc0, .ip [.int .i64 op, .int .i64 n, .int .i64 k, .int .i64 m, .str s, .sl es]] fun r => r = [a.enc] := by
  refine PCall.x (nt := 8) (res := [.cell 3 25]) mixed tt_ok [] Try.func173 rfl rfl rfl c173 (Nat.le_of_ble_eq_true rfl) ?_
  intro cp cc lp Q' hcp hcc hlp hQ
  repeat' (first
    | (with_reducible refine Nm.mk ?_; intro z hz)
    | (with_reducible refine IfB.mk ?_ ?_ <;> (intro h; cases h))
    | (with_reducible refine Asm.mk ?_ ?_; focus kernel_rfl)
    | (with_reducible refine isCC hcc ?_; refine vA hcc ha (hb1 rfl) ?_; intro v hv)
    | (with_reducible refine Asm.mk2 ?_ ?_)
    | ((fail_if_success (with_reducible refine hQ _ ?_)); (fail_if_success (with_reducible refine Side.mk ?_)); (fail_if_success (with_reducible refine isCP hcp ?_)); (fail_if_success (with_reducible refine isCC hcc ?_)); (fail_if_success (with_reducible refine isLP hlp ?_)); (fail_if_success (with_reducible refine Ix.mk ?_)); (fail_if_success (with_reducible refine SIx.mk ?_)); (fail_if_success (with_reducible refine SEx.mk ?_)); (fail_if_success (with_reducible refine EIx.mk ?_)); (fail_if_success (with_reducible show False)); (fail_if_success (with_reducible refine hR ?_ _ ?_ ?_ ?_ ?_ ?_)); (fail_if_success (with_reducible refine hR2 ?_ _ ?_ ?_ ?_ ?_ ?_)); cbv))
  all_goals (refine hQ _ ?_; clear hQ hcp hcc hlp ha; subst_vars; rfl)
theorem constW_c (kc : Nat) (cc0 : List PV) (v : Val) : PCall Try.prog 174 [.fn kc cc0, .ip v.cells] fun r => r = [v.enc] := by
  obtain ⟨k, n, s⟩ := v
  simp only [Val.cells]
  refine PCall.x (nt := 5) (res := [.cell 3 25]) mixed tt_ok [] Try.func174 rfl rfl rfl c174 (Nat.le_of_ble_eq_true rfl) ?_
  intro cp cc lp Q' hcp hcc hlp hQ
  repeat' (first
    | (with_reducible refine Nm.mk ?_; intro z hz)
    | (with_reducible refine IfB.mk ?_ ?_ <;> (intro h; cases h))
    | (with_reducible refine Asm.mk ?_ ?_; focus (first | kernel_rfl | decide))
    | (with_reducible refine Asm.mk2 ?_ ?_)
    | ((fail_if_success (with_reducible refine hQ _ ?_)); (fail_if_success (with_reducible refine Side.mk ?_)); (fail_if_success (with_reducible refine isCP hcp ?_)); (fail_if_success (with_reducible refine isCC hcc ?_)); (fail_if_success (with_reducible refine isLP hlp ?_)); (fail_if_success (with_reducible refine Ix.mk ?_)); (fail_if_success (with_reducible refine SIx.mk ?_)); (fail_if_success (with_reducible refine SEx.mk ?_)); (fail_if_success (with_reducible refine EIx.mk ?_)); (fail_if_success (with_reducible show False)); (fail_if_success (with_reducible refine hR ?_ _ ?_ ?_ ?_ ?_ ?_)); (fail_if_success (with_reducible refine hR2 ?_ _ ?_ ?_ ?_ ?_ ?_)); cbv))
  all_goals (refine hQ _ ?_; rfl)
theorem negW_c (a : Val) (h : -9223372036854775808 ≤ a.n ∧ a.n ≤ 9223372036854775807) : PCall Try.prog 175 [a.enc] fun r => r = [(reckon 8 (num 0) a).enc] := by
  obtain ⟨k, n, s⟩ := a
  have hr := reckon_c 8 1 0 ⟨#[]⟩ k n s (by decide) h
  simp only [Val.enc]
  refine PCall.x (nt := 6) (res := [.cell 2 25]) mixed tt_ok [] Try.func175 rfl rfl rfl c175 (Nat.le_of_ble_eq_true rfl) ?_
  intro cp cc lp Q' hcp hcc hlp hQ
  repeat' (first
    | (with_reducible refine Nm.mk ?_; intro z hz)
    | (with_reducible refine IfB.mk ?_ ?_ <;> (intro h; cases h))
    | (with_reducible refine Asm.mk ?_ ?_; focus (first | kernel_rfl | decide))
    | (with_reducible refine isCP hcp ?_; first | (refine vP hcp (hr) ?_; intro v hv))
    | (with_reducible refine isCC hcc ?_; first | (refine vA hcc (hr) rfl ?_; intro v hv))
    | (with_reducible refine Asm.mk2 ?_ ?_)
    | ((fail_if_success (with_reducible refine hQ _ ?_)); (fail_if_success (with_reducible refine Side.mk ?_)); (fail_if_success (with_reducible refine isCP hcp ?_)); (fail_if_success (with_reducible refine isCC hcc ?_)); (fail_if_success (with_reducible refine isLP hlp ?_)); (fail_if_success (with_reducible refine Ix.mk ?_)); (fail_if_success (with_reducible refine SIx.mk ?_)); (fail_if_success (with_reducible refine SEx.mk ?_)); (fail_if_success (with_reducible refine EIx.mk ?_)); (fail_if_success (with_reducible show False)); (fail_if_success (with_reducible refine hR ?_ _ ?_ ?_ ?_ ?_ ?_)); (fail_if_success (with_reducible refine hR2 ?_ _ ?_ ?_ ?_ ?_ ?_)); cbv))
  all_goals (refine hQ _ ?_; clear hQ hcp hcc hlp hr; subst_vars; rfl)
theorem nullW_c (a : Val) : PCall Try.prog 176 [a.enc, .ip [.fn 172 []]] fun r => r = [(flag (decide (a.k = 0))).enc] := by
  obtain ⟨k, n, s⟩ := a
  simp only [Val.enc]
  refine PCall.x (nt := 9) (res := [.cell 3 25]) mixed tt_ok [] Try.func176 rfl rfl rfl c176 (Nat.le_of_ble_eq_true rfl) ?_
  intro cp cc lp Q' hcp hcc hlp hQ
  repeat' (first
    | (with_reducible refine Nm.mk ?_; intro z hz)
    | (with_reducible refine IfB.mk ?_ ?_ <;> (intro h; cases h))
    | (with_reducible refine Asm.mk ?_ ?_; focus (first | kernel_rfl | decide))
    | (with_reducible refine isCP hcp ?_; first | (refine vP hcp (flagk_c _) ?_; intro v hv))
    | (with_reducible refine isCC hcc ?_; first | (refine vA hcc (flagk_c _) rfl ?_; intro v hv))
    | (with_reducible refine Asm.mk2 ?_ ?_)
    | ((fail_if_success (with_reducible refine hQ _ ?_)); (fail_if_success (with_reducible refine Side.mk ?_)); (fail_if_success (with_reducible refine isCP hcp ?_)); (fail_if_success (with_reducible refine isCC hcc ?_)); (fail_if_success (with_reducible refine isLP hlp ?_)); (fail_if_success (with_reducible refine Ix.mk ?_)); (fail_if_success (with_reducible refine SIx.mk ?_)); (fail_if_success (with_reducible refine SEx.mk ?_)); (fail_if_success (with_reducible refine EIx.mk ?_)); (fail_if_success (with_reducible show False)); (fail_if_success (with_reducible refine hR ?_ _ ?_ ?_ ?_ ?_ ?_)); (fail_if_success (with_reducible refine hR2 ?_ _ ?_ ?_ ?_ ?_ ?_)); cbv))
  all_goals (refine hQ _ ?_; clear hQ hcp hcc hlp; subst_vars; rfl)
theorem lenW_c (a : Val) (h : a.s.size ≤ 140737488355328) : PCall Try.prog 177 [a.enc] fun r => r = [(vlenV a).enc] := by
  obtain ⟨k, n, s⟩ := a
  simp only [Val.enc]
  refine PCall.x (nt := 11) (res := [.cell 2 25]) mixed tt_ok [] Try.func177 rfl rfl rfl c177 (Nat.le_of_ble_eq_true rfl) ?_
  intro cp cc lp Q' hcp hcc hlp hQ
  repeat' (first
    | (with_reducible refine Nm.mk ?_; intro z hz)
    | (with_reducible refine IfB.mk ?_ ?_ <;> (intro h; cases h))
    | (with_reducible refine Asm.mk ?_ ?_; focus (first | kernel_rfl | decide))
    | (with_reducible refine Asm.mk2 ?_ ?_)
    | ((fail_if_success (with_reducible refine hQ _ ?_)); (fail_if_success (with_reducible refine Side.mk ?_)); (fail_if_success (with_reducible refine isCP hcp ?_)); (fail_if_success (with_reducible refine isCC hcc ?_)); (fail_if_success (with_reducible refine isLP hlp ?_)); (fail_if_success (with_reducible refine Ix.mk ?_)); (fail_if_success (with_reducible refine SIx.mk ?_)); (fail_if_success (with_reducible refine SEx.mk ?_)); (fail_if_success (with_reducible refine EIx.mk ?_)); (fail_if_success (with_reducible show False)); (fail_if_success (with_reducible refine hR ?_ _ ?_ ?_ ?_ ?_ ?_)); (fail_if_success (with_reducible refine hR2 ?_ _ ?_ ?_ ?_ ?_ ?_)); cbv))
  all_goals (refine hQ _ ?_; clear hQ hcp hcc hlp; try simp only [nc] at *
             try simp only [nc'] at *
             simp_all [vlenV, num, Val.zero])
end Go.Proofs.Ytnhmnfokbinplaa
