/- cell: the values' functions as contracts, first part. Own work; no condition. -/
import Derived.Test.YtcajncmjlmpkgaaPcTy
import Derived.Test.YtcajncmjlmpkgaaPcAbs21
namespace Go.Proofs.Ytcajncmjlmpkgaa
open Go Go.RowKit
set_option maxRecDepth 100000
set_option linter.unusedSimpArgs false
set_option linter.unusedVariables false
def Val.zero : Val := ⟨0, 0, ⟨#[]⟩⟩
def num (n : Int) : Val := ⟨1, n, ⟨#[]⟩⟩
def flag (b : Bool) : Val := num (if b then 1 else 0)
def clean (v : Val) : Val := if v.k = 1 then ⟨1, v.n, ⟨#[]⟩⟩ else if v.k = 2 then ⟨2, 0, v.s⟩ else Val.zero
theorem clean_c (k n : Int) (s : ByteArray) : PCall Try.prog 31 [.agg [.int .i64 k, .int .i64 n, .str s]] fun r => r = [(clean ⟨k, n, s⟩).enc] := by
 refine PCall.x (nt := ⟨13, []⟩) (res := [.cell 2 24]) mixed tt_ok [] Try.func31 rfl rfl rfl c31 (Nat.le_of_ble_eq_true rfl) ?_
 intro cp cc lp Q' hcp hcc hlp hQ
 repeat' (first
   | (with_reducible refine Nm.mk ?_; intro z hz)
   | (with_reducible refine IfB.mk ?_ ?_ <;> (intro h; cases h))
   | (with_reducible refine Two.l ?_; refine Asm.mk ?_ ?_; focus (decide +kernel))
   | (with_reducible refine Two.r ?_)
   | (with_reducible refine TwoT.r ?_)
   | (with_reducible refine TwoU.r ?_)
   | (with_reducible refine Asm.mk ?_ ?_; focus (first | kernel_rfl | decide))
   | (with_reducible refine Asm.mk2 ?_ ?_)
   | ((fail_if_success (with_reducible first | refine hQ _ ?_ | refine Side.mk ?_ | refine isCP hcp ?_ | refine isCC hcc ?_ | refine isLP hlp ?_ | refine Ix.mk ?_ | refine SIx.mk ?_ | refine SEx.mk ?_ | refine EIx.mk ?_ | refine RIx.mk ?_ | refine LkX.mk ?_ | show False | refine hR ?_ _ ?_ ?_ ?_ ?_ ?_ | refine hR2 ?_ _ ?_ ?_ ?_ ?_ ?_)); cbv))
 all_goals (refine hQ _ ?_; clear hQ hcp hcc hlp; subst_vars; simp_all [clean, Val.enc, Val.zero])
theorem flag_c (b : Bool) : PCall Try.prog 75 [.bool b] fun r => r = [(flag b).enc] := by
 refine PCall.x (nt := ⟨8, []⟩) (res := [.cell 2 24]) mixed tt_ok [] Try.func75 rfl rfl rfl c75 (Nat.le_of_ble_eq_true rfl) ?_
 intro cp cc lp Q' hcp hcc hlp hQ
 repeat' (first
   | (with_reducible refine Nm.mk ?_; intro z hz)
   | (with_reducible refine IfB.mk ?_ ?_ <;> (intro h; cases h))
   | (with_reducible refine Two.l ?_; refine Asm.mk ?_ ?_; focus (decide +kernel))
   | (with_reducible refine Two.r ?_)
   | (with_reducible refine TwoT.r ?_)
   | (with_reducible refine TwoU.r ?_)
   | (with_reducible refine Asm.mk ?_ ?_; focus (first | kernel_rfl | decide))
   | (with_reducible refine Asm.mk2 ?_ ?_)
   | ((fail_if_success (with_reducible first | refine hQ _ ?_ | refine Side.mk ?_ | refine isCP hcp ?_ | refine isCC hcc ?_ | refine isLP hlp ?_ | refine Ix.mk ?_ | refine SIx.mk ?_ | refine SEx.mk ?_ | refine EIx.mk ?_ | refine RIx.mk ?_ | refine LkX.mk ?_ | show False | refine hR ?_ _ ?_ ?_ ?_ ?_ ?_ | refine hR2 ?_ _ ?_ ?_ ?_ ?_ ?_)); cbv))
 all_goals (refine hQ _ ?_; clear hQ hcp hcc hlp; subst_vars; simp_all [flag, num, Val.enc])
def isT (v : Val) (yes : Bool) : Bool := decide (v.k = 1) && ((!decide (v.n = 0)) == yes)
def both (op : Int) (a b : Val) : Val :=
 if op = 19 then (if isT a false = true ∨ isT b false = true then flag false else if ¬ a.k = 1 ∨ ¬ b.k = 1 then Val.zero else flag true)
 else if op = 20 then (if isT a true = true ∨ isT b true = true then flag true else if ¬ a.k = 1 ∨ ¬ b.k = 1 then Val.zero else flag false)
 else Val.zero
end Go.Proofs.Ytcajncmjlmpkgaa
