/- cell: the values' functions as contracts, first part. Own work; no condition. -/
import Derived.Test.YtnhmnfokbinplaaDoorTy
import Derived.Test.YtnhmnfokbinplaaDoorAbs21
namespace Go.Proofs.YtnhmnfokbinplaaDoor
open Go Go.RowKit
set_option maxRecDepth 100000
set_option linter.unusedSimpArgs false
set_option linter.unusedVariables false

theorem Val.eta (v : Val) : (⟨v.k, v.n, v.s⟩ : Val) = v := rfl
def Val.zero : Val := ⟨0, 0, ⟨#[]⟩⟩
def num (n : Int) : Val := ⟨1, n, ⟨#[]⟩⟩
def flag (b : Bool) : Val := num (if b then 1 else 0)
def clean (v : Val) : Val := if v.k = 1 then ⟨1, v.n, ⟨#[]⟩⟩ else if v.k = 2 then ⟨2, 0, v.s⟩ else Val.zero

theorem clean_c (k n : Int) (s : ByteArray) : PCall Tryd.prog 23 [.agg [.int .i64 k, .int .i64 n, .str s]] fun r => r = [(clean ⟨k, n, s⟩).enc] := by
  refine PCall.x (nt := 13) (res := [.cell 2 33]) mixed tt_ok [] Tryd.func23 rfl rfl rfl c23 (Nat.le_of_ble_eq_true rfl) ?_
  intro cp cc lp Q' hcp hcc hlp hQ
  repeat' (first
    | (with_reducible refine Nm.mk ?_; intro z hz)
    | (with_reducible refine IfB.mk ?_ ?_ <;> (intro h; cases h))
    | (with_reducible refine Two.l ?_; refine Asm.mk ?_ ?_; focus (decide +kernel))
    | (with_reducible refine Two.r ?_)
    | (with_reducible refine TwoT.r ?_)
    | (with_reducible refine Asm.mk ?_ ?_; focus (first | kernel_rfl | decide))
    | (with_reducible refine Asm.mk2 ?_ ?_)
    | ((fail_if_success (with_reducible refine hQ _ ?_)); (fail_if_success (with_reducible refine Side.mk ?_)); (fail_if_success (with_reducible refine isCP hcp ?_)); (fail_if_success (with_reducible refine isCC hcc ?_)); (fail_if_success (with_reducible refine isLP hlp ?_)); (fail_if_success (with_reducible refine Ix.mk ?_)); (fail_if_success (with_reducible refine SIx.mk ?_)); (fail_if_success (with_reducible refine SEx.mk ?_)); (fail_if_success (with_reducible refine EIx.mk ?_)); (fail_if_success (with_reducible refine RIx.mk ?_)); (fail_if_success (with_reducible show False)); (fail_if_success (with_reducible refine hR ?_ _ ?_ ?_ ?_ ?_ ?_)); (fail_if_success (with_reducible refine hR2 ?_ _ ?_ ?_ ?_ ?_ ?_)); cbv))
  all_goals (refine hQ _ ?_; clear hQ hcp hcc hlp; subst_vars; simp_all [clean, Val.enc, Val.zero])

def isT (v : Val) (yes : Bool) : Bool := decide (v.k = 1) && ((!decide (v.n = 0)) == yes)
def both (op : Int) (a b : Val) : Val :=
  if op = 19 then (if isT a false = true ∨ isT b false = true then flag false else if ¬ a.k = 1 ∨ ¬ b.k = 1 then Val.zero else flag true)
  else if op = 20 then (if isT a true = true ∨ isT b true = true then flag true else if ¬ a.k = 1 ∨ ¬ b.k = 1 then Val.zero else flag false)
  else Val.zero
def vnot (v : Val) : Val := if v.k = 1 then flag (decide (v.n = 0)) else Val.zero
end Go.Proofs.YtnhmnfokbinplaaDoor
