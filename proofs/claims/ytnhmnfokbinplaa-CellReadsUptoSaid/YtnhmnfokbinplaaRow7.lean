/- rows' keys: the law CellReads. Own work; no condition. -/
import Derived.Test.YtnhmnfokbinplaaRow6
import Derived.Test.YtnhmnfokbinplaaVec4
import Derived.Test.YtnhmnfokbinplaaFit
import Derived.Test.YtnhmnfokbinplaaRdU
namespace Go.Proofs.Ytnhmnfokbinplaa
open Go Go.RowKit
set_option maxRecDepth 100000
set_option linter.unusedSimpArgs false
set_option linter.unusedVariables false

theorem rowOut_eq (o : Option (List Val)) : ∃ (V : List Val) (er : Int), rowOut o = [.sl (V.map Val.cells), .int .i64 er] := by
  cases o with
  | none => exact ⟨[], 2, rfl⟩
  | some r => exact ⟨r, 0, rfl⟩
theorem row1_c : PCall Try.prog 31 [.str ⟨#[1]⟩] fun r => r = [.sl [[.int .i64 0, .int .i64 0, .str ⟨#[]⟩]], .int .i64 0] := by
  have h := row_c ⟨#[1]⟩ (by decide)
  have e : rowOut (rowM (byts ⟨#[1]⟩)) = [.sl [[.int .i64 0, .int .i64 0, .str ⟨#[]⟩]], .int .i64 0] := by
    show rowOut (rowM [1]) = _
    rw [rowM, List.length_singleton, rowF, step_1]
    rfl
  rw [e] at h
  exact h
theorem cellReads_c (s : ByteArray) (hs : s.size ≤ 1048577) : PCall Try.prog 8 [.str s] fun r => r = [.bool true] := by
  have h1 := row_c s hs
  have h2 := rrow_c s hs
  obtain ⟨V, er, e⟩ := rowOut_eq (rowM (byts s))
  rw [e] at h1 h2
  obtain ⟨rl, hV⟩ : ∃ l, V.map Val.cells = l := ⟨_, rfl⟩
  rw [hV] at h1 h2
  have h0 := row1_c
  have hsr := sameRow_c V rl hV
  have hnm := num_c er
  have hn0 := num_c 0
  refine PCall.x (nt := 37) (res := [.tmp 2]) mixed tt_ok [] Try.func8 rfl rfl rfl c8 (Nat.le_of_ble_eq_true rfl) ?_
  intro cp cc lp Q' hcp hcc hlp hQ
  repeat' (first
    | (with_reducible refine Nm.mk ?_; intro z hz)
    | (with_reducible refine IfB.mk ?_ ?_ <;> (intro h; cases h))
    | (with_reducible refine Asm.mk ?_ ?_; focus (first | kernel_rfl | decide))
    | (with_reducible refine isCP hcp ?_; first | (refine xP hcp (h0) ?_; skip) | (refine xP hcp (h1) ?_; skip) | (refine xP hcp (h2) ?_; skip) | (refine bP hcp (hsr) ?_; intro z hz) | (refine xP hcp (hnm) ?_; skip) | (refine xP hcp (hn0) ?_; skip))
    | (with_reducible refine isCC hcc ?_; first | (refine xA hcc (h0) rfl ?_; skip) | (refine xA hcc (h1) rfl ?_; skip) | (refine xA hcc (h2) rfl ?_; skip) | (refine bA hcc (hsr) rfl ?_; intro z hz) | (refine xA hcc (hnm) rfl ?_; skip) | (refine xA hcc (hn0) rfl ?_; skip))
    | (with_reducible refine Asm.mk2 ?_ ?_)
    | ((fail_if_success (with_reducible refine hQ _ ?_)); (fail_if_success (with_reducible refine Side.mk ?_)); (fail_if_success (with_reducible refine isCP hcp ?_)); (fail_if_success (with_reducible refine isCC hcc ?_)); (fail_if_success (with_reducible refine isLP hlp ?_)); (fail_if_success (with_reducible refine Ix.mk ?_)); (fail_if_success (with_reducible refine SIx.mk ?_)); (fail_if_success (with_reducible refine SEx.mk ?_)); (fail_if_success (with_reducible refine EIx.mk ?_)); (fail_if_success (with_reducible refine RIx.mk ?_)); (fail_if_success (with_reducible show False)); (fail_if_success (with_reducible refine hR ?_ _ ?_ ?_ ?_ ?_ ?_)); (fail_if_success (with_reducible refine hR2 ?_ _ ?_ ?_ ?_ ?_ ?_)); cbv))
  all_goals first
    | (exfalso; simp_all; done)
    | (refine hQ _ ?_; rw [← hz]; rfl)
theorem cellReads_lawU {k0 : Nat} {x0 : PV} (f0 : FitsA Try.prog k0 9 x0) (b0 : bk x0 ≤ 1048577) : PCall Try.prog 8 [x0] fun r => r = [.bool true] := by
  obtain ⟨v, rfl, _⟩ := fits9 f0
  have hb : v.size + 1 ≤ 1048577 := b0
  exact cellReads_c v (by omega)
end Go.Proofs.Ytnhmnfokbinplaa
