/- CellRows: the law. Own work; no condition. -/
import Derived.Test.YtnhmnfokbinplaaDoorRaKr6
import Derived.Test.YtnhmnfokbinplaaDoorRa43
import Derived.Test.YtnhmnfokbinplaaDoorRdU
namespace Go.Proofs.YtnhmnfokbinplaaDoor
open Go Go.RowKit
set_option maxRecDepth 100000
set_option linter.unusedSimpArgs false
set_option linter.unusedVariables false

theorem keyV_len (v : Val) : (keyV (clean v)).length ≤ 3 * (v.s.size + 3) := by
  rw [clean]
  split
  · rw [show (⟨1, v.n, ⟨#[]⟩⟩ : Val) = num v.n from rfl, keyV_num, List.length_cons, bytesN, List.length_map, List.length_range]; omega
  · split
    · have := escL_len (byts v.s)
      rw [byts_len] at this
      rw [show (⟨2, 0, v.s⟩ : Val) = str v.s from rfl, keyV_str, List.length_cons, List.length_append]
      show (escL (byts v.s)).length + 2 + 1 ≤ _
      omega
    · show 1 ≤ _
      omega
theorem keyL_len : ∀ A : List Val, (keyL A).length ≤ 3 * bkLL (A.map Val.cells)
  | [] => Nat.zero_le _
  | v :: r => by
    have h1 := keyL_len r
    have h2 := keyV_len v
    have e : keyL (v :: r) = keyV (clean v) ++ keyL r := by rw [show v :: r = [v] ++ r from rfl, keyL_app, keyL_one]
    rw [e, List.length_append, List.map_cons, bkLL]
    have h3 : bkL v.cells = v.s.size + 3 := by simp only [Val.cells, bkL, bk]; omega
    omega
theorem cellRows_c (A B : List Val) (CA CB : List (List PV)) (hA : A.map Val.cells = CA) (hB : B.map Val.cells = CB) (ha : A.length ≤ 140737488355328) (hb : B.length ≤ 140737488355328)
    (hs : ∀ v, v ∈ A → v.s.size ≤ 1048577) (hK : (keyL A).length ≤ 100000000)
    (hrep : ∀ s : ByteArray, s.size ≤ 1048577 → PCall Tryd.prog 18 [.str s, .str ⟨#[0]⟩, .str ⟨#[0, 255]⟩] fun r => r = [.str (toB (escL (byts s)))]) : PCall Tryd.prog 3 [.sl CA, .sl CB] fun r => r = [.bool true] := by
  have h1 := crows_c A B CA CB hA hB ha hb
  have h2 := rrows_c A B CA CB hA hB ha hb
  have h3 := crows_c B A CB CA hB hA hb ha
  have h4 := rrows_c B A CB CA hB hA hb ha
  have k1 := ckey_c A CA hA ha hs hK hrep
  have k2 := rkeys_c A CA hA ha hs hK
  generalize rowsV A B = p at h1 h2
  generalize rowsV B A = q at h3 h4
  generalize toB (keyL A) = k at k1 k2
  have hS : ∀ s : ByteArray, (sbeq s s) = true := fun s => by simp [sbeq]
  refine PCall.x (nt := 28) (res := [.tmp 4]) mixed tt_ok [] Tryd.func3 rfl rfl rfl c3 (Nat.le_of_ble_eq_true rfl) ?_
  intro cp cc lp Q' hcp hcc hlp hQ
  repeat' (first
    | (with_reducible refine Nm.mk ?_; intro z hz)
    | (with_reducible refine IfB.mk ?_ ?_ <;> (intro h; cases h))
    | (with_reducible refine Two.l ?_; refine Asm.mk ?_ ?_; focus (decide +kernel))
    | (with_reducible refine Two.r ?_)
    | (with_reducible refine TwoT.r ?_)
    | (with_reducible refine Asm.mk ?_ ?_; focus (first | kernel_rfl | decide))
    | (with_reducible refine isCP hcp ?_; first | (refine iP hcp (h1) ?_; intro z hz) | (refine iP hcp (h2) ?_; intro z hz) | (refine sP hcp (k1) ?_; intro z hz) | (refine sP hcp (k2) ?_; intro z hz) | (refine iP hcp (h3) ?_; intro z hz) | (refine iP hcp (h4) ?_; intro z hz))
    | (with_reducible refine isCC hcc ?_; first | (refine iA hcc (h1) rfl ?_; intro z hz) | (refine iA hcc (h2) rfl ?_; intro z hz) | (refine sA hcc (k1) rfl ?_; intro z hz) | (refine sA hcc (k2) rfl ?_; intro z hz) | (refine iA hcc (h3) rfl ?_; intro z hz) | (refine iA hcc (h4) rfl ?_; intro z hz))
    | (with_reducible refine Asm.mk2 ?_ ?_)
    | ((fail_if_success (with_reducible first | refine hQ _ ?_ | refine Side.mk ?_ | refine isCP hcp ?_ | refine isCC hcc ?_ | refine isLP hlp ?_ | refine Ix.mk ?_ | refine SIx.mk ?_ | refine SEx.mk ?_ | refine EIx.mk ?_ | refine RIx.mk ?_ | show False | refine hR ?_ _ ?_ ?_ ?_ ?_ ?_ | refine hR2 ?_ _ ?_ ?_ ?_ ?_ ?_)); cbv))
  all_goals first
    | (exfalso; simp_all; done)
    | (refine hQ _ ?_; simp_all)
theorem cellRows_lawR {n0 n1 : Nat} {x0 x1 : PV} (f0 : FitsA Tryd.prog n0 22 x0) (f1 : FitsA Tryd.prog n1 22 x1) (b0 : bk x0 ≤ 1048577) (b1 : bk x1 ≤ 1048577)
    (hrep : ∀ s : ByteArray, s.size ≤ 1048577 → PCall Tryd.prog 18 [.str s, .str ⟨#[0]⟩, .str ⟨#[0, 255]⟩] fun r => r = [.str (toB (escL (byts s)))]) : PCall Tryd.prog 3 [x0, x1] fun r => r = [.bool true] := by
  obtain ⟨l0, rfl, h0, _⟩ := fits29 f0
  obtain ⟨l1, rfl, h1, _⟩ := fits29 f1
  have c0 : bkLL (l0.map Val.cells) + 1 ≤ 1048577 := b0
  have hk := keyL_len l0
  refine cellRows_c l0 l1 _ _ rfl rfl (by omega) (by omega) (fun v hv => ?_) (by omega) hrep
  have h3 : bkL v.cells ≤ bkLL (l0.map Val.cells) := bkLL_mem (List.mem_map.2 ⟨v, hv, rfl⟩)
  have h4 : bkL v.cells = v.s.size + 3 := by simp only [Val.cells, bkL, bk]; omega
  omega
theorem cellRows_law {n0 n1 : Nat} {x0 x1 : PV} (f0 : FitsA Tryd.prog n0 22 x0) (f1 : FitsA Tryd.prog n1 22 x1) (b0 : bk x0 ≤ 1048577) (b1 : bk x1 ≤ 1048577) : PCall Tryd.prog 3 [x0, x1] fun r => r = [.bool true] := cellRows_lawR f0 f1 b0 b1 rep_c
end Go.Proofs.YtnhmnfokbinplaaDoor
