/- Rows.PackWritesUptoSaid: for every input the call returns true, and each argument reads behind it as it read before. Own work; no condition beyond the given row. -/
import Derived.Test.YtcajncmjlmpkgaaRows
import Derived.Deep.CondSized
import Derived.Test.YtcajncmjlmpkgaaPaWeL
import Derived.SizedLaws
import Derived.WalkKit
import Derived.ProofKit
import Derived.OpenShut
import Derived.ShutString
import Derived.ChangeOld
import Derived.Below
namespace Go.Proofs.Ytcajncmjlmpkgaa.packWritesDone
open Go Go.ChangeShapes Go.WideShapes Go.ChangeAt Go.RowKit Go.Proofs.Ytcajncmjlmpkgaa
set_option linter.unusedVariables false
theorem own : ownKnob Try.prog.godebug = none := by kernel_rfl
theorem laidOut : laidOutB Try.prog = true := by kernel_rfl
theorem plain : plainSet Try.prog [29,25,26,27,3,2,9,4] = true := by kernel_rfl
set_option maxRecDepth 100000 in
theorem walk (v0 : Value) (v1 : Value) (W : World) (h0 : ∃ n x, RP (memOf W) x v0 ∧ FitsA Try.prog n 29 x ∧ bk x ≤ 1048577) (h1 : ∃ n x, RP (memOf W) x v1 ∧ FitsA Try.prog n 3 x ∧ bk x ≤ 1048577) : Calls Try.prog 5 #[v0, v1] W fun e w' => e = .returned (.bool true) ∧ Below W.heap.size W w' := by
  obtain ⟨n0, x0, r0, f0, b0⟩ := h0
  obtain ⟨n1, x1, r1, f1, b1⟩ := h1
  exact law_walk (vals := [v0, v1]) c5 (packWrites_law f0 f1 b0 b1) ((RL.one r0) |>.append (RL.one r1))
set_option maxRecDepth 100000 in
theorem lifted (os : Os) (started : os.Started) (H : Type) (enc : TypeId × Value → H) (F : Stop.Interp) :
    ReturnsInHanded {} Try.checked os 5 .any ((Rows.OpenSpec.upto Rows.packWritesSpec).pre6 enc Try.prog Try.f5 Rows.packWritesUptoRow.domain false) (((Rows.OpenSpec.upto Rows.packWritesSpec).at F).post enc Try.prog Try.f5 false true false false) := by
  refine returnsInHanded_of_cond_sized (C := Try.checked) (s := (Rows.OpenSpec.upto Rows.packWritesSpec)) (k := Rows.uptoSmall) rfl own started (by kernel_rfl) Try.func5
    (OpenSpec.witness (enc := enc) (C := Try.checked) (s := (Rows.OpenSpec.upto Rows.packWritesSpec)) (k := Rows.uptoSmall) rfl false ⟨#[], #[.agg #[(.int .i64 0), (.slice none 0 0), (.slice none 0 0), (.slice none 0 0)], .int .i64 0], []⟩ 8 (by kernel_rfl) (by kernel_rfl) (by kernel_rfl)
      (x := ([.agg [.lit (.int .i64 0), .nil, .nil, .nil], .lit (.int .i64 0)], [], [])) (by kernel_rfl) rfl (by kernel_rfl)) ?_
  intro W base args ds gs before hval0 hW hcnd hk0 hsz0 _
  have hk : Rows.uptoBulkAll (ds ++ gs) ≤ 1048576 := of_decide_eq_true hk0
  have hval : ∀ (j : Nat) t v, Try.f5.params[j]? = some t → args[j]? = some v → Value.okWide Try.prog W .any base t v := hval0
  have hW' := hW
  have hsz : ∀ x ∈ DataW.weightsEach Try.prog (Try.f5.params.toList ++ []) (ds ++ gs), x ≤ reachBytes := by have h : (DataW.weightsEach Try.prog (Try.f5.params.toList ++ []) (ds ++ gs)).all (· ≤ reachBytes) = true := hsz0; simpa using h
  obtain ⟨p, q, hA0, hV, rfl, hfz, hnd⟩ := hW
  have hA : DataW.TrodAll enc Try.prog W 0 (fun _ => true) true Try.f5.params.toList args.toList ds p := hA0
  rw [Try.params5] at hA hval
  obtain ⟨v0, vs0, d0, ds0, p0, q0, hargs, rfl, rfl, h0, r0⟩ := trodAll_cons hA
  obtain ⟨v1, vs1, d1, ds1, p1, q1, rfl, rfl, rfl, h1, r1⟩ := trodAll_cons r0
  obtain ⟨rfl, rfl, rfl⟩ := trodAll_nil r1
  obtain rfl : args = #[v0, v1] := by cases args; simp_all
  obtain ⟨rfl, rfl⟩ := trodVars_none hV
  simp only [List.append_nil, Rows.uptoBulkAll] at hk
  have k0 := h0
  have lt0 : ∀ x ∈ p0, x.block < W.heap.size := by obtain ⟨m, hm⟩ := k0; exact DataW.trod_lt m _ _ _ hm
  have a0 : ∃ n x, RP (memOf W) x v0 ∧ FitsA Try.prog n 29 x ∧ bk x ≤ 1048577 := by
    obtain ⟨n, x, r1, r2, r3⟩ := readU_arg plain (t := 29) (by decide) (hval 0 29 v0 rfl rfl) h0 (weights_at hsz 0 29 d0 rfl rfl)
    exact ⟨n, x, r1, r2, by omega⟩
  have k1 := h1
  have lt1 : ∀ x ∈ p1, x.block < W.heap.size := by obtain ⟨m, hm⟩ := k1; exact DataW.trod_lt m _ _ _ hm
  have a1 : ∃ n x, RP (memOf W) x v1 ∧ FitsA Try.prog n 3 x ∧ bk x ≤ 1048577 := by
    obtain ⟨n, x, r1, r2, r3⟩ := readU_arg plain (t := 3) (by decide) (hval 1 3 v1 rfl rfl) h1 (weights_at hsz 1 3 d1 rfl rfl)
    exact ⟨n, x, r1, r2, by omega⟩
  clear hA0 hval0
  refine (walk v0 v1 W a0 a1).mono fun e W' ⟨he, bel⟩ => ?_
  subst he
  exact ⟨_, rfl, _, _, _, [], _, [], hW', trodAll_mk1 (shut_bool Try.underlying4 _), (trodAll_cons_mk (Below.trod laidOut (by kernel_rfl) (of_decide_eq_true (by kernel_rfl)) k0 bel lt0) (trodAll_cons_mk (Below.trod laidOut (by kernel_rfl) (of_decide_eq_true (by kernel_rfl)) k1 bel lt1) trodAll_mk0)), rfl, bel.frame _, fun h => by cases h⟩
theorem over : Rows.packWritesUptoRow.holds Try.pinned (Rows.OpenSpec.upto Rows.packWritesSpec) :=
  OpenClaim.holds_of_cond 5 Try.f5 rfl rfl rfl rfl rfl rfl rfl ⟨rfl, rfl, rfl, rfl, rfl⟩ rfl rfl rfl rfl rfl (by kernel_rfl) Try.func5 (by kernel_rfl)
    (of_decide_eq_true (by kernel_rfl)) (by unfold Func.isWrapper; first | (rw [if_pos (by decide +kernel)]; kernel_rfl) | (rw [if_neg (by decide +kernel)]; exact ⟨rfl, rfl⟩))
    (fun os started H enc _ F => lifted os started H enc F)
end Go.Proofs.Ytcajncmjlmpkgaa.packWritesDone
namespace Go.Proofs.Ytcajncmjlmpkgaa
theorem packWritesProved : Rows.PackWritesUptoSaid := packWritesDone.over
end Go.Proofs.Ytcajncmjlmpkgaa
