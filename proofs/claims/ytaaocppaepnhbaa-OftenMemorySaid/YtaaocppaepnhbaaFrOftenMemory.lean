/- Rows.OftenMemorySaid: for every input the call returns true, and each argument reads behind it as it read before. Own work; no condition beyond the given row. -/
import Derived.Test.YtaaocppaepnhbaaRows
import Derived.Test.YtaaocppaepnhbaaRd
import Derived.Test.YtaaocppaepnhbaaOm6
import Derived.SizedLaws
import Derived.WalkKit
import Derived.ProofKit
import Derived.OpenShut
import Derived.ShutString
import Derived.ChangeOld
import Derived.Below
namespace Go.Proofs.Ytaaocppaepnhbaa.oftenMemoryDone
open Go Go.ChangeShapes Go.WideShapes Go.ChangeAt Go.RowKit Go.Proofs.Ytaaocppaepnhbaa
set_option linter.unusedVariables false
theorem own : ownKnob Try.prog.godebug = none := by kernel_rfl
theorem laidOut : laidOutB Try.prog = true := by kernel_rfl
theorem plain : plainSet Try.prog [3,22,30,28,2,9,4] = true := by kernel_rfl
set_option maxRecDepth 100000 in
theorem walk (v0 : Value) (v1 : Value) (W : World) (h0 : ∃ n x, RP (memOf W) x v0 ∧ FitsA Try.prog n 3 x) (h1 : ∃ n x, RP (memOf W) x v1 ∧ FitsA Try.prog n 22 x) : Calls Try.prog 3 #[v0, v1] W fun e w' => e = .returned (.bool true) ∧ Below W.heap.size W w' := by
  obtain ⟨n0, x0, r0, f0⟩ := h0
  obtain ⟨n1, x1, r1, f1⟩ := h1
  exact memory_law r0 f0 r1 f1
set_option maxRecDepth 100000 in
theorem lifted (os : Os) (started : os.Started) (H : Type) (enc : TypeId × Value → H) :
    ReturnsInHanded {} Try.checked os 3 .any (Rows.oftenMemorySpec.pre6 enc Try.prog Try.f3 Rows.oftenMemoryRow.domain false) (Rows.oftenMemorySpec.post enc Try.prog Try.f3 false true false false) := by
  refine returnsInHanded_of_change_sized (C := Try.checked) own started (by kernel_rfl) Try.func3
    (ChangeSpec.witness6 (enc := enc) (C := Try.checked) false ⟨#[], #[.int .i64 0, .slice none 0 0], []⟩ 8 (by kernel_rfl) (by kernel_rfl) (by kernel_rfl) (by kernel_rfl)) ?_
  intro W base args ds gs before hval0 hW hcnd hsz0 _
  have hval : ∀ (j : Nat) t v, Try.f3.params[j]? = some t → args[j]? = some v → Value.okWide Try.prog W .any base t v := hval0
  have hW' := hW
  have hsz : ∀ x ∈ DataW.weightsEach Try.prog (Try.f3.params.toList ++ []) (ds ++ gs), x ≤ reachBytes := by have h : (DataW.weightsEach Try.prog (Try.f3.params.toList ++ []) (ds ++ gs)).all (· ≤ reachBytes) = true := hsz0; simpa using h
  obtain ⟨p, q, hA0, hV, rfl, hfz, hnd⟩ := hW
  have hA : DataW.TrodAll enc Try.prog W 0 (fun _ => true) true Try.f3.params.toList args.toList ds p := hA0
  rw [Try.params3] at hA hval
  obtain ⟨v0, vs0, d0, ds0, p0, q0, hargs, rfl, rfl, h0, r0⟩ := trodAll_cons hA
  obtain ⟨v1, vs1, d1, ds1, p1, q1, rfl, rfl, rfl, h1, r1⟩ := trodAll_cons r0
  obtain ⟨rfl, rfl, rfl⟩ := trodAll_nil r1
  obtain rfl : args = #[v0, v1] := by cases args; simp_all
  obtain ⟨rfl, rfl⟩ := trodVars_none hV
  have k0 := h0
  have lt0 : ∀ x ∈ p0, x.block < W.heap.size := by obtain ⟨m, hm⟩ := k0; exact DataW.trod_lt m _ _ _ hm
  have a0 := read_arg plain (t := 3) (by decide) (hval 0 3 v0 rfl rfl) h0 (weights_at hsz 0 3 d0 rfl rfl)
  have k1 := h1
  have lt1 : ∀ x ∈ p1, x.block < W.heap.size := by obtain ⟨m, hm⟩ := k1; exact DataW.trod_lt m _ _ _ hm
  have a1 := read_arg plain (t := 22) (by decide) (hval 1 22 v1 rfl rfl) h1 (weights_at hsz 1 22 d1 rfl rfl)
  clear hA0 hval0
  refine (walk v0 v1 W a0 a1).mono fun e W' ⟨he, bel⟩ => ?_
  subst he
  exact ⟨_, rfl, _, _, _, [], _, [], hW', trodAll_mk1 (shut_bool Try.underlying4 _), (trodAll_cons_mk (Below.trod laidOut (by kernel_rfl) (of_decide_eq_true (by kernel_rfl)) k0 bel lt0) (trodAll_cons_mk (Below.trod laidOut (by kernel_rfl) (of_decide_eq_true (by kernel_rfl)) k1 bel lt1) trodAll_mk0)), rfl, bel.frame _, fun h => by cases h⟩
theorem over : Rows.oftenMemoryRow.holds Try.pinned (OpenSpec.ofChange Rows.oftenMemorySpec) :=
  OpenClaim.holds_of_wide 3 Try.f3 rfl rfl rfl rfl rfl rfl rfl ⟨rfl, rfl, rfl, rfl, rfl⟩ rfl rfl rfl rfl rfl (by kernel_rfl) Try.func3 (by kernel_rfl)
    (of_decide_eq_true (by kernel_rfl)) (by unfold Func.isWrapper; first | (rw [if_pos (by decide +kernel)]; kernel_rfl) | (rw [if_neg (by decide +kernel)]; exact ⟨rfl, rfl⟩))
    (fun os started H enc _ => lifted os started H enc)
end Go.Proofs.Ytaaocppaepnhbaa.oftenMemoryDone
namespace Go.Proofs.Ytaaocppaepnhbaa
theorem oftenMemoryProved : Rows.OftenMemorySaid := oftenMemoryDone.over
end Go.Proofs.Ytaaocppaepnhbaa
