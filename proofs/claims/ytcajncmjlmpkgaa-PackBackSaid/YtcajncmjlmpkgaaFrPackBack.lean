/- Rows.PackBackSaid: for every input the call returns true, and each argument reads behind it as it read before. Own work; no condition beyond the given row. -/
import Derived.Test.YtcajncmjlmpkgaaRows
import Derived.Test.YtcajncmjlmpkgaaPc52
import Derived.SizedLaws
import Derived.WalkKit
import Derived.ProofKit
import Derived.OpenShut
import Derived.ShutString
import Derived.ChangeOld
import Derived.Below
namespace Go.Proofs.Ytcajncmjlmpkgaa.packBackDone
open Go Go.ChangeShapes Go.WideShapes Go.ChangeAt Go.RowKit Go.Proofs.Ytcajncmjlmpkgaa
set_option linter.unusedVariables false
theorem own : ownKnob Try.prog.godebug = none := by kernel_rfl
theorem laidOut : laidOutB Try.prog = true := by kernel_rfl
theorem plain : plainSet Try.prog [24,22,3,2,9,4] = true := by kernel_rfl
set_option maxRecDepth 100000 in
theorem walk (v0 : Value) (v1 : Value) (v2 : Value) (v3 : Value) (v4 : Value) (W : World) (h0 : ∃ n x, RP (memOf W) x v0 ∧ FitsA Try.prog n 3 x) (h1 : ∃ n x, RP (memOf W) x v1 ∧ FitsA Try.prog n 22 x) (h2 : ∃ n x, RP (memOf W) x v2 ∧ FitsA Try.prog n 3 x) (h3 : ∃ n x, RP (memOf W) x v3 ∧ FitsA Try.prog n 3 x) (h4 : ∃ n x, RP (memOf W) x v4 ∧ FitsA Try.prog n 24 x) : Calls Try.prog 3 #[v0, v1, v2, v3, v4] W fun e w' => e = .returned (.bool true) ∧ Below W.heap.size W w' := by
  obtain ⟨n0, x0, r0, f0⟩ := h0
  obtain ⟨n1, x1, r1, f1⟩ := h1
  obtain ⟨n2, x2, r2, f2⟩ := h2
  obtain ⟨n3, x3, r3, f3⟩ := h3
  obtain ⟨n4, x4, r4, f4⟩ := h4
  exact law_walk (vals := [v0, v1, v2, v3, v4]) c3 (packBack_law f0 f1 f2 f3 f4) ((RL.one r0) |>.append (RL.one r1) |>.append (RL.one r2) |>.append (RL.one r3) |>.append (RL.one r4))
set_option maxRecDepth 100000 in
theorem lifted (os : Os) (started : os.Started) (H : Type) (enc : TypeId × Value → H) :
    ReturnsInHanded {} Try.checked os 3 .any (Rows.packBackSpec.pre6 enc Try.prog Try.f3 Rows.packBackRow.domain false) (Rows.packBackSpec.post enc Try.prog Try.f3 false true false false) := by
  refine returnsInHanded_of_change_sized (C := Try.checked) own started (by kernel_rfl) Try.func3
    (ChangeSpec.witness6 (enc := enc) (C := Try.checked) false ⟨#[], #[.int .i64 0, .slice none 0 0, .int .i64 0, .int .i64 0, .agg #[(.int .i64 0), (.int .i64 0), (.string ⟨#[]⟩)]], []⟩ 8 (by kernel_rfl) (by kernel_rfl) (by kernel_rfl) (by kernel_rfl)) ?_
  intro W base args ds gs before hval0 hW hcnd hsz0 _
  have hval : ∀ (j : Nat) t v, Try.f3.params[j]? = some t → args[j]? = some v → Value.okWide Try.prog W .any base t v := hval0
  have hW' := hW
  have hsz : ∀ x ∈ DataW.weightsEach Try.prog (Try.f3.params.toList ++ []) (ds ++ gs), x ≤ reachBytes := by have h : (DataW.weightsEach Try.prog (Try.f3.params.toList ++ []) (ds ++ gs)).all (· ≤ reachBytes) = true := hsz0; simpa using h
  obtain ⟨p, q, hA0, hV, rfl, hfz, hnd⟩ := hW
  have hA : DataW.TrodAll enc Try.prog W 0 (fun _ => true) true Try.f3.params.toList args.toList ds p := hA0
  rw [Try.params3] at hA hval
  obtain ⟨v0, vs0, d0, ds0, p0, q0, hargs, rfl, rfl, h0, r0⟩ := trodAll_cons hA
  obtain ⟨v1, vs1, d1, ds1, p1, q1, rfl, rfl, rfl, h1, r1⟩ := trodAll_cons r0
  obtain ⟨v2, vs2, d2, ds2, p2, q2, rfl, rfl, rfl, h2, r2⟩ := trodAll_cons r1
  obtain ⟨v3, vs3, d3, ds3, p3, q3, rfl, rfl, rfl, h3, r3⟩ := trodAll_cons r2
  obtain ⟨v4, vs4, d4, ds4, p4, q4, rfl, rfl, rfl, h4, r4⟩ := trodAll_cons r3
  obtain ⟨rfl, rfl, rfl⟩ := trodAll_nil r4
  obtain rfl : args = #[v0, v1, v2, v3, v4] := by cases args; simp_all
  obtain ⟨rfl, rfl⟩ := trodVars_none hV
  have k0 := h0
  have lt0 : ∀ x ∈ p0, x.block < W.heap.size := by obtain ⟨m, hm⟩ := k0; exact DataW.trod_lt m _ _ _ hm
  have a0 := read_arg plain (t := 3) (by decide) (hval 0 3 v0 rfl rfl) h0 (weights_at hsz 0 3 d0 rfl rfl)
  have k1 := h1
  have lt1 : ∀ x ∈ p1, x.block < W.heap.size := by obtain ⟨m, hm⟩ := k1; exact DataW.trod_lt m _ _ _ hm
  have a1 := read_arg plain (t := 22) (by decide) (hval 1 22 v1 rfl rfl) h1 (weights_at hsz 1 22 d1 rfl rfl)
  have k2 := h2
  have lt2 : ∀ x ∈ p2, x.block < W.heap.size := by obtain ⟨m, hm⟩ := k2; exact DataW.trod_lt m _ _ _ hm
  have a2 := read_arg plain (t := 3) (by decide) (hval 2 3 v2 rfl rfl) h2 (weights_at hsz 2 3 d2 rfl rfl)
  have k3 := h3
  have lt3 : ∀ x ∈ p3, x.block < W.heap.size := by obtain ⟨m, hm⟩ := k3; exact DataW.trod_lt m _ _ _ hm
  have a3 := read_arg plain (t := 3) (by decide) (hval 3 3 v3 rfl rfl) h3 (weights_at hsz 3 3 d3 rfl rfl)
  have k4 := h4
  have lt4 : ∀ x ∈ p4, x.block < W.heap.size := by obtain ⟨m, hm⟩ := k4; exact DataW.trod_lt m _ _ _ hm
  have a4 := read_arg plain (t := 24) (by decide) (hval 4 24 v4 rfl rfl) h4 (weights_at hsz 4 24 d4 rfl rfl)
  clear hA0 hval0
  refine (walk v0 v1 v2 v3 v4 W a0 a1 a2 a3 a4).mono fun e W' ⟨he, bel⟩ => ?_
  subst he
  exact ⟨_, rfl, _, _, _, [], _, [], hW', trodAll_mk1 (shut_bool Try.underlying4 _), (trodAll_cons_mk (Below.trod laidOut (by kernel_rfl) (of_decide_eq_true (by kernel_rfl)) k0 bel lt0) (trodAll_cons_mk (Below.trod laidOut (by kernel_rfl) (of_decide_eq_true (by kernel_rfl)) k1 bel lt1) (trodAll_cons_mk (Below.trod laidOut (by kernel_rfl) (of_decide_eq_true (by kernel_rfl)) k2 bel lt2) (trodAll_cons_mk (Below.trod laidOut (by kernel_rfl) (of_decide_eq_true (by kernel_rfl)) k3 bel lt3) (trodAll_cons_mk (Below.trod laidOut (by kernel_rfl) (of_decide_eq_true (by kernel_rfl)) k4 bel lt4) trodAll_mk0))))), rfl, bel.frame _, fun h => by cases h⟩
theorem over : Rows.packBackRow.holds Try.pinned (OpenSpec.ofChange Rows.packBackSpec) :=
  OpenClaim.holds_of_wide 3 Try.f3 rfl rfl rfl rfl rfl rfl rfl ⟨rfl, rfl, rfl, rfl, rfl⟩ rfl rfl rfl rfl rfl (by kernel_rfl) Try.func3 (by kernel_rfl)
    (of_decide_eq_true (by kernel_rfl)) (by unfold Func.isWrapper; first | (rw [if_pos (by decide +kernel)]; kernel_rfl) | (rw [if_neg (by decide +kernel)]; exact ⟨rfl, rfl⟩))
    (fun os started H enc _ => lifted os started H enc)
end Go.Proofs.Ytcajncmjlmpkgaa.packBackDone
namespace Go.Proofs.Ytcajncmjlmpkgaa
theorem packBackProved : Rows.PackBackSaid := packBackDone.over
end Go.Proofs.Ytcajncmjlmpkgaa
