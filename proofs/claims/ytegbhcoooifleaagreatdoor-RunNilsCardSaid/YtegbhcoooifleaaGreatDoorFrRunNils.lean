/- Rows.RunNilsSaid: for every input the call returns true, and each argument reads behind it as it read before. Own work; no condition beyond the given row. -/
import Derived.Test.YtegbhcoooifleaaGreatDoorRows
import Derived.Test.YtegbhcoooifleaaGreatDoorRd
import Derived.Test.YtegbhcoooifleaaGreatDoorCards
import Derived.Test.YtegbhcoooifleaaGreatDoorTie
import Derived.Deep.DeepHandedRow
import Derived.Lib.LaidTab
import Derived.SevenTiedAt
import Derived.Test.YtegbhcoooifleaaGreatDoorRn2
import Derived.Test.YtegbhcoooifleaaGreatDoorRj5
import Derived.Test.YtegbhcoooifleaaGreatDoorRj6
import Derived.Test.YtegbhcoooifleaaGreatDoorRj7
import Derived.SizedLaws
import Derived.WalkKit
import Derived.ProofKit
import Derived.OpenShut
import Derived.ShutString
import Derived.ChangeOld
import Derived.Below
namespace Go.Proofs.YtegbhcoooifleaaGreatDoor.runNilsDone
open Go Go.ChangeShapes Go.WideShapes Go.ChangeAt Go.RowKit Go.Proofs.YtegbhcoooifleaaGreatDoor
set_option linter.unusedVariables false
theorem own : ownKnob Tryz.prog.godebug = none := by kernel_rfl
theorem laidOut : laidOutB Tryz.prog = true := by kernel_rfl
theorem plain : plainSet Tryz.prog [28,3,9,22,111,86,23,24,120,4,25,223,26,2] = true := by kernel_rfl
set_option maxRecDepth 100000 in
theorem walk (v0 : Value) (W : World) (h0 : ∃ n x, RP (memOf W) x v0 ∧ FitsA Tryz.prog n 28 x) : Calls Tryz.prog 3 #[v0] W fun e w' => e = .returned (.bool true) ∧ Below W.heap.size W w' := by
  obtain ⟨n0, x0, r0, f0⟩ := h0
  exact nils_law r0 f0
set_option maxRecDepth 100000 in
def lit1 : DataW Unit → Value
  | .lit (.int k n) => .int k n
  | _ => undef
def one : DataW Unit → Array Value
  | .agg l => (l.map lit1).toArray
  | _ => #[]
def inner : DataW Unit → List Value
  | .agg m => m.map lit1
  | _ => []
def two : DataW Unit → Array Value
  | .agg l => (l.flatMap inner).toArray
  | _ => #[]
def setC (cs : Array Value) : Obj → Obj
  | .cells _ t fz => .cells cs t fz
  | o => o
/-- A world for the witness: the listed variables hold what is laid. -/
noncomputable def laidWorld (os : Os) : World :=
  { World.holding Tryz.prog os ⟨#[], #[], []⟩ with heap := (Array.modify (Array.modify (World.holding Tryz.prog os ⟨#[], #[], []⟩).heap 1 (setC (one Rows.laid_unicode_utf8_first))) 2 (setC (two Rows.laid_unicode_utf8_acceptRanges))) }
theorem laid_met (os : Os) : laidMet Tryz.prog Rows.runNilsRow.laid ((laidWorld os).forCall (fun _ _ => 0) ⟨#[], #[.agg #[(.int .i64 0), (.string ⟨#[]⟩), (.slice none 0 0), (.slice none 0 0), (.slice none 0 0), (.slice none 0 0), (.int .i64 0), (.int .i64 0), (.int .i64 0), (.int .i64 0), (.slice none 0 0)]], []⟩).memory :=
  laidMet_of_run' 8 (by kernel_rfl) (by kernel_rfl)
theorem reads (os : Os) {H : Type} (enc : TypeId × Value → H) : ∃ places, DataW.whole enc Tryz.prog ((laidWorld os).forCall (fun _ _ => 0) ⟨#[], #[.agg #[(.int .i64 0), (.string ⟨#[]⟩), (.slice none 0 0), (.slice none 0 0), (.slice none 0 0), (.slice none 0 0), (.int .i64 0), (.int .i64 0), (.int .i64 0), (.int .i64 0), (.slice none 0 0)]], []⟩).memory Tryz.f3.params.toList Rows.runNilsSpec.vars false (#[.agg #[(.int .i64 0), (.string ⟨#[]⟩), (.slice none 0 0), (.slice none 0 0), (.slice none 0 0), (.slice none 0 0), (.int .i64 0), (.int .i64 0), (.int .i64 0), (.int .i64 0), (.slice none 0 0)]] : Array Value).toList 8 = some ([.agg [.lit (.int .i64 0), .lit (.string []), .nil, .nil, .nil, .nil, .lit (.int .i64 0), .lit (.int .i64 0), .lit (.int .i64 0), .lit (.int .i64 0), .nil]], [], places) :=
  ⟨[], by kernel_rfl⟩
set_option maxRecDepth 100000 in
theorem lifted (os : Os) (started : os.Started) (H : Type) (enc : TypeId × Value → H) (F : Stop.Interp) :
    ReturnsInHanded {} Tryz.checked os 3 .any ((OpenSpec.ofChange Rows.runNilsSpec).preRow enc Tryz.prog Tryz.f3 Rows.runNilsRow.domain false Rows.runNilsRow.laid) (((OpenSpec.ofChange Rows.runNilsSpec).at F).post enc Tryz.prog Tryz.f3 false true false false) := by
  obtain ⟨places, hx⟩ := reads os enc
  refine returnsInHanded_of_row (C := Tryz.checked) (s := (OpenSpec.ofChange Rows.runNilsSpec)) own started (by kernel_rfl) Tryz.func3
    (witness_row_at (enc := enc) (C := Tryz.checked) false (laidWorld os) #[.agg #[(.int .i64 0), (.string ⟨#[]⟩), (.slice none 0 0), (.slice none 0 0), (.slice none 0 0), (.slice none 0 0), (.int .i64 0), (.int .i64 0), (.int .i64 0), (.int .i64 0), (.slice none 0 0)]] rfl (by kernel_rfl) (by kernel_rfl) (by kernel_rfl)
      (OpenSpec.preRow_of_cond 8 hx (by kernel_rfl) (fun k hk => by cases hk) (by kernel_rfl) (laid_met os))) ?_
  intro W base args ds gs before hval0 hW hcnd hcond hsz0 hL _ _
  have hval : ∀ (j : Nat) t v, Tryz.f3.params[j]? = some t → args[j]? = some v → Value.okWide Tryz.prog W .any base t v := hval0
  have hW' := hW
  have hsz : ∀ x ∈ DataW.weightsEach Tryz.prog (Tryz.f3.params.toList ++ []) (ds ++ gs), x ≤ reachBytes := by have h : (DataW.weightsEach Tryz.prog (Tryz.f3.params.toList ++ []) (ds ++ gs)).all (· ≤ reachBytes) = true := hsz0; simpa using h
  obtain ⟨p, q, hA0, hV, rfl, hfz, hnd⟩ := hW
  have hA : DataW.TrodAll enc Tryz.prog W 0 (fun _ => true) true Tryz.f3.params.toList args.toList ds p := hA0
  rw [Tryz.params3] at hA hval
  obtain ⟨v0, vs0, d0, ds0, p0, q0, hargs, rfl, rfl, h0, r0⟩ := trodAll_cons hA
  obtain ⟨rfl, rfl, rfl⟩ := trodAll_nil r0
  obtain rfl : args = #[v0] := by cases args; simp_all
  obtain ⟨rfl, rfl⟩ := trodVars_none hV
  have k0 := h0
  have lt0 : ∀ x ∈ p0, x.block < W.heap.size := by obtain ⟨m, hm⟩ := k0; exact DataW.trod_lt m _ _ _ hm
  have a0 := read_arg plain (t := 28) (by decide) (hval 0 28 v0 rfl rfl) h0 (weights_at hsz 0 28 d0 rfl rfl)
  clear hA0 hval0
  refine (walk v0 W a0).mono fun e W' ⟨he, bel⟩ => ?_
  subst he
  exact ⟨_, rfl, _, _, _, [], _, [], hW', trodAll_mk1 (shut_bool Tryz.underlying4 _), (trodAll_cons_mk (Below.trod laidOut (by kernel_rfl) (of_decide_eq_true (by kernel_rfl)) k0 bel lt0) trodAll_mk0), rfl, bel.frame _, fun h => by cases h⟩
theorem over : Rows.runNilsRow.holds Tryz.pinned (OpenSpec.ofChange Rows.runNilsSpec) :=
  OpenClaim.holds_of_cond 3 Tryz.f3 rfl rfl rfl rfl rfl rfl rfl ⟨rfl, rfl, rfl, rfl, rfl⟩ rfl rfl rfl rfl rfl rowN Tryz.func3 jfacts
    (of_decide_eq_true (by kernel_rfl)) (by unfold Func.isWrapper; first | (rw [if_pos (by decide +kernel)]; kernel_rfl) | (rw [if_neg (by decide +kernel)]; exact ⟨rfl, rfl⟩))
    (fun os started H enc _ F => by rw [OpenClaim.pre_eq_preRow]; exact lifted os started H enc F)
theorem noStand (f : FuncId) (fn : Func) (hf : Tryz.pinned.checked.prog.funcNamed "tallyhouse/tallylaw.RunNils" = some f) (hfn : Tryz.pinned.checked.prog.funcs[f]? = some fn) :
    true = Tryz.pinned.checked.prog.looks [] ∧ ∀ (j : Nat) t, fn.params[j]? = some t → Tryz.pinned.checked.prog.wantsStandIn t = false := by
  obtain rfl : f = 3 := Option.some.inj ((show Tryz.prog.funcNamed "tallyhouse/tallylaw.RunNils" = some 3 by kernel_rfl).symm.trans hf) |>.symm
  obtain rfl : fn = Tryz.f3 := (Option.some.inj (Tryz.func3.symm.trans hfn)).symm
  refine ⟨by kernel_rfl, fun j t ht => ?_⟩
  rw [Tryz.params3] at ht
  have hm := Array.mem_of_getElem? ht
  simp only [List.mem_toArray, List.mem_cons, List.not_mem_nil, or_false] at hm
  rcases hm with rfl <;> first | exact (show Tryz.prog.wantsStandIn 28 = false by kernel_rfl)
theorem card : Rows.RunNilsCardSaid :=
  Claim7.holds_tied_plain_at .later [] _ _ _ _ over (fun _ h => by cases h) cardW (fun _ h => by cases h) runNils_row_tie rfl ⟨rfl, rfl⟩ (by kernel_rfl) rfl noStand cardG
end Go.Proofs.YtegbhcoooifleaaGreatDoor.runNilsDone
namespace Go.Proofs.YtegbhcoooifleaaGreatDoor
theorem runNilsProved : Rows.RunNilsCardSaid := runNilsDone.card
end Go.Proofs.YtegbhcoooifleaaGreatDoor
