/- Rows.CellKeysUptoSaid: for every input the call returns true, and each argument reads behind it as it read before. Own work; no condition beyond the given row. -/
import Derived.Test.YtnhmnfokbinplaaDoorRows
import Derived.Test.YtnhmnfokbinplaaDoorRdU
import Derived.Test.YtnhmnfokbinplaaDoorCards
import Derived.Test.YtnhmnfokbinplaaDoorTie
import Derived.Deep.DeepHandedRow
import Derived.Lib.LaidTab
import Derived.SevenTiedAt
import Derived.Test.YtnhmnfokbinplaaDoorKb47
import Derived.SizedLaws
import Derived.WalkKit
import Derived.ProofKit
import Derived.OpenShut
import Derived.ShutString
import Derived.ChangeOld
import Derived.Below
namespace Go.Proofs.YtnhmnfokbinplaaDoor.cellKeysDone
open Go Go.ChangeShapes Go.WideShapes Go.ChangeAt Go.RowKit Go.Proofs.YtnhmnfokbinplaaDoor
set_option linter.unusedVariables false
theorem own : ownKnob Tryd.prog.godebug = none := by kernel_rfl
theorem laidOut : laidOutB Tryd.prog = true := by kernel_rfl
theorem plain : plainSet Tryd.prog [22,33,3,2,9] = true := by kernel_rfl
set_option maxRecDepth 100000 in
theorem walk (v0 : Value) (v1 : Value) (W : World) (h0 : ∃ n x, RP (memOf W) x v0 ∧ FitsA Tryd.prog n 22 x ∧ bk x ≤ 1048577) (h1 : ∃ n x, RP (memOf W) x v1 ∧ FitsA Tryd.prog n 22 x ∧ bk x ≤ 1048577) : Calls Tryd.prog 4 #[v0, v1] W fun e w' => e = .returned (.bool true) ∧ Below W.heap.size W w' := by
  obtain ⟨n0, x0, r0, f0, b0⟩ := h0
  obtain ⟨n1, x1, r1, f1, b1⟩ := h1
  exact law_walk (vals := [v0, v1]) c4 (cellKeys_law f0 f1 b0 b1) ((RL.one r0) |>.append (RL.one r1))
set_option maxRecDepth 100000 in
def lit1 : DataW Unit → Value
  | .lit (.int k n) => .int k n
  | _ => undef
def one : DataW Unit → Array Value
  | .agg l => (l.map lit1).toArray
  | _ => #[]
def inner : DataW Unit → List Value
  | .agg m => m.map lit1
  | _ => []
def two : DataW Unit → Array Value
  | .agg l => (l.flatMap inner).toArray
  | _ => #[]
def setC (cs : Array Value) : Obj → Obj
  | .cells _ t fz => .cells cs t fz
  | o => o
/-- A world for the witness: the listed variables hold what is laid. -/
noncomputable def laidWorld (os : Os) : World :=
  { World.holding Tryd.prog os ⟨#[], #[], []⟩ with heap := (Array.modify (Array.modify (World.holding Tryd.prog os ⟨#[], #[], []⟩).heap 1 (setC (one Rows.laid_unicode_utf8_first))) 2 (setC (two Rows.laid_unicode_utf8_acceptRanges))) }
theorem laid_met (os : Os) : laidMet Tryd.prog Rows.cellKeysUptoRow.laid ((laidWorld os).forCall (fun _ _ => 0) ⟨#[], #[.slice none 0 0, .slice none 0 0], []⟩).memory :=
  laidMet_of_run' 8 (by kernel_rfl) (by kernel_rfl)
theorem reads (os : Os) {H : Type} (enc : TypeId × Value → H) : ∃ places, DataW.whole enc Tryd.prog ((laidWorld os).forCall (fun _ _ => 0) ⟨#[], #[.slice none 0 0, .slice none 0 0], []⟩).memory Tryd.f4.params.toList Rows.cellKeysSpec.vars false (#[.slice none 0 0, .slice none 0 0] : Array Value).toList 8 = some ([.nil, .nil], [], places) :=
  ⟨[], by kernel_rfl⟩
set_option maxRecDepth 100000 in
theorem lifted (os : Os) (started : os.Started) (H : Type) (enc : TypeId × Value → H) (F : Stop.Interp) :
    ReturnsInHanded {} Tryd.checked os 4 .any ((Rows.OpenSpec.upto Rows.cellKeysSpec).preRow enc Tryd.prog Tryd.f4 Rows.cellKeysUptoRow.domain false Rows.cellKeysUptoRow.laid) (((Rows.OpenSpec.upto Rows.cellKeysSpec).at F).post enc Tryd.prog Tryd.f4 false true false false) := by
  obtain ⟨places, hx⟩ := reads os enc
  refine returnsInHanded_of_row (C := Tryd.checked) (s := (Rows.OpenSpec.upto Rows.cellKeysSpec)) own started (by kernel_rfl) Tryd.func4
    (witness_row_at (enc := enc) (C := Tryd.checked) false (laidWorld os) #[.slice none 0 0, .slice none 0 0] rfl (by kernel_rfl) (by kernel_rfl) (by kernel_rfl)
      (OpenSpec.preRow_of_cond 8 hx (by kernel_rfl) (fun k hk => by cases hk; kernel_rfl) (by kernel_rfl) (laid_met os))) ?_
  intro W base args ds gs before hval0 hW hcnd hcond hsz0 hL _ _
  have hk : Rows.uptoBulkAll (ds ++ gs) ≤ 1048576 := of_decide_eq_true (hcond _ rfl)
  have hval : ∀ (j : Nat) t v, Tryd.f4.params[j]? = some t → args[j]? = some v → Value.okWide Tryd.prog W .any base t v := hval0
  have hW' := hW
  have hsz : ∀ x ∈ DataW.weightsEach Tryd.prog (Tryd.f4.params.toList ++ []) (ds ++ gs), x ≤ reachBytes := by have h : (DataW.weightsEach Tryd.prog (Tryd.f4.params.toList ++ []) (ds ++ gs)).all (· ≤ reachBytes) = true := hsz0; simpa using h
  obtain ⟨p, q, hA0, hV, rfl, hfz, hnd⟩ := hW
  have hA : DataW.TrodAll enc Tryd.prog W 0 (fun _ => true) true Tryd.f4.params.toList args.toList ds p := hA0
  rw [Tryd.params4] at hA hval
  obtain ⟨v0, vs0, d0, ds0, p0, q0, hargs, rfl, rfl, h0, r0⟩ := trodAll_cons hA
  obtain ⟨v1, vs1, d1, ds1, p1, q1, rfl, rfl, rfl, h1, r1⟩ := trodAll_cons r0
  obtain ⟨rfl, rfl, rfl⟩ := trodAll_nil r1
  obtain rfl : args = #[v0, v1] := by cases args; simp_all
  obtain ⟨rfl, rfl⟩ := trodVars_none hV
  simp only [List.append_nil, Rows.uptoBulkAll] at hk
  have k0 := h0
  have lt0 : ∀ x ∈ p0, x.block < W.heap.size := by obtain ⟨m, hm⟩ := k0; exact DataW.trod_lt m _ _ _ hm
  have a0 : ∃ n x, RP (memOf W) x v0 ∧ FitsA Tryd.prog n 22 x ∧ bk x ≤ 1048577 := by
    obtain ⟨n, x, r1, r2, r3⟩ := readU_arg plain (t := 22) (by decide) (hval 0 22 v0 rfl rfl) h0 (weights_at hsz 0 22 d0 rfl rfl)
    exact ⟨n, x, r1, r2, by omega⟩
  have k1 := h1
  have lt1 : ∀ x ∈ p1, x.block < W.heap.size := by obtain ⟨m, hm⟩ := k1; exact DataW.trod_lt m _ _ _ hm
  have a1 : ∃ n x, RP (memOf W) x v1 ∧ FitsA Tryd.prog n 22 x ∧ bk x ≤ 1048577 := by
    obtain ⟨n, x, r1, r2, r3⟩ := readU_arg plain (t := 22) (by decide) (hval 1 22 v1 rfl rfl) h1 (weights_at hsz 1 22 d1 rfl rfl)
    exact ⟨n, x, r1, r2, by omega⟩
  clear hA0 hval0
  refine (walk v0 v1 W a0 a1).mono fun e W' ⟨he, bel⟩ => ?_
  subst he
  exact ⟨_, rfl, _, _, _, [], _, [], hW', trodAll_mk1 (shut_bool Tryd.underlying4 _), (trodAll_cons_mk (Below.trod laidOut (by kernel_rfl) (of_decide_eq_true (by kernel_rfl)) k0 bel lt0) (trodAll_cons_mk (Below.trod laidOut (by kernel_rfl) (of_decide_eq_true (by kernel_rfl)) k1 bel lt1) trodAll_mk0)), rfl, bel.frame _, fun h => by cases h⟩
theorem over : Rows.cellKeysUptoRow.holds Tryd.pinned (Rows.OpenSpec.upto Rows.cellKeysSpec) :=
  OpenClaim.holds_of_cond 4 Tryd.f4 rfl rfl rfl rfl rfl rfl rfl ⟨rfl, rfl, rfl, rfl, rfl⟩ rfl rfl rfl rfl rfl (by kernel_rfl) Tryd.func4 (by kernel_rfl)
    (of_decide_eq_true (by kernel_rfl)) (by unfold Func.isWrapper; first | (rw [if_pos (by decide +kernel)]; kernel_rfl) | (rw [if_neg (by decide +kernel)]; exact ⟨rfl, rfl⟩))
    (fun os started H enc _ F => by rw [OpenClaim.pre_eq_preRow]; exact lifted os started H enc F)
theorem noStand (f : FuncId) (fn : Func) (hf : Tryd.pinned.checked.prog.funcNamed "tallyhouse/tallykeep.CellKeys" = some f) (hfn : Tryd.pinned.checked.prog.funcs[f]? = some fn) :
    false = Tryd.pinned.checked.prog.looks [] ∧ ∀ (j : Nat) t, fn.params[j]? = some t → Tryd.pinned.checked.prog.wantsStandIn t = false := by
  obtain rfl : f = 4 := Option.some.inj ((show Tryd.prog.funcNamed "tallyhouse/tallykeep.CellKeys" = some 4 by kernel_rfl).symm.trans hf) |>.symm
  obtain rfl : fn = Tryd.f4 := (Option.some.inj (Tryd.func4.symm.trans hfn)).symm
  refine ⟨by kernel_rfl, fun j t ht => ?_⟩
  rw [Tryd.params4] at ht
  have hm := Array.mem_of_getElem? ht
  simp only [List.mem_toArray, List.mem_cons, List.not_mem_nil, or_false] at hm
  rcases hm with rfl | rfl <;> first | exact (show Tryd.prog.wantsStandIn 22 = false by kernel_rfl)
theorem card : Rows.CellKeysUptoCardSaid :=
  Claim7.holds_tied_plain_at .later [] _ _ _ _ over (fun _ h => by cases h) (by kernel_rfl) (fun _ h => by cases h) cellKeysUpto_row_tie rfl ⟨rfl, rfl⟩ (by kernel_rfl) rfl noStand (by kernel_rfl)
end Go.Proofs.YtnhmnfokbinplaaDoor.cellKeysDone
namespace Go.Proofs.YtnhmnfokbinplaaDoor
theorem cellKeysProved : Rows.CellKeysUptoCardSaid := cellKeysDone.card
end Go.Proofs.YtnhmnfokbinplaaDoor
