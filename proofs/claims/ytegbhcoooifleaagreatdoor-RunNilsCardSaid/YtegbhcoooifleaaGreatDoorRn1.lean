/- RunNils: the walk. Own work; no condition. -/
import Derived.WalkKit
import Derived.ProofKit
import Derived.WalkSpells
import Derived.WalkLawsBesides
import Derived.LoopTactic
import Derived.Deep.LoopGhost
import Derived.Below
import Derived.Test.YtegbhcoooifleaaGreatDoorChecked
namespace Go.Proofs.YtegbhcoooifleaaGreatDoor
open Go Go.RowKit Go.Lib

set_option maxRecDepth 100000 in
theorem new_w (w : World) : Calls Tryz.prog 5 #[.int .i64 0, .int .i64 0] w fun e w' => e = .returned (.pointer (some ⟨w.heap.size, 0, none⟩)) ∧ w' = w.alloc (.cells #[.int .i64 0, .int .i64 0, .int .i64 0, .slice none 0 0, .int .i64 0, .bool false, .int .i64 0, .int .i64 0, .bool false, .slice none 0 0, .slice none 0 0] 39) := by
  go_enter Tryz.func5, Tryz.ntmps5
  go_wp2
  go_ret
  exact ⟨rfl, rfl⟩
set_option maxRecDepth 100000 in
theorem shelved_w (w : World) : Calls Tryz.prog 4 #[.slice none 0 0, .int .i64 1] w fun e w' => e = .returned (.pointer (some ⟨w.heap.size, 0, none⟩)) ∧ w' = w.alloc (.cells #[.slice none 0 0, .slice none 0 0, .slice none 0 0, .int .i64 0, .int .i64 0, .slice none 0 0, .bool false, .bool false] 45) := by
  go_enter Tryz.func4, Tryz.ntmps4
  go_wp2
  refine wp_loop_rounds 1 ?_
  rw [rounds_succ]
  go_wp2
  go_ret
  exact ⟨rfl, rfl⟩
theorem e1 (x : Value) : ∀ w, (binOp .eql 61 (.iface 29 x) .nilIface).run Tryz.prog w = .ok (.bool false) w := fun _ => by kernel_rfl
theorem e2 (x : Value) : ∀ w, (binOp .eql 63 (.iface 31 x) .nilIface).run Tryz.prog w = .ok (.bool false) w := fun _ => by kernel_rfl
theorem e3 (x : Value) : ∀ w, (binOp .eql 65 (.iface 31 x) .nilIface).run Tryz.prog w = .ok (.bool false) w := fun _ => by kernel_rfl
theorem n1 : ∀ w, (binOp .eql 61 .nilIface .nilIface).run Tryz.prog w = .ok (.bool true) w := fun _ => by kernel_rfl
theorem n2 : ∀ w, (binOp .eql 63 .nilIface .nilIface).run Tryz.prog w = .ok (.bool true) w := fun _ => by kernel_rfl
theorem n3 : ∀ w, (binOp .eql 65 .nilIface .nilIface).run Tryz.prog w = .ok (.bool true) w := fun _ => by kernel_rfl
set_option maxRecDepth 100000 in
theorem run_1 (n0 n6 n7 n8 n9 : Int) (s1 : ByteArray) (p2 p3 p4 p5 p10 : Option Addr) (l2 l3 l4 l5 l10 c2 c3 c4 c5 c10 : Nat) (r o : Value) (w : World) :
    Calls Tryz.prog 6 #[.agg #[.int .i64 n0, .string s1, .slice p2 l2 c2, .slice p3 l3 c3, .slice p4 l4 c4, .slice p5 l5 c5, .int .i64 n6, .int .i64 n7, .int .i64 n8, .int .i64 n9, .slice p10 l10 c10], .nilIface, .int .i64 9, .int .i64 9, r, o] w fun e w' => e = .returned (.int .i64 1) ∧ w' = w.alloc (.cells #[.int .i64 n0, .string s1, .slice p2 l2 c2, .slice p3 l3 c3, .slice p4 l4 c4, .slice p5 l5 c5, .int .i64 n6, .int .i64 n7, .int .i64 n8, .int .i64 n9, .slice p10 l10 c10] 28) := by
  have h1 := n1
  go_enter Tryz.func6, Tryz.ntmps6
  go_wp2
  go_ret
  exact ⟨rfl, rfl⟩
set_option maxRecDepth 100000 in
theorem run_2 (n0 n6 n7 n8 n9 : Int) (s1 : ByteArray) (p2 p3 p4 p5 p10 : Option Addr) (l2 l3 l4 l5 l10 c2 c3 c4 c5 c10 : Nat) (x o : Value) (w : World) :
    Calls Tryz.prog 6 #[.agg #[.int .i64 n0, .string s1, .slice p2 l2 c2, .slice p3 l3 c3, .slice p4 l4 c4, .slice p5 l5 c5, .int .i64 n6, .int .i64 n7, .int .i64 n8, .int .i64 n9, .slice p10 l10 c10], .iface 29 x, .int .i64 9, .int .i64 9, .nilIface, o] w fun e w' => e = .returned (.int .i64 1) ∧ w' = w.alloc (.cells #[.int .i64 n0, .string s1, .slice p2 l2 c2, .slice p3 l3 c3, .slice p4 l4 c4, .slice p5 l5 c5, .int .i64 n6, .int .i64 n7, .int .i64 n8, .int .i64 n9, .slice p10 l10 c10] 28) := by
  have h1 := e1
  have h2 := n2
  go_enter Tryz.func6, Tryz.ntmps6
  go_wp2
  go_ret
  exact ⟨rfl, rfl⟩
set_option maxRecDepth 100000 in
theorem run_3 (n0 n6 n7 n8 n9 : Int) (s1 : ByteArray) (p2 p3 p4 p5 p10 : Option Addr) (l2 l3 l4 l5 l10 c2 c3 c4 c5 c10 : Nat) (x y : Value) (w : World) :
    Calls Tryz.prog 6 #[.agg #[.int .i64 n0, .string s1, .slice p2 l2 c2, .slice p3 l3 c3, .slice p4 l4 c4, .slice p5 l5 c5, .int .i64 n6, .int .i64 n7, .int .i64 n8, .int .i64 n9, .slice p10 l10 c10], .iface 29 x, .int .i64 9, .int .i64 9, .iface 31 y, .nilIface] w fun e w' => e = .returned (.int .i64 1) ∧ w' = w.alloc (.cells #[.int .i64 n0, .string s1, .slice p2 l2 c2, .slice p3 l3 c3, .slice p4 l4 c4, .slice p5 l5 c5, .int .i64 n6, .int .i64 n7, .int .i64 n8, .int .i64 n9, .slice p10 l10 c10] 28) := by
  have h1 := e1
  have h2 := e2
  have h3 := n3
  go_enter Tryz.func6, Tryz.ntmps6
  go_wp2
  go_ret
  exact ⟨rfl, rfl⟩
set_option maxRecDepth 100000 in
set_option maxHeartbeats 4000000 in
theorem nils_w (n0 n6 n7 n8 n9 : Int) (s1 : ByteArray) (p2 p3 p4 p5 p10 : Option Addr) (l2 l3 l4 l5 l10 c2 c3 c4 c5 c10 : Nat) (w : World) :
    Calls Tryz.prog 3 #[.agg #[.int .i64 n0, .string s1, .slice p2 l2 c2, .slice p3 l3 c3, .slice p4 l4 c4, .slice p5 l5 c5, .int .i64 n6, .int .i64 n7, .int .i64 n8, .int .i64 n9, .slice p10 l10 c10]] w fun e w' => e = .returned (.bool true) ∧ Below w.heap.size w w' := by
  go_enter Tryz.func3, Tryz.ntmps3
  go_wp2_with (first | (go_at_call 4; (with_reducible refine (shelved_w _).mono ?_); rintro e w' ⟨rfl, rfl⟩) | (go_at_call 5; (with_reducible refine (new_w _).mono ?_); rintro e w' ⟨rfl, rfl⟩))
  ((with_reducible refine (run_1 n0 n6 n7 n8 n9 s1 p2 p3 p4 p5 p10 l2 l3 l4 l5 l10 c2 c3 c4 c5 c10 _ _ _).mono ?_); rintro e w' ⟨rfl, rfl⟩)
  go_wp2_with fail
  ((with_reducible refine (run_2 n0 n6 n7 n8 n9 s1 p2 p3 p4 p5 p10 l2 l3 l4 l5 l10 c2 c3 c4 c5 c10 _ _ _).mono ?_); rintro e w' ⟨rfl, rfl⟩)
  go_wp2_with fail
  ((with_reducible refine (run_3 n0 n6 n7 n8 n9 s1 p2 p3 p4 p5 p10 l2 l3 l4 l5 l10 c2 c3 c4 c5 c10 _ _ _).mono ?_); rintro e w' ⟨rfl, rfl⟩)
  go_wp2
  go_ret
  refine ⟨rfl, ?_⟩
  repeat (first | exact Below.refl _ _ | refine Below.alloc ?_ (by simp; try omega) _)
end Go.Proofs.YtegbhcoooifleaaGreatDoor
