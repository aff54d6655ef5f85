/- RunNils: a plan as it comes in. Own work; no condition. -/
import Derived.Test.YtegbhcoooifleaaGreatDoorRn1
import Derived.Test.YtegbhcoooifleaaGreatDoorRd
namespace Go.Proofs.YtegbhcoooifleaaGreatDoor
open Go Go.RowKit
set_option maxRecDepth 100000

theorem cells28 : Tryz.prog.cellsOf 28 = 11 := by kernel_rfl
theorem cells3 : Tryz.prog.cellsOf 3 = 1 := by kernel_rfl
theorem cells9 : Tryz.prog.cellsOf 9 = 1 := by kernel_rfl
theorem cells22 : Tryz.prog.cellsOf 22 = 1 := by kernel_rfl
theorem cells23 : Tryz.prog.cellsOf 23 = 1 := by kernel_rfl
theorem cells24 : Tryz.prog.cellsOf 24 = 1 := by kernel_rfl
theorem cells25 : Tryz.prog.cellsOf 25 = 1 := by kernel_rfl
theorem cells26 : Tryz.prog.cellsOf 26 = 1 := by kernel_rfl
theorem RP.sl_val {m : Mem} {es : List (List PV)} {v : Value} (h : RP m (.sl es) v) : ∃ p l c, v = .slice p l c := by
  cases h with
  | sl0 a cap hc => exact ⟨_, _, _, rfl⟩
  | sl => exact ⟨_, _, _, rfl⟩
theorem RP.int_val {m : Mem} {k : IntKind} {n : Int} {v : Value} (h : RP m (.int k n) v) : v = .int k n := by cases h; rfl
theorem RP.str_val {m : Mem} {s : ByteArray} {v : Value} (h : RP m (.str s) v) : v = .string s := by cases h; rfl
theorem plan_val {m : Mem} {n : Nat} {x : PV} {v : Value} (r : RP m x v) (f : FitsA Tryz.prog n 28 x) :
    ∃ (n0 n6 n7 n8 n9 : Int) (s1 : ByteArray) (p2 p3 p4 p5 p10 : Option Addr) (l2 l3 l4 l5 l10 c2 c3 c4 c5 c10 : Nat), v = .agg #[.int .i64 n0, .string s1, .slice p2 l2 c2, .slice p3 l3 c3, .slice p4 l4 c4, .slice p5 l5 c5, .int .i64 n6, .int .i64 n7, .int .i64 n8, .int .i64 n9, .slice p10 l10 c10] := by
  obtain ⟨cs, rfl, g⟩ := f.agg Tryz.underlying28
  obtain ⟨k, rfl, hl, hf⟩ := g.struct Tryz.underlying28
  rw [cells28] at hl
  obtain ⟨a0, a1, a2, a3, a4, a5, a6, a7, a8, a9, a10, rfl⟩ : ∃ a0 a1 a2 a3 a4 a5 a6 a7 a8 a9 a10, cs = [a0, a1, a2, a3, a4, a5, a6, a7, a8, a9, a10] := by
    match cs, hl with
    | [a0, a1, a2, a3, a4, a5, a6, a7, a8, a9, a10], _ => exact ⟨a0, a1, a2, a3, a4, a5, a6, a7, a8, a9, a10, rfl⟩
  have fi : ∀ {j : Nat} {a : PV}, Fits Tryz.prog k 3 [a] → ∃ z, a = .int .i64 z := fun {j a} h => by
    obtain ⟨z, e, _⟩ := h.int Tryz.underlying3
    simp only [List.cons.injEq, and_true] at e
    exact ⟨z, e⟩
  have h0 : Fits Tryz.prog k 3 (([a0, a1, a2, a3, a4, a5, a6, a7, a8, a9, a10].drop 0).take (Tryz.prog.cellsOf 3)) := hf 0 _ rfl
  rw [cells3] at h0
  have h1 : Fits Tryz.prog k 9 (([a0, a1, a2, a3, a4, a5, a6, a7, a8, a9, a10].drop 1).take (Tryz.prog.cellsOf 9)) := hf 1 _ rfl
  rw [cells9] at h1
  have h2 : Fits Tryz.prog k 22 (([a0, a1, a2, a3, a4, a5, a6, a7, a8, a9, a10].drop 2).take (Tryz.prog.cellsOf 22)) := hf 2 _ rfl
  rw [cells22] at h2
  have h3 : Fits Tryz.prog k 23 (([a0, a1, a2, a3, a4, a5, a6, a7, a8, a9, a10].drop 3).take (Tryz.prog.cellsOf 23)) := hf 3 _ rfl
  rw [cells23] at h3
  have h4 : Fits Tryz.prog k 24 (([a0, a1, a2, a3, a4, a5, a6, a7, a8, a9, a10].drop 4).take (Tryz.prog.cellsOf 24)) := hf 4 _ rfl
  rw [cells24] at h4
  have h5 : Fits Tryz.prog k 25 (([a0, a1, a2, a3, a4, a5, a6, a7, a8, a9, a10].drop 5).take (Tryz.prog.cellsOf 25)) := hf 5 _ rfl
  rw [cells25] at h5
  have h6 : Fits Tryz.prog k 3 (([a0, a1, a2, a3, a4, a5, a6, a7, a8, a9, a10].drop 6).take (Tryz.prog.cellsOf 3)) := hf 6 _ rfl
  rw [cells3] at h6
  have h7 : Fits Tryz.prog k 3 (([a0, a1, a2, a3, a4, a5, a6, a7, a8, a9, a10].drop 7).take (Tryz.prog.cellsOf 3)) := hf 7 _ rfl
  rw [cells3] at h7
  have h8 : Fits Tryz.prog k 3 (([a0, a1, a2, a3, a4, a5, a6, a7, a8, a9, a10].drop 8).take (Tryz.prog.cellsOf 3)) := hf 8 _ rfl
  rw [cells3] at h8
  have h9 : Fits Tryz.prog k 3 (([a0, a1, a2, a3, a4, a5, a6, a7, a8, a9, a10].drop 9).take (Tryz.prog.cellsOf 3)) := hf 9 _ rfl
  rw [cells3] at h9
  have h10 : Fits Tryz.prog k 26 (([a0, a1, a2, a3, a4, a5, a6, a7, a8, a9, a10].drop 10).take (Tryz.prog.cellsOf 26)) := hf 10 _ rfl
  rw [cells26] at h10
  obtain ⟨z0, rfl⟩ := fi (j := 0) (show Fits Tryz.prog k 3 [a0] from h0)
  obtain ⟨z6, rfl⟩ := fi (j := 0) (show Fits Tryz.prog k 3 [a6] from h6)
  obtain ⟨z7, rfl⟩ := fi (j := 0) (show Fits Tryz.prog k 3 [a7] from h7)
  obtain ⟨z8, rfl⟩ := fi (j := 0) (show Fits Tryz.prog k 3 [a8] from h8)
  obtain ⟨z9, rfl⟩ := fi (j := 0) (show Fits Tryz.prog k 3 [a9] from h9)
  obtain ⟨s, e1, _⟩ := (show Fits Tryz.prog k 9 [a1] from h1).str Tryz.underlying9
  obtain ⟨_, b2, _, e2, _⟩ := (show Fits Tryz.prog k 22 [a2] from h2).slice Tryz.underlying22
  obtain ⟨_, b3, _, e3, _⟩ := (show Fits Tryz.prog k 23 [a3] from h3).slice Tryz.underlying23
  obtain ⟨_, b4, _, e4, _⟩ := (show Fits Tryz.prog k 24 [a4] from h4).slice Tryz.underlying24
  obtain ⟨_, b5, _, e5, _⟩ := (show Fits Tryz.prog k 25 [a5] from h5).slice Tryz.underlying25
  obtain ⟨_, b10, _, e10, _⟩ := (show Fits Tryz.prog k 26 [a10] from h10).slice Tryz.underlying26
  simp only [List.cons.injEq, and_true] at e1 e2 e3 e4 e5 e10
  subst e1 e2 e3 e4 e5 e10
  cases r with
  | agg cs vs hvl hr =>
    obtain ⟨v0, v1, v2, v3, v4, v5, v6, v7, v8, v9, v10, rfl⟩ : ∃ v0 v1 v2 v3 v4 v5 v6 v7 v8 v9 v10, vs = #[v0, v1, v2, v3, v4, v5, v6, v7, v8, v9, v10] := by
      obtain ⟨l⟩ := vs
      match l, hvl with
      | [v0, v1, v2, v3, v4, v5, v6, v7, v8, v9, v10], _ => exact ⟨v0, v1, v2, v3, v4, v5, v6, v7, v8, v9, v10, rfl⟩
    obtain rfl := (hr 0 _ _ rfl rfl).int_val
    obtain rfl := (hr 1 _ _ rfl rfl).str_val
    obtain ⟨p2, l2, c2, rfl⟩ := (hr 2 _ _ rfl rfl).sl_val
    obtain ⟨p3, l3, c3, rfl⟩ := (hr 3 _ _ rfl rfl).sl_val
    obtain ⟨p4, l4, c4, rfl⟩ := (hr 4 _ _ rfl rfl).sl_val
    obtain ⟨p5, l5, c5, rfl⟩ := (hr 5 _ _ rfl rfl).sl_val
    obtain rfl := (hr 6 _ _ rfl rfl).int_val
    obtain rfl := (hr 7 _ _ rfl rfl).int_val
    obtain rfl := (hr 8 _ _ rfl rfl).int_val
    obtain rfl := (hr 9 _ _ rfl rfl).int_val
    obtain ⟨p10, l10, c10, rfl⟩ := (hr 10 _ _ rfl rfl).sl_val
    exact ⟨_, _, _, _, _, _, _, _, _, _, _, _, _, _, _, _, _, _, _, _, _, rfl⟩
theorem nils_law {n : Nat} {x : PV} {v : Value} {W : World} (r : RP (memOf W) x v) (f : FitsA Tryz.prog n 28 x) : Calls Tryz.prog 3 #[v] W fun e w' => e = .returned (.bool true) ∧ Below W.heap.size W w' := by
  obtain ⟨n0, n6, n7, n8, n9, s1, p2, p3, p4, p5, p10, l2, l3, l4, l5, l10, c2, c3, c4, c5, c10, rfl⟩ := plan_val r f
  exact nils_w n0 n6 n7 n8 n9 s1 p2 p3 p4 p5 p10 l2 l3 l4 l5 l10 c2 c3 c4 c5 c10 W
end Go.Proofs.YtegbhcoooifleaaGreatDoor
