/- OftenMemory: the law, of whatever comes in. Own work; no condition. -/
import Derived.Test.YtaaocppaepnhbaaOm5
import Derived.Test.YtaaocppaepnhbaaRd
namespace Go.Proofs.Ytaaocppaepnhbaa
open Go Go.RowKit
set_option maxRecDepth 100000
set_option linter.unusedVariables false
set_option linter.unusedSimpArgs false

theorem c2e : Try.prog.cellsOf 2 = 1 := by kernel_rfl
theorem c3e : Try.prog.cellsOf 3 = 1 := by kernel_rfl
theorem c4e : Try.prog.cellsOf 4 = 1 := by kernel_rfl
theorem c9e : Try.prog.cellsOf 9 = 1 := by kernel_rfl
theorem c28e : Try.prog.cellsOf 28 = 3 := by kernel_rfl
theorem c30e : Try.prog.cellsOf 30 = 7 := by kernel_rfl
theorem rp_int {m : Mem} {k : IntKind} {n : Int} {v : Value} (h : RP m (.int k n) v) : v = .int k n := by cases h; rfl
theorem rp_str {m : Mem} {s : ByteArray} {v : Value} (h : RP m (.str s) v) : v = .string s := by cases h; rfl
theorem rp_bool {m : Mem} {s : Bool} {v : Value} (h : RP m (.bool s) v) : v = .bool s := by cases h; rfl
theorem wf_le {x : Int} (h : (Lit.int .i64 x).wf = true) : -9223372036854775808 ≤ x ∧ x ≤ 9223372036854775807 := by
  simp [Lit.wf, IntKind.min, IntKind.max, IntKind.signed, IntKind.bits] at h
  omega

theorem came_cells {n : Nat} {cs : List PV} (h : Fits Try.prog n 30 cs) : ∃ (v : VK) (x : Int) (mg : Bool) (p q : Int), cs = [.int .i64 v.k, .int .i64 v.n, .str v.s, .int .i64 x, .bool mg, .int .i64 p, .int .i64 q] ∧ v.Ok ∧ (-9223372036854775808 ≤ x ∧ x ≤ 9223372036854775807) ∧ (-9223372036854775808 ≤ p ∧ p ≤ 9223372036854775807) ∧ -9223372036854775808 ≤ q ∧ q ≤ 9223372036854775807 := by
  obtain ⟨m, rfl, hl, hf⟩ := h.struct Try.underlying30
  rw [c30e] at hl
  obtain ⟨a, b, c, d, e, f, g, rfl⟩ : ∃ a b c d e f g, cs = [a, b, c, d, e, f, g] := by
    match cs, hl with
    | [a, b, c, d, e, f, g], _ => exact ⟨a, b, c, d, e, f, g, rfl⟩
  have h0 : Fits Try.prog m 28 (([a, b, c, d, e, f, g].drop 0).take (Try.prog.cellsOf 28)) := hf 0 _ rfl
  have h1 : Fits Try.prog m 2 (([a, b, c, d, e, f, g].drop 3).take (Try.prog.cellsOf 2)) := hf 1 _ rfl
  have h2 : Fits Try.prog m 4 (([a, b, c, d, e, f, g].drop 4).take (Try.prog.cellsOf 4)) := hf 2 _ rfl
  have h3 : Fits Try.prog m 3 (([a, b, c, d, e, f, g].drop 5).take (Try.prog.cellsOf 3)) := hf 3 _ rfl
  have h4 : Fits Try.prog m 3 (([a, b, c, d, e, f, g].drop 6).take (Try.prog.cellsOf 3)) := hf 4 _ rfl
  rw [c28e] at h0
  rw [c2e] at h1
  rw [c4e] at h2
  rw [c3e] at h3 h4
  have h0 : Fits Try.prog m 28 [a, b, c] := h0
  obtain ⟨m', rfl, _, hg⟩ := h0.struct Try.underlying28
  have g0 : Fits Try.prog m' 3 (([a, b, c].drop 0).take (Try.prog.cellsOf 3)) := hg 0 _ rfl
  have g1 : Fits Try.prog m' 2 (([a, b, c].drop 1).take (Try.prog.cellsOf 2)) := hg 1 _ rfl
  have g2 : Fits Try.prog m' 9 (([a, b, c].drop 2).take (Try.prog.cellsOf 9)) := hg 2 _ rfl
  rw [c3e] at g0
  rw [c2e] at g1
  rw [c9e] at g2
  obtain ⟨k1, e0, z0⟩ := (show Fits Try.prog m' 3 [a] from g0).int Try.underlying3
  obtain ⟨k2, e1, z1⟩ := (show Fits Try.prog m' 2 [b] from g1).int Try.underlying2
  obtain ⟨s, e2, z2⟩ := (show Fits Try.prog m' 9 [c] from g2).str Try.underlying9
  obtain ⟨x, e3, w3⟩ := (show Fits Try.prog (m' + 1) 2 [d] from h1).int Try.underlying2
  obtain ⟨mg, e4⟩ := (show Fits Try.prog (m' + 1) 4 [e] from h2).bool Try.underlying4
  obtain ⟨p, e5, w5⟩ := (show Fits Try.prog (m' + 1) 3 [f] from h3).int Try.underlying3
  obtain ⟨q, e6, w6⟩ := (show Fits Try.prog (m' + 1) 3 [g] from h4).int Try.underlying3
  simp only [List.cons.injEq, and_true] at e0 e1 e2 e3 e4 e5 e6
  subst e0 e1 e2 e3 e4 e5 e6
  have w3' := wf_le w3
  have w5' := wf_le w5
  have w6' := wf_le w6
  exact ⟨⟨k1, k2, s⟩, x, mg, p, q, rfl, ⟨z0, z1, Nat.le_trans z2 (by decide)⟩, w3', w5', w6'.1, w6'.2⟩

theorem script_of {W : World} {v : Value} {x : PV} {n : Nat} (r : RP (memOf W) x v) (f : FitsA Try.prog n 22 x) : ∃ k, Script W v k := by
  obtain ⟨m, es, rfl, h1, ⟨h2, h3⟩, h4⟩ := (f.one Try.underlying22 rfl).slice Try.underlying22
  simp only [List.cons.injEq, and_true] at h1
  subst h1
  cases r with
  | sl0 a cap hc => exact ⟨0, ⟨a, cap, rfl, Nat.zero_le _, hc, fun i hi => absurd hi (by omega)⟩⟩
  | sl es size b o len cap vs hlen hcap hmax hsz hm hr =>
    refine ⟨len, ⟨_, cap, rfl, hcap, hmax, fun i hi => ?_⟩⟩
    have hil : i < es.length := by omega
    have he := List.getElem?_eq_getElem hil
    obtain ⟨hl7, hf⟩ := h4 _ (List.getElem_mem hil)
    rw [c30e] at hl7
    have hs7 : size = 7 := by rw [← hsz _ (List.getElem_mem hil), hl7]
    subst hs7
    obtain ⟨qv, x, mg, p, q, hcs, w0, w1, w2, w3, w4⟩ := came_cells hf
    have cell : ∀ j c, [PV.int .i64 qv.k, .int .i64 qv.n, .str qv.s, .int .i64 x, .bool mg, .int .i64 p, .int .i64 q][j]? = some c → ∃ u, W.cell? ⟨b, o + i * 7 + j, none⟩ = some u ∧ RP (memOf W) c u := by
      intro j c hj
      have hj' : es[i][j]? = some c := by rw [hcs]; exact hj
      exact ⟨vs i j, hm i _ j he (List.getElem?_eq_some_iff.1 hj').1, hr i _ j c he hj'⟩
    obtain ⟨u0, c0, r0⟩ := cell 0 _ rfl
    obtain ⟨u1, c1, r1⟩ := cell 1 _ rfl
    obtain ⟨u2, c2, r2⟩ := cell 2 _ rfl
    obtain ⟨u3, c3, r3⟩ := cell 3 _ rfl
    obtain ⟨u4, c4, r4⟩ := cell 4 _ rfl
    obtain ⟨u5, c5, r5⟩ := cell 5 _ rfl
    obtain ⟨u6, c6, r6⟩ := cell 6 _ rfl
    rw [rp_int r0] at c0
    rw [rp_int r1] at c1
    rw [rp_str r2] at c2
    rw [rp_int r3] at c3
    rw [rp_bool r4] at c4
    rw [rp_int r5] at c5
    rw [rp_int r6] at c6
    exact ⟨b, o, qv, x, mg, p, q, rfl, c0, c1, c2, c3, c4, c5, c6, w0, w1, w2, w3, w4⟩
theorem memory_law {W : World} {v0 v1 : Value} {x0 x1 : PV} {n0 n1 : Nat} (r0 : RP (memOf W) x0 v0) (f0 : FitsA Try.prog n0 3 x0) (r1 : RP (memOf W) x1 v1) (f1 : FitsA Try.prog n1 22 x1) :
    Calls Try.prog 3 #[v0, v1] W fun e w' => e = .returned (.bool true) ∧ Below W.heap.size W w' := by
  obtain ⟨c, e, _⟩ := (f0.one Try.underlying3 rfl).int Try.underlying3
  simp only [List.cons.injEq, and_true] at e
  subst e
  rw [rp_int r0]
  obtain ⟨n, S⟩ := script_of r1 f1
  exact memory_w c v1 n W S
end Go.Proofs.Ytaaocppaepnhbaa
