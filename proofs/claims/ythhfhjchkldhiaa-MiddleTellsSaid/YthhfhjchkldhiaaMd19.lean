/- MiddleTells: the law, of whatever comes in. Own work; no condition. -/
import Derived.Test.YthhfhjchkldhiaaMd18
import Derived.Test.YthhfhjchkldhiaaRd
namespace Go.Proofs.Ythhfhjchkldhiaa
open Go Go.RowKit
set_option maxRecDepth 100000
set_option linter.unusedVariables false

theorem cells2 : Try.prog.cellsOf 2 = 1 := by kernel_rfl
theorem cells3 : Try.prog.cellsOf 3 = 1 := by kernel_rfl
theorem cells4 : Try.prog.cellsOf 4 = 1 := by kernel_rfl
theorem cells9 : Try.prog.cellsOf 9 = 1 := by kernel_rfl
theorem cells32 : Try.prog.cellsOf 32 = 3 := by kernel_rfl
theorem cells34 : Try.prog.cellsOf 34 = 7 := by kernel_rfl
theorem bytes2 : Try.prog.bytesOf 2 = 8 := by kernel_rfl
theorem rp_int {m : Mem} {k : IntKind} {n : Int} {v : Value} (h : RP m (.int k n) v) : v = .int k n := by cases h; rfl
theorem rp_str {m : Mem} {s : ByteArray} {v : Value} (h : RP m (.str s) v) : v = .string s := by cases h; rfl
theorem rp_bool {m : Mem} {s : Bool} {v : Value} (h : RP m (.bool s) v) : v = .bool s := by cases h; rfl
theorem wf_le {x : Int} (h : (Lit.int .i64 x).wf = true) : -9223372036854775808 ≤ x ∧ x ≤ 9223372036854775807 := by
  simp [Lit.wf, IntKind.min, IntKind.max, IntKind.signed, IntKind.bits] at h
  omega

theorem came_cells {n : Nat} {cs : List PV} (h : Fits Try.prog n 34 cs) : ∃ (k1 k2 : Int) (s : ByteArray) (x : Int) (mg : Bool) (p q : Int), cs = [.int .i64 k1, .int .i64 k2, .str s, .int .i64 x, .bool mg, .int .i64 p, .int .i64 q] ∧ x ≤ 9223372036854775807 ∧ -9223372036854775808 ≤ p ∧ p ≤ 9223372036854775807 ∧ -9223372036854775808 ≤ q ∧ q ≤ 9223372036854775807 := by
  obtain ⟨m, rfl, hl, hf⟩ := h.struct Try.underlying34
  rw [cells34] at hl
  obtain ⟨a, b, c, d, e, f, g, rfl⟩ : ∃ a b c d e f g, cs = [a, b, c, d, e, f, g] := by
    match cs, hl with
    | [a, b, c, d, e, f, g], _ => exact ⟨a, b, c, d, e, f, g, rfl⟩
  have h0 : Fits Try.prog m 32 (([a, b, c, d, e, f, g].drop 0).take (Try.prog.cellsOf 32)) := hf 0 _ rfl
  have h1 : Fits Try.prog m 2 (([a, b, c, d, e, f, g].drop 3).take (Try.prog.cellsOf 2)) := hf 1 _ rfl
  have h2 : Fits Try.prog m 4 (([a, b, c, d, e, f, g].drop 4).take (Try.prog.cellsOf 4)) := hf 2 _ rfl
  have h3 : Fits Try.prog m 3 (([a, b, c, d, e, f, g].drop 5).take (Try.prog.cellsOf 3)) := hf 3 _ rfl
  have h4 : Fits Try.prog m 3 (([a, b, c, d, e, f, g].drop 6).take (Try.prog.cellsOf 3)) := hf 4 _ rfl
  rw [cells32] at h0
  rw [cells2] at h1
  rw [cells4] at h2
  rw [cells3] at h3 h4
  have h0 : Fits Try.prog m 32 [a, b, c] := h0
  obtain ⟨m', rfl, _, hg⟩ := h0.struct Try.underlying32
  have g0 : Fits Try.prog m' 3 (([a, b, c].drop 0).take (Try.prog.cellsOf 3)) := hg 0 _ rfl
  have g1 : Fits Try.prog m' 2 (([a, b, c].drop 1).take (Try.prog.cellsOf 2)) := hg 1 _ rfl
  have g2 : Fits Try.prog m' 9 (([a, b, c].drop 2).take (Try.prog.cellsOf 9)) := hg 2 _ rfl
  rw [cells3] at g0
  rw [cells2] at g1
  rw [cells9] at g2
  obtain ⟨k1, e0, _⟩ := (show Fits Try.prog m' 3 [a] from g0).int Try.underlying3
  obtain ⟨k2, e1, _⟩ := (show Fits Try.prog m' 2 [b] from g1).int Try.underlying2
  obtain ⟨s, e2, _⟩ := (show Fits Try.prog m' 9 [c] from g2).str Try.underlying9
  obtain ⟨x, e3, w3⟩ := (show Fits Try.prog (m' + 1) 2 [d] from h1).int Try.underlying2
  obtain ⟨mg, e4⟩ := (show Fits Try.prog (m' + 1) 4 [e] from h2).bool Try.underlying4
  obtain ⟨p, e5, w5⟩ := (show Fits Try.prog (m' + 1) 3 [f] from h3).int Try.underlying3
  obtain ⟨q, e6, w6⟩ := (show Fits Try.prog (m' + 1) 3 [g] from h4).int Try.underlying3
  simp only [List.cons.injEq, and_true] at e0 e1 e2 e3 e4 e5 e6
  subst e0 e1 e2 e3 e4 e5 e6
  have w3' := wf_le w3
  have w5' := wf_le w5
  have w6' := wf_le w6
  exact ⟨k1, k2, s, x, mg, p, q, rfl, w3'.2, w5'.1, w5'.2, w6'.1, w6'.2⟩

theorem script_of {W : World} {v : Value} {x : PV} {n : Nat} (r : RP (memOf W) x v) (f : FitsA Try.prog n 22 x) : ∃ k, Script W v k := by
  obtain ⟨m, es, rfl, h1, ⟨h2, h3⟩, h4⟩ := (f.one Try.underlying22 rfl).slice Try.underlying22
  simp only [List.cons.injEq, and_true] at h1
  subst h1
  cases r with
  | sl0 a cap hc => exact ⟨0, ⟨a, cap, rfl, Nat.zero_le _, hc, fun i hi => absurd hi (by omega)⟩⟩
  | sl es size b o len cap vs hlen hcap hmax hsz hm hr =>
    refine ⟨len, ⟨_, cap, rfl, hcap, hmax, fun i hi => ?_⟩⟩
    have hil : i < es.length := by omega
    have he := List.getElem?_eq_getElem hil
    obtain ⟨hl7, hf⟩ := h4 _ (List.getElem_mem hil)
    rw [cells34] at hl7
    have hs7 : size = 7 := by rw [← hsz _ (List.getElem_mem hil), hl7]
    subst hs7
    obtain ⟨k1, k2, s, x, mg, p, q, hcs, w1, w2, w3, w4, w5⟩ := came_cells hf
    have cell : ∀ j c, [PV.int .i64 k1, .int .i64 k2, .str s, .int .i64 x, .bool mg, .int .i64 p, .int .i64 q][j]? = some c → ∃ u, W.cell? ⟨b, o + i * 7 + j, none⟩ = some u ∧ RP (memOf W) c u := by
      intro j c hj
      have hj' : es[i][j]? = some c := by rw [hcs]; exact hj
      exact ⟨vs i j, hm i _ j he (List.getElem?_eq_some_iff.1 hj').1, hr i _ j c he hj'⟩
    obtain ⟨u0, c0, r0⟩ := cell 0 _ rfl
    obtain ⟨u1, c1, r1⟩ := cell 1 _ rfl
    obtain ⟨u2, c2, r2⟩ := cell 2 _ rfl
    obtain ⟨u3, c3, r3⟩ := cell 3 _ rfl
    obtain ⟨u4, c4, r4⟩ := cell 4 _ rfl
    obtain ⟨u5, c5, r5⟩ := cell 5 _ rfl
    obtain ⟨u6, c6, r6⟩ := cell 6 _ rfl
    rw [rp_int r0] at c0
    rw [rp_int r1] at c1
    rw [rp_str r2] at c2
    rw [rp_int r3] at c3
    rw [rp_bool r4] at c4
    rw [rp_int r5] at c5
    rw [rp_int r6] at c6
    exact ⟨b, o, k1, k2, s, x, mg, p, q, rfl, c0, c1, c2, c3, c4, c5, c6, w1, w2, w3, w4, w5⟩
theorem asks_of {W : World} {v : Value} {x : PV} {n : Nat} (r : RP (memOf W) x v) (f : FitsA Try.prog n 23 x) : ∃ k, Asks W v k := by
  obtain ⟨m, es, rfl, h1, ⟨h2, h3⟩, h4⟩ := (f.one Try.underlying23 rfl).slice Try.underlying23
  simp only [List.cons.injEq, and_true] at h1
  subst h1
  rw [bytes2] at h3
  cases r with
  | sl0 a cap hc => exact ⟨0, ⟨a, cap, rfl, Nat.zero_le _, Nat.zero_le _, fun i hi => absurd hi (by omega)⟩⟩
  | sl es size b o len cap vs hlen hcap hmax hsz hm hr =>
    refine ⟨len, ⟨_, cap, rfl, hcap, by simp only [reachBytes] at h3; omega, fun i hi => ?_⟩⟩
    have hil : i < es.length := by omega
    have he := List.getElem?_eq_getElem hil
    obtain ⟨hl7, hf⟩ := h4 _ (List.getElem_mem hil)
    rw [cells2] at hl7
    have hs7 : size = 1 := by rw [← hsz _ (List.getElem_mem hil), hl7]
    subst hs7
    obtain ⟨z, e, w⟩ := hf.int Try.underlying2
    have hj : es[i][0]? = some (.int .i64 z) := by rw [e]; rfl
    have c0 := hm i _ 0 he (by omega)
    have r0 := hr i _ 0 _ he hj
    rw [rp_int r0] at c0
    rw [Nat.mul_one, Nat.add_zero] at c0
    exact ⟨b, o, z, rfl, c0, (wf_le w).2⟩

theorem tells_law {W : World} {v0 v1 v2 : Value} {x0 x1 x2 : PV} {n0 n1 n2 : Nat} (r0 : RP (memOf W) x0 v0) (f0 : FitsA Try.prog n0 3 x0) (r1 : RP (memOf W) x1 v1) (f1 : FitsA Try.prog n1 22 x1) (r2 : RP (memOf W) x2 v2) (f2 : FitsA Try.prog n2 23 x2) :
    Calls Try.prog 3 #[v0, v1, v2] W fun e w' => e = .returned (.bool true) ∧ Below W.heap.size W w' := by
  obtain ⟨c, e, _⟩ := (f0.one Try.underlying3 rfl).int Try.underlying3
  simp only [List.cons.injEq, and_true] at e
  subst e
  rw [rp_int r0]
  cases h : okC c with
  | false => exact tells_bad c h v1 v2 W
  | true =>
    obtain ⟨k, S⟩ := script_of r1 f1
    obtain ⟨m, A⟩ := asks_of r2 f2
    have h0 : 0 ≤ c := by simp [okC] at h; omega
    obtain ⟨d, rfl⟩ : ∃ d : Nat, c = d := ⟨c.toNat, by omega⟩
    exact tells_w d h v1 v2 k m W S A
end Go.Proofs.Ythhfhjchkldhiaa
