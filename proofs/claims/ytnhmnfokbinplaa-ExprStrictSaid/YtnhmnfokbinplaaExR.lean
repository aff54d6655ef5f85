/- Expressions that came in: what they read as. Own work; no condition. -/
import Derived.Test.YtnhmnfokbinplaaEx5
namespace Go.Proofs.Ytnhmnfokbinplaa
open Go Go.RowKit
set_option maxRecDepth 100000
set_option linter.unusedVariables false

theorem cells80 : Try.prog.cellsOf 80 = 6 := by kernel_rfl
theorem cells78 : Try.prog.cellsOf 78 = 1 := by kernel_rfl
theorem bytes80 : Try.prog.bytesOf 80 = 72 := by kernel_rfl
theorem ok_okV {v : Val} (h : v.ok) : okV v := by
  obtain ⟨_, h2, h3⟩ := h
  simp only [Lit.wf, Bool.and_eq_true, decide_eq_true_eq] at h2
  have e1 : IntKind.min .i64 = -9223372036854775808 := by decide
  have e2 : IntKind.max .i64 = 9223372036854775807 := by decide
  have : reachBytes = 140737488351232 := by decide
  exact ⟨by omega, by omega⟩
theorem wideL_of : ∀ {l : List Ex}, (∀ x, x ∈ l → x.wide) → wideL l
  | [], _ => trivial
  | e :: r, h => ⟨h e (by simp), wideL_of (fun x hx => h x (by simp [hx]))⟩
theorem okcL_of : ∀ {l : List Ex}, (∀ x, x ∈ l → x.okc) → okcL l
  | [], _ => trivial
  | e :: r, h => ⟨h e (by simp), okcL_of (fun x hx => h x (by simp [hx]))⟩
theorem exOf : ∀ (n : Nat) (cs : List PV), Fits Try.prog n 80 cs → ∃ e : Ex, e.cells = cs ∧ e.wide ∧ e.okc := by
  intro n
  induction n using Nat.strongRecOn with
  | _ n ih =>
    intro cs h
    obtain ⟨m, rfl, hl, hf⟩ := h.struct Try.underlying80
    rw [cells80] at hl
    obtain ⟨a, b, c, d, e, f, rfl⟩ : ∃ a b c d e f, cs = [a, b, c, d, e, f] := by
      match cs, hl with
      | [a, b, c, d, e, f], _ => exact ⟨a, b, c, d, e, f, rfl⟩
    have h0 : Fits Try.prog m 3 (([a, b, c, d, e, f].drop 0).take (Try.prog.cellsOf 3)) := hf 0 _ rfl
    have h1 : Fits Try.prog m 3 (([a, b, c, d, e, f].drop 1).take (Try.prog.cellsOf 3)) := hf 1 _ rfl
    have h2 : Fits Try.prog m 25 (([a, b, c, d, e, f].drop 2).take (Try.prog.cellsOf 25)) := hf 2 _ rfl
    have h3 : Fits Try.prog m 78 (([a, b, c, d, e, f].drop 5).take (Try.prog.cellsOf 78)) := hf 3 _ rfl
    rw [cells3] at h0 h1
    rw [cells25] at h2
    rw [cells78] at h3
    have h0 : Fits Try.prog m 3 [a] := h0
    have h1 : Fits Try.prog m 3 [b] := h1
    have h2 : Fits Try.prog m 25 [c, d, e] := h2
    have h3 : Fits Try.prog m 78 [f] := h3
    obtain ⟨op, e0, _⟩ := h0.int Try.underlying3
    obtain ⟨nn, e1, _⟩ := h1.int Try.underlying3
    obtain ⟨v, e2, ov⟩ := cellsV h2
    obtain ⟨m', es, rfl, e3, ⟨_, hb⟩, hes⟩ := h3.slice Try.underlying78
    simp only [List.cons.injEq, and_true, Val.cells] at e0 e1 e2 e3
    obtain ⟨rfl, rfl, rfl⟩ := e2
    subst e0 e1 e3
    obtain ⟨l, rfl, hlk⟩ := elems_of (enc := Ex.cells) (ok := fun e => e.wide ∧ e.okc) (fun x hx => by
      obtain ⟨y, hy, h1, h2⟩ := ih m' (by omega) x (hes x hx).2
      exact ⟨y, hy, h1, h2⟩)
    rw [bytes80, List.length_map] at hb
    refine ⟨.mk op nn v l, ?_, ⟨?_, ?_⟩, ok_okV ov, ?_⟩
    · rw [cells_mk]
    · unfold wideN; have : reachBytes = 140737488351232 := by decide
      omega
    · exact wideL_of fun x hx => (hlk x hx).1
    · exact okcL_of fun x hx => (hlk x hx).2
theorem fits80 {n : Nat} {x : PV} (h : FitsA Try.prog n 80 x) : ∃ op m vk vn vs ar, x = .agg [.int .i64 op, .int .i64 m, .int .i64 vk, .int .i64 vn, .str vs, .sl (ar.map Ex.cells)] ∧ (Ex.mk op m ⟨vk, vn, vs⟩ ar).wide ∧ (Ex.mk op m ⟨vk, vn, vs⟩ ar).okc := by
  obtain ⟨cs, rfl, g⟩ := h.agg Try.underlying80
  obtain ⟨⟨op, m, ⟨vk, vn, vs⟩, ar⟩, rfl, h1, h2⟩ := exOf _ _ g
  exact ⟨op, m, vk, vn, vs, ar, by rw [cells_mk], h1, h2⟩
theorem row_ok {l : List Val} (h : ∀ v, v ∈ l → v.ok) : rowOk l := fun v hv => ok_okV (h v hv)
end Go.Proofs.Ytnhmnfokbinplaa
