/- VecSays: what comes in; the law. Own work; no condition. -/
import Derived.Test.YtcajncmjlmpkgaaPa42
import Derived.Test.YtcajncmjlmpkgaaPaRdU
namespace Go.Proofs.Ytcajncmjlmpkgaa
open Go Go.RowKit
set_option maxRecDepth 100000
set_option linter.unusedSimpArgs false
set_option linter.unusedVariables false
theorem bk_len {α : Type} {enc : α → List PV} (he : ∀ x, enc x ≠ []) (l : List α) : l.length ≤ bkLL (l.map enc) := by
 have := bkLL_len (l.map enc) (fun e h => by obtain ⟨x, _, rfl⟩ := List.mem_map.1 h; exact he x)
 simpa using this
theorem cells30 : Try.prog.cellsOf 25 = 1 := by kernel_rfl
theorem cells31 : Try.prog.cellsOf 26 = 1 := by kernel_rfl
theorem cells32 : Try.prog.cellsOf 27 = 1 := by kernel_rfl
theorem cells34 : Try.prog.cellsOf 29 = 4 := by kernel_rfl
theorem list30 {n : Nat} {x : PV} (h : Fits Try.prog n 25 [x]) : ∃ l : List Bool, x = .sl (l.map boolc) := by
 obtain ⟨m, es, rfl, h1, _, h4⟩ := h.slice Try.underlying25
 simp only [List.cons.injEq, and_true] at h1
 subst h1
 obtain ⟨l, rfl, hl⟩ := elems_of (enc := boolc) (ok := fun _ => True) (fun x hx => by
   have g := (h4 x hx).2
   first
     | (obtain ⟨v, e, w⟩ := g.int Try.underlying2; exact ⟨v, e.symm, trivial⟩)
     | (obtain ⟨v, e, w⟩ := g.str Try.underlying9; exact ⟨v, e.symm, trivial⟩)
     | (obtain ⟨v, e⟩ := g.bool Try.underlying4; exact ⟨v, e.symm, trivial⟩))
 exact ⟨l, rfl⟩
theorem list31 {n : Nat} {x : PV} (h : Fits Try.prog n 26 [x]) : ∃ l : List Int, x = .sl (l.map i64c) := by
 obtain ⟨m, es, rfl, h1, _, h4⟩ := h.slice Try.underlying26
 simp only [List.cons.injEq, and_true] at h1
 subst h1
 obtain ⟨l, rfl, hl⟩ := elems_of (enc := i64c) (ok := fun _ => True) (fun x hx => by
   have g := (h4 x hx).2
   first
     | (obtain ⟨v, e, w⟩ := g.int Try.underlying2; exact ⟨v, e.symm, trivial⟩)
     | (obtain ⟨v, e, w⟩ := g.str Try.underlying9; exact ⟨v, e.symm, trivial⟩)
     | (obtain ⟨v, e⟩ := g.bool Try.underlying4; exact ⟨v, e.symm, trivial⟩))
 exact ⟨l, rfl⟩
theorem list32 {n : Nat} {x : PV} (h : Fits Try.prog n 27 [x]) : ∃ l : List ByteArray, x = .sl (l.map strc) := by
 obtain ⟨m, es, rfl, h1, _, h4⟩ := h.slice Try.underlying27
 simp only [List.cons.injEq, and_true] at h1
 subst h1
 obtain ⟨l, rfl, hl⟩ := elems_of (enc := strc) (ok := fun _ => True) (fun x hx => by
   have g := (h4 x hx).2
   first
     | (obtain ⟨v, e, w⟩ := g.int Try.underlying2; exact ⟨v, e.symm, trivial⟩)
     | (obtain ⟨v, e, w⟩ := g.str Try.underlying9; exact ⟨v, e.symm, trivial⟩)
     | (obtain ⟨v, e⟩ := g.bool Try.underlying4; exact ⟨v, e.symm, trivial⟩))
 exact ⟨l, rfl⟩
theorem cellsVec {n : Nat} {cs : List PV} (h : Fits Try.prog n 29 cs) : ∃ (a : Int) (B : List Bool) (N : List Int) (S : List ByteArray), cs = [.int .i64 a, .sl (B.map boolc), .sl (N.map i64c), .sl (S.map strc)] := by
 obtain ⟨m, rfl, hl, hf⟩ := h.struct Try.underlying29
 rw [cells34] at hl
 obtain ⟨a, b, c, d, rfl⟩ : ∃ a b c d, cs = [a, b, c, d] := by
   match cs, hl with
   | [a, b, c, d], _ => exact ⟨a, b, c, d, rfl⟩
 have h0 : Fits Try.prog m 3 (([a, b, c, d].drop 0).take (Try.prog.cellsOf 3)) := hf 0 _ rfl
 have h1 : Fits Try.prog m 25 (([a, b, c, d].drop 1).take (Try.prog.cellsOf 25)) := hf 1 _ rfl
 have h2 : Fits Try.prog m 26 (([a, b, c, d].drop 2).take (Try.prog.cellsOf 26)) := hf 2 _ rfl
 have h3 : Fits Try.prog m 27 (([a, b, c, d].drop 3).take (Try.prog.cellsOf 27)) := hf 3 _ rfl
 rw [cells3] at h0
 rw [cells30] at h1
 rw [cells31] at h2
 rw [cells32] at h3
 have h0 : Fits Try.prog m 3 [a] := h0
 obtain ⟨k, e0, w0⟩ := h0.int Try.underlying3
 obtain ⟨B, rfl⟩ := list30 (x := b) h1
 obtain ⟨N, rfl⟩ := list31 (x := c) h2
 obtain ⟨S, rfl⟩ := list32 (x := d) h3
 simp only [List.cons.injEq, and_true] at e0
 subst e0
 exact ⟨k, B, N, S, rfl⟩
theorem fits34 {n : Nat} {x : PV} (h : FitsA Try.prog n 29 x) : ∃ (a : Int) (B : List Bool) (N : List Int) (S : List ByteArray), x = .agg [.int .i64 a, .sl (B.map boolc), .sl (N.map i64c), .sl (S.map strc)] := by
 obtain ⟨cs, rfl, g⟩ := h.agg Try.underlying29
 obtain ⟨a, B, N, S, rfl⟩ := cellsVec g
 exact ⟨a, B, N, S, rfl⟩
theorem vec_bk {a : Int} {B : List Bool} {N : List Int} {S : List ByteArray} (h : bk (.agg [.int .i64 a, .sl (B.map boolc), .sl (N.map i64c), .sl (S.map strc)]) ≤ 1048577) : B.length ≤ 1048577 ∧ N.length ≤ 1048577 ∧ S.length ≤ 1048577 := by
 simp only [bk, bkL] at h
 have h1 := bk_len (enc := boolc) (fun x => by simp [boolc]) B
 have h2 := bk_len (enc := i64c) (fun x => by simp [i64c]) N
 have h3 := bk_len (enc := strc) (fun x => by simp [strc]) S
 omega
end Go.Proofs.Ytcajncmjlmpkgaa
