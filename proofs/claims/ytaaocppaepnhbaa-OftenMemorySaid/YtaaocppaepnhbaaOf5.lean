/- sketch.Often: Tell, walked in the world. Own work; no condition. -/
import Derived.Test.YtaaocppaepnhbaaOf4
import Derived.Deep.QuietTactic
import Derived.IntWalk
namespace Go.Proofs.Ytaaocppaepnhbaa
open Go Go.RowKit Go.Deep
set_option linter.unusedVariables false
set_option linter.unusedSimpArgs false

theorem since_cell {w w' : World} {B g i : Nat} {v : Value} (h : w.Since B w') (hg : g < B) (hv : w.cell? ⟨g, i, none⟩ = some v) : w'.cell? ⟨g, i, none⟩ = some v := (h.cell hg).trans hv
theorem since_trans {a b c : World} {B B' : Nat} (h : a.Since B b) (k : b.Since B' c) (hB : B ≤ B') : a.Since B c := ⟨k.os.trans h.os, k.tape.trans h.tape, k.output.trans h.output, Nat.le_trans h.size k.size, fun j hj => (k.block j (by omega)).trans (h.block j hj)⟩
set_option maxRecDepth 100000 in
theorem tell_w (o b : Nat) (k tot lost : Int) (E : Ents) (q : VK) (w : World) (M : OftAt w o b k tot lost E) (hq : q.Ok) (hb : 0 ≤ (lkE E (cleanV q)).getD 0 ∧ 0 ≤ lost ∧ (lkE E (cleanV q)).getD 0 + lost ≤ 4611686018427387904) :
    Calls Try.prog 21 #[.pointer (some ⟨o, 0, none⟩), q.val] w fun e w' => e = .returned (.tuple #[.int .i64 ((lkE E (cleanV q)).getD 0), .int .i64 ((lkE E (cleanV q)).getD 0 + lost)]) ∧ w.Since w.heap.size w' := by
  obtain ⟨t, hbk⟩ := M.blk
  have c3 : w.cell? ⟨o, 3, none⟩ = some (.map (some b)) := cell_of_heap hbk rfl
  have c2 : w.cell? ⟨o, 2, none⟩ = some (.int .i64 lost) := cell_of_heap hbk rfl
  have hlo := M.lt
  have hlb := M.map.lt
  have hco := cleanV_ok hq
  generalize hx : (lkE E (cleanV q)).getD 0 = x at hb ⊢
  obtain ⟨hb1, hb2, hb3⟩ := hb
  have hlk : ∀ W : World, W.heap[b]? = w.heap[b]? → (Instr.lookup 44 (.map (some b)) (cleanV q).val false).run Try.prog W = .ok (.int .i64 x) W := fun W hW => by rw [← hx]; exact (M.map.keep hW).lookup hco mt44
  have hcl := fun W => clean_w q W
  generalize cleanV q = q' at hlk hcl
  obtain ⟨k1, n1, s1⟩ := q
  obtain ⟨k2, n2, s2⟩ := q'
  simp only [VK.val] at hlk hcl ⊢
  clear hx hco hq M hbk
  go_enter Try.func21, Try.ntmps21
  go_wp2_with fail
  have z0 : (w.alloc (.cells #[.int .i64 k1, .int .i64 n1, .string s1] 28)).cell? ⟨o, 3, none⟩ = some (.map (some b)) := ((((World.Since.refl w.heap.size w).alloc (Nat.le_refl _) (.cells #[.int .i64 k1, .int .i64 n1, .string s1] 28))).cell hlo).trans c3
  have z1 : (w.alloc (.cells #[.int .i64 k1, .int .i64 n1, .string s1] 28)).heap[w.heap.size]? = some (.cells #[.int .i64 k1, .int .i64 n1, .string s1] 28 (0, 0)) := heap_alloc_new _ _
  have hs1 : w.Since w.heap.size (w.alloc (.cells #[.int .i64 k1, .int .i64 n1, .string s1] 28)) := (World.Since.refl w.heap.size w).alloc (Nat.le_refl _) _
  have hn1 : w.heap.size < (w.alloc (.cells #[.int .i64 k1, .int .i64 n1, .string s1] 28)).heap.size := by simp
  generalize w.alloc (.cells #[.int .i64 k1, .int .i64 n1, .string s1] 28) = w1 at z0 z1 hs1 hn1 ⊢
  generalize hn : w.heap.size = n at z1 hn1 ⊢
  have y0 : w1.cell? ⟨n, 0, none⟩ = some (.int .i64 k1) := cell_of_heap z1 rfl
  have y1 : w1.cell? ⟨n, 1, none⟩ = some (.int .i64 n1) := cell_of_heap z1 rfl
  have y2 : w1.cell? ⟨n, 2, none⟩ = some (.string s1) := cell_of_heap z1 rfl
  clear z1
  go_region_held3 (fun W : World => W.cell? ⟨o, 3, none⟩ = some (.map (some b)) ∧ W.cell? ⟨n, 0, none⟩ = some (.int .i64 k1) ∧ W.cell? ⟨n, 1, none⟩ = some (.int .i64 n1) ∧ W.cell? ⟨n, 2, none⟩ = some (.string s1))
    (exact ⟨z0, y0, y1, y2⟩)
    (first | (go_at_call 14; (with_reducible refine (hcl _).mono ?_); rintro e w2 ⟨rfl, hs2, _⟩; have z0 : w2.cell? ⟨o, 3, none⟩ = some (.map (some b)) := (hs2.cell (Nat.lt_of_lt_of_le hlo hs1.size)).trans z0; have y0 : w2.cell? ⟨n, 0, none⟩ = some (.int .i64 k1) := since_cell hs2 hn1 y0; have y1 : w2.cell? ⟨n, 1, none⟩ = some (.int .i64 n1) := since_cell hs2 hn1 y1; have y2 : w2.cell? ⟨n, 2, none⟩ = some (.string s1) := since_cell hs2 hn1 y2; have hlk2 := hlk w2 ((hs2.block b (Nat.lt_of_lt_of_le hlb hs1.size)).trans (hs1.block b hlb))))
  have l2 : w2.cell? ⟨o, 2, none⟩ = some (.int .i64 lost) := (hs2.cell (Nat.lt_of_lt_of_le hlo hs1.size)).trans ((hs1.cell hlo).trans c2)
  have hs : w.Since w.heap.size w2 := since_trans hs1.drew hs2 hs1.size
  go_wp2_with fail
  go_quiet (fail)
  go_wp2_with fail
  go_ret2
  exact ⟨congrArg (fun z => Ending.returned (.tuple #[.int .i64 x, .int .i64 z])) (IntWalk.i64_in (x + lost) ⟨by omega, by omega⟩), ⟨hs.os, hs.tape, hs.output, hs.size, hs.block⟩⟩
