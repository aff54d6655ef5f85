/- sketch.Often: Add, walked in the world. Own work; no condition. -/
import Derived.Test.YtaaocppaepnhbaaOf16
namespace Go.Proofs.Ytaaocppaepnhbaa
open Go Go.RowKit Go.Deep Go.Sort Go.Shelf
set_option linter.unusedVariables false
set_option linter.unusedSimpArgs false

set_option maxRecDepth 100000 in
theorem add_neg (o : Option Addr) (v : VK) (n : Int) (h : n < 0) (w : World) : Calls Try.prog 10 #[.pointer o, v.val, .int .i64 n] w fun e w' => e = .returned (.int .i64 1) ∧ Turn w w' (fun _ => False) := by
  obtain ⟨k1, n1, s1⟩ := v
  simp only [VK.val]
  go_enter Try.func10, Try.ntmps10
  go_wp2_with fail
  go_ret
  exact ⟨rfl, Turn.since ((World.Since.refl _ w).alloc (Nat.le_refl _) _) (Nat.le_refl _)⟩
set_option maxRecDepth 100000 in
theorem add_large (o b : Nat) (k tot lost : Int) (E : Ents) (w : World) (M : OftAt w o b k tot lost E) (v : VK) (n : Int) (h : 0 ≤ n) (ht : 0 ≤ tot ∧ tot ≤ 4611686018427387904) (hn : 4611686018427387904 - tot < n) :
    Calls Try.prog 10 #[.pointer (some ⟨o, 0, none⟩), v.val, .int .i64 n] w fun e w' => e = .returned (.int .i64 3) ∧ Turn w w' (fun _ => False) := by
  obtain ⟨t, hbk⟩ := M.blk
  have c1 : w.cell? ⟨o, 1, none⟩ = some (.int .i64 tot) := cell_of_heap hbk rfl
  have hlo := M.lt
  have h0 : ¬ n < 0 := by omega
  obtain ⟨k1, n1, s1⟩ := v
  simp only [VK.val]
  clear hbk M
  have c1' : ∀ O, (w.alloc O).cell? ⟨o, 1, none⟩ = some (.int .i64 tot) := fun O => cell_alloc O c1
  go_enter Try.func10, Try.ntmps10
  go_wp2_with fail
  go_ret
  exact ⟨rfl, Turn.since ((World.Since.refl _ w).alloc (Nat.le_refl _) _) (Nat.le_refl _)⟩

theorem cell_mapT {w w' : World} {b g i : Nat} {v : Value} (h : w.mapTurned w' b) (hg : g ≠ b) (hv : w.cell? ⟨g, i, none⟩ = some v) : w'.cell? ⟨g, i, none⟩ = some v :=
  (World.cell?_of_block (w := w) ((Turn.mapT h).block g (World.block_lt_of_cell? w _ hv) hg)).trans hv
set_option maxRecDepth 100000 in
set_option maxHeartbeats 4000000 in
theorem add_w (o b k : Nat) (tot lost : Int) (E : Ents) (w : World) (M : OftAt w o b k tot lost E) (hk : 1 ≤ k ∧ k ≤ 1024) (hE : E.length ≤ 100000) (v : VK) (hv : v.Ok) (n : Int) (h : 0 ≤ n) (ht : 0 ≤ tot) (hn : n ≤ 4611686018427387904 - tot)
    (hb : ∀ p ∈ E, 0 ≤ p.2 ∧ p.2 + n + lost ≤ 4611686018427387904) (hl : 0 ≤ lost ∧ n + lost ≤ 4611686018427387904) :
    Calls Try.prog 10 #[.pointer (some ⟨o, 0, none⟩), v.val, .int .i64 n] w fun e w' => e = .returned (.int .i64 0) ∧ ∃ lost' E', OftAt w' o b k (tot + n) lost' E' ∧ Turn w w' (fun q => q = o ∨ q = b) ∧
      Low k lost (if 0 < n then put E (cleanV v) ((lkE E (cleanV v)).getD 0 + n) else E) lost' E' := by
  obtain ⟨t, hbk⟩ := M.blk
  have c1 : w.cell? ⟨o, 1, none⟩ = some (.int .i64 tot) := cell_of_heap hbk rfl
  have f1 : w.frozen? ⟨o, 1, none⟩ = false := by simp [World.frozen?, hbk]
  have hlo := M.lt
  have hlb := M.map.lt
  have hob := M.ne
  have hcv : v.val = .agg #[.int .i64 v.k, .int .i64 v.n, .string v.s] := rfl
  rw [hcv]
  have h0 : ¬ n < 0 := by omega
  have h1 : ¬ 4611686018427387904 - tot < n := by omega
  have ht' : tot ≤ 4611686018427387904 := by omega
  have hc1 := fun O => cell_alloc O c1
  have hf1 : ∀ O, (w.alloc O).frozen? ⟨o, 1, none⟩ = false := fun O => (World.frozen?_of_block (w := w) (blk_alloc_lt _ _ _ hlo)).trans f1
  -- behind the total's store
  obtain ⟨W1, hW1⟩ : ∃ W1, W1 = (w.setCell ⟨o, 1, none⟩ (.int .i64 (tot + n))).alloc (.cells #[.int .i64 v.k, .int .i64 v.n, .string v.s] 28) := ⟨_, rfl⟩
  have hs0 : (w.setCell ⟨o, 1, none⟩ (.int .i64 (tot + n))).heap.size = w.heap.size := by simp
  have M1 : OftAt W1 o b k (tot + n) lost E := by
    refine ⟨⟨t, ?_⟩, M.map.keep ?_⟩
    · rw [hW1]; exact (blk_alloc_lt _ _ _ (by omega)).trans (setCell_heap (i := 1) hbk _)
    · rw [hW1]; exact (blk_alloc_lt _ _ _ (by omega)).trans (blk_setCell_other _ _ _ _ (fun e => hob e.symm))
  have T1 : Turn w W1 (fun q => q = o) := by
    rw [hW1]; exact Turn.trans (o' := fun _ => False) (Turn.cell (w := w) ⟨o, 1, none⟩ _ (own := fun q => q = o) rfl) (Turn.since ((World.Since.refl _ _).alloc (Nat.le_refl _) _) (Nat.le_refl _)) (fun _ h => h) fun _ _ h => h.elim
  have hbx : W1.heap[w.heap.size]? = some (.cells #[.int .i64 v.k, .int .i64 v.n, .string v.s] 28 (0, 0)) := by
    rw [hW1, ← hs0]; exact heap_alloc_new _ _
  have hz1 : W1.heap.size = w.heap.size + 1 := by rw [hW1]; simp
  by_cases hp : 0 < n
  · rw [if_pos hp]
    have hcl := fun W => clean_w v W
    have hco := cleanV_ok hv
    obtain ⟨q, hq⟩ : ∃ q, q = cleanV v := ⟨_, rfl⟩
    rw [← hq] at hcl hco ⊢
    obtain ⟨y, hy⟩ : ∃ y, y = (lkE E q).getD 0 := ⟨_, rfl⟩
    have hyb : 0 ≤ y ∧ y + n + lost ≤ 4611686018427387904 := by
      rw [hy]
      cases hx : lkE E q with
      | none => simp; omega
      | some x => have := hb _ ((look_mem M.map.uniq).1 hx); simpa using this
    obtain ⟨X, hX⟩ : ∃ X, X = y + n := ⟨_, rfl⟩
    have hw : IntKind.i64.wrap (y + n) = X := (IntWalk.i64_in (y + n) ⟨by omega, by omega⟩).trans hX.symm
    have hob1 : w.heap.size ≠ b := by omega
    rw [← hy, ← hX]
    have hlw : ∀ W, OftAt W o b k (tot + n) lost (put E q X) → Calls Try.prog 19 #[.pointer (some ⟨o, 0, none⟩)] W fun e w' => e = .returned (.tuple #[]) ∧ ∃ lost' E', OftAt w' o b k (tot + n) lost' E' ∧ Turn W w' (fun q => q = o ∨ q = b) ∧ Low k lost (put E q X) lost' E' := fun W hM => by
      refine lower_w o b k (tot + n) lost (put E q X) W hM hk ?_ fun p hp' => ?_
      · have := put_len (E := E) (q := q) (x := X); omega
      · rcases put_mem hp' with e | e
        · rw [e]; simp only; omega
        · have := hb p e; omega
    have d3 : W1.cell? ⟨o, 3, none⟩ = some (.map (some b)) := by obtain ⟨t', h'⟩ := M1.blk; exact cell_of_heap h' rfl
    have HH : Hid (Turn w W1 (fun q => q = o) ∧ OftAt W1 o b k (tot + n) lost E) := ⟨T1, M1⟩
    have hMl : ∀ w2 : World, W1.drew.Since W1.drew.heap.size w2 → MapAt w2 b E := fun w2 hs => M1.map.keep (hs.block b (by show b < W1.heap.size; omega))
    have hlo1 : o < W1.drew.heap.size := by show o < W1.heap.size; omega
    have hBo : w.heap.size ≠ o := by omega
    have hqv : q.val = .agg #[.int .i64 q.k, .int .i64 q.n, .string q.s] := rfl
    have hvv : v.val = .agg #[.int .i64 v.k, .int .i64 v.n, .string v.s] := rfl
    rw [hqv, hvv] at hcl
    have hB1 : w.heap.size < W1.drew.heap.size := by show w.heap.size < W1.heap.size; omega
    clear M M1 T1 hbk hq hv hb hyb hX hz1 hs0
    have y0 : W1.cell? ⟨w.heap.size, 0, none⟩ = some (.int .i64 v.k) := cell_of_heap hbx rfl
    have y1 : W1.cell? ⟨w.heap.size, 1, none⟩ = some (.int .i64 v.n) := cell_of_heap hbx rfl
    have y2 : W1.cell? ⟨w.heap.size, 2, none⟩ = some (.string v.s) := cell_of_heap hbx rfl
    clear hbx
    have hy' : Hid (y = (lkE E q).getD 0) := hy
    clear hy
    have HW : Hid (W1 = (w.setCell ⟨o, 1, none⟩ (.int .i64 (tot + n))).alloc (.cells #[.int .i64 v.k, .int .i64 v.n, .string v.s] 28)) := hW1
    clear hW1
    go_enter Try.func10, Try.ntmps10
    go_wp2_with fail
    rw [← (show _ = _ from HW)]
    clear HW hc1 hf1 c1 f1
    generalize w.heap.size = B at *
    generalize v.k = k1 at *
    generalize v.n = n1 at *
    generalize v.s = s1 at *
    generalize q.k = k2 at *
    go_region_held3 (fun W : World => W.cell? ⟨o, 3, none⟩ = some (.map (some b)) ∧ W.cell? ⟨B, 0, none⟩ = some (.int .i64 k1) ∧ W.cell? ⟨B, 1, none⟩ = some (.int .i64 n1) ∧ W.cell? ⟨B, 2, none⟩ = some (.string s1))
      (first | exact ⟨d3, y0, y1, y2⟩ | exact ⟨e3, e0, e1, e2⟩ | exact ⟨f3, f0, f1, f2⟩ | exact ⟨g3, g0, g1, g2⟩)
      (first | (go_at_call 14; (with_reducible refine (hcl _).mono ?_); rintro e w2 ⟨rfl, hs2, hd2⟩; have e3 := since_cell hs2 hlo1 d3; have e0 := since_cell hs2 hB1 y0; have e1 := since_cell hs2 hB1 y1; have e2 := since_cell hs2 hB1 y2; have M2 := hMl w2 hs2; have hlk := M2.lookup hco mt44; obtain ⟨st, w3, hme, M3, hst, hm3⟩ := M2.entry hco mt44; obtain ⟨w4, hes, M4, hm4⟩ := M3.stamped hst X (mt := 44); have hlk3 := M3.lookup hco mt44; rw [look_put, if_pos rfl, Option.getD_some] at hlk3; have f3 := cell_mapT hm3 hob e3; have f0 := cell_mapT hm3 hob1 e0; have f1 := cell_mapT hm3 hob1 e1; have f2 := cell_mapT hm3 hob1 e2; have g3 := cell_mapT hm4 hob f3; have g0 := cell_mapT hm4 hob1 f0; have g1 := cell_mapT hm4 hob1 f1; have g2 := cell_mapT hm4 hob1 f2; rw [← (show y = _ from hy')] at hlk hme hlk3; rw [hqv] at hlk hme hlk3; have hes2 : (Instr.entryStore 44 (.map (some b)) (.int .i64 (st : Int)) (.int .i64 X)).run Try.prog w3 = .ok () w4 := hes))
    all_goals (
      obtain ⟨hT1, hO1⟩ := (show _ ∧ _ from HH)
      rw [put_put] at M4
      have T34 := (Turn.mapT hm3).trans (Turn.mapT hm4) (own := fun q => q = b) (fun _ h => h) fun _ _ h => h
      have T12 : Turn W1 w2 (fun _ => False) := ⟨hs2.os, hs2.tape, hs2.output, hs2.size, fun j hj _ => hs2.block j hj⟩
      have T14 := T12.trans T34 (own := fun q => q = b) (fun _ h => h.elim) fun _ _ h => h
      have hM4 : OftAt w4 o b k (tot + n) lost (put E q X) := ⟨by obtain ⟨t', h'⟩ := hO1.blk; exact ⟨t', (T14.block o hlo1 hob).trans h'⟩, M4⟩
      have hl4 := hlw w4 hM4
      have HT : Hid (Turn w w4 (fun q => q = o ∨ q = b)) := hT1.trans T14 (fun _ h => .inl h) fun _ _ h => .inr h
      clear hM4 T14 T12 T34 hT1 hO1 M4 hm3 hm4 hlw hlk hlk3 hme hes hes2 hcl
      go_wp2_with (go_at_call 19; (with_reducible refine hl4.mono ?_); rintro e w5 ⟨rfl, lost', E', M5, T5, hL5⟩)
      go_ret
      exact ⟨rfl, lost', E', M5, Turn.trans HT T5 (fun _ e => e) fun _ _ e => e, hL5⟩)
  · rw [if_neg hp]
    have hlw := lower_w o b k (tot + n) lost E W1 M1 hk (by omega) (fun p hp' => by have := hb p hp'; omega)
    have HH : Hid (Turn w W1 (fun q => q = o)) := T1
    clear M hb M1 T1 hbx hz1 hbk hv
    subst hW1
    generalize v.k = k1 at *
    generalize v.n = n1 at *
    generalize v.s = s1 at *
    go_enter Try.func10, Try.ntmps10
    go_wp2_with (go_at_call 19; (with_reducible refine hlw.mono ?_); rintro e w5 ⟨rfl, lost', E', M5, T5, hL5⟩)
    go_ret
    exact ⟨rfl, lost', E', M5, Turn.trans HH T5 (fun _ e => .inl e) fun _ _ e => e, hL5⟩
end Go.Proofs.Ytaaocppaepnhbaa
