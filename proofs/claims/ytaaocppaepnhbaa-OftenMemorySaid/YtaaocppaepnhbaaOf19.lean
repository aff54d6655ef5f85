/- OftenTells: what is told of one value, walked in the world. Own work; no condition. -/
import Derived.Test.YtaaocppaepnhbaaOf18
namespace Go.Proofs.Ytaaocppaepnhbaa
open Go Go.RowKit Go.Deep Go.Sort Go.Shelf
set_option linter.unusedVariables false
set_option linter.unusedSimpArgs false

def sumE (E : Ents) : Int := (E.map (·.2)).sum
/-- A sketch and what came to it. -/
structure Inv (k : Nat) (tot lost : Int) (E N : Ents) : Prop where
  hk : 1 ≤ k ∧ k ≤ 1024
  len : E.length ≤ k
  pos : ∀ p ∈ E, 0 < p.2 ∧ cleanV p.1 = p.1
  npos : ∀ p ∈ N, 0 ≤ p.2 ∧ p.2 ≤ tot ∧ cleanV p.1 = p.1
  near : ∀ q, (lkE E q).getD 0 ≤ (lkE N q).getD 0 ∧ (lkE N q).getD 0 ≤ (lkE E q).getD 0 + lost
  hlost : 0 ≤ lost
  sum : lost * (k + 1) + sumE E ≤ tot
  htot : tot ≤ 4611686018427387904
theorem sum_pos : ∀ {E : Ents}, (∀ p ∈ E, 0 < p.2) → 0 ≤ sumE E
  | [], _ => by simp [sumE]
  | p :: r, h => by
    have h1 := h p (by simp)
    have h2 := sum_pos fun q hq => h q (List.mem_cons_of_mem p hq)
    simp only [sumE, List.map_cons, List.sum_cons] at h2 ⊢; omega
theorem sum_mem : ∀ {E : Ents} {p : VK × Int}, (∀ p ∈ E, 0 < p.2) → p ∈ E → p.2 ≤ sumE E
  | a :: r, p, h, hp => by
    have h1 := h a (by simp)
    have h2 := sum_pos fun q hq => h q (List.mem_cons_of_mem a hq)
    have ih := fun hm => sum_mem (fun q hq => h q (List.mem_cons_of_mem a hq)) (p := p) (E := r) hm
    simp only [sumE, List.map_cons, List.sum_cons] at h2 ih ⊢
    rcases List.mem_cons.1 hp with rfl | hp
    · omega
    · have := ih hp; omega
theorem Inv.bound {k : Nat} {tot lost : Int} {E N : Ents} (h : Inv k tot lost E N) (hu : Uniq E) (q : VK) : 0 ≤ (lkE E q).getD 0 ∧ (lkE E q).getD 0 + lost ≤ tot := by
  have hs := h.sum
  have hl := h.hlost
  have hp := sum_pos fun p hp => (h.pos p hp).1
  have hk : lost ≤ lost * (k + 1) := by
    have := Int.mul_le_mul_of_nonneg_left (show (1 : Int) ≤ k + 1 by omega) hl
    omega
  cases hx : lkE E q with
  | none => simp; omega
  | some x =>
    have hm := (look_mem hu).1 hx
    have h1 := sum_mem (fun p hp => (h.pos p hp).1) hm
    have h2 := (h.pos _ hm).1
    simp at h1 h2 ⊢; omega
theorem Inv.wide {k : Nat} {tot lost : Int} {E N : Ents} (h : Inv k tot lost E N) : lost ≤ tot / (k + 1) := by
  have hs := h.sum
  have hp := sum_pos fun p hp => (h.pos p hp).1
  exact (Int.le_ediv_iff_mul_le (by omega)).2 (by omega)

set_option maxRecDepth 100000 in
set_option maxHeartbeats 4000000 in
theorem told_w (o b c bo bm bw k : Nat) (tot lost wide : Int) (E N : Ents) (v : VK) (hv : v.Ok) (w : World) (M : OftAt w o b k tot lost E) (C : MapAt w c N) (I : Inv k tot lost E N) (hw : lost ≤ wide ∧ wide ≤ 4611686018427387904)
    (h1 : w.cell? ⟨bo, 0, none⟩ = some (.pointer (some ⟨o, 0, none⟩))) (h2 : w.cell? ⟨bm, 0, none⟩ = some (.map (some c))) (h3 : w.cell? ⟨bw, 0, none⟩ = some (.int .i64 wide)) :
    Calls Try.prog 20 #[v.val, .pointer (some ⟨bo, 0, none⟩), .pointer (some ⟨bm, 0, none⟩), .pointer (some ⟨bw, 0, none⟩)] w fun e w' => e = .returned (.bool true) ∧ w.Since w.heap.size w' := by
  have hlo := World.block_lt_of_cell? w _ h1
  have hlm := World.block_lt_of_cell? w _ h2
  have hlw := World.block_lt_of_cell? w _ h3
  have hlc := C.lt
  have hbd := I.bound M.map.uniq (cleanV v)
  have hnr := I.near (cleanV v)
  have htot := I.htot
  have hls := I.hlost
  have hvv : v.val = .agg #[.int .i64 v.k, .int .i64 v.n, .string v.s] := rfl
  obtain ⟨W1, hW1⟩ : ∃ W1, W1 = w.alloc (.cells #[.int .i64 v.k, .int .i64 v.n, .string v.s] 28) := ⟨_, rfl⟩
  have S1 : w.Since w.heap.size W1 := by rw [hW1]; exact (World.Since.refl _ w).alloc (Nat.le_refl _) _
  have hz1 : W1.heap.size = w.heap.size + 1 := by rw [hW1]; simp
  have hbx : W1.heap[w.heap.size]? = some (.cells #[.int .i64 v.k, .int .i64 v.n, .string v.s] 28 (0, 0)) := by rw [hW1]; exact heap_alloc_new _ _
  have M1 : OftAt W1 o b k tot lost E := M.keep (S1.block o M.lt) (S1.block b M.map.lt)
  have C1 : MapAt W1 c N := C.keep (S1.block c C.lt)
  have htl := tell_w o b k tot lost E v W1 M1 hv ⟨hbd.1, hls, by omega⟩
  have hcl := fun W => clean_w v W
  have hco := cleanV_ok hv
  have hNl : ∀ W2 : World, W1.Since W1.heap.size W2 → MapAt W2 c N := fun W2 hs => C1.keep (hs.block c (by omega))
  generalize cleanV v = q at *
  obtain ⟨L, hL⟩ : ∃ L, L = (lkE E q).getD 0 := ⟨_, rfl⟩
  obtain ⟨n, hn⟩ : ∃ n, n = (lkE N q).getD 0 := ⟨_, rfl⟩
  rw [← hL] at htl hbd hnr
  rw [← hn] at hnr
  have hqv : q.val = .agg #[.int .i64 q.k, .int .i64 q.n, .string q.s] := rfl
  rw [hvv] at htl hcl ⊢
  rw [hqv] at hcl
  have hn' : Hid (n = (lkE N q).getD 0) := hn
  have HW : Hid (W1 = w.alloc (.cells #[.int .i64 v.k, .int .i64 v.n, .string v.s] 28)) := hW1
  have HS : Hid (w.Since w.heap.size W1) := S1
  obtain ⟨L0, L1⟩ := hbd
  obtain ⟨hn1, hn2⟩ := hnr
  obtain ⟨hw1, hw2⟩ := hw
  have b1 : W1.cell? ⟨bo, 0, none⟩ = some (.pointer (some ⟨o, 0, none⟩)) := since_cell S1 hlo h1
  have b2 : W1.cell? ⟨bm, 0, none⟩ = some (.map (some c)) := since_cell S1 hlm h2
  have b3 : W1.cell? ⟨bw, 0, none⟩ = some (.int .i64 wide) := since_cell S1 hlw h3
  have y0 : W1.cell? ⟨w.heap.size, 0, none⟩ = some (.int .i64 v.k) := cell_of_heap hbx rfl
  have y1 : W1.cell? ⟨w.heap.size, 1, none⟩ = some (.int .i64 v.n) := cell_of_heap hbx rfl
  have y2 : W1.cell? ⟨w.heap.size, 2, none⟩ = some (.string v.s) := cell_of_heap hbx rfl
  have hXl : L + lost - L = lost := by omega
  clear M C I hL hn M1 C1 hvv hbx h1 h2 h3 S1
  rw [hW1] at b1 b2 b3 y0 y1 y2 htl
  go_enter Try.func20, Try.ntmps20
  go_wp2_with (go_at_call 21; (with_reducible refine htl.mono ?_); rintro e w2 ⟨rfl, hs2⟩)
  rw [← (show _ = _ from HW)] at hs2 b2 b3 y0 y1 y2
  have d2 : w2.cell? ⟨bm, 0, none⟩ = some (.map (some c)) := since_cell hs2 (by omega) b2
  have d3 : w2.cell? ⟨bw, 0, none⟩ = some (.int .i64 wide) := since_cell hs2 (by omega) b3
  have z0 : w2.cell? ⟨w.heap.size, 0, none⟩ = some (.int .i64 v.k) := since_cell hs2 (by omega) y0
  have z1 : w2.cell? ⟨w.heap.size, 1, none⟩ = some (.int .i64 v.n) := since_cell hs2 (by omega) y1
  have z2 : w2.cell? ⟨w.heap.size, 2, none⟩ = some (.string v.s) := since_cell hs2 (by omega) y2
  have hz2 := hs2.size
  have hB2 : w.heap.size < w2.drew.heap.size := by show w.heap.size < w2.heap.size; omega
  have hm2 : bm < w2.drew.heap.size := by show bm < w2.heap.size; omega
  have hw2' : bw < w2.drew.heap.size := by show bw < w2.heap.size; omega
  have hNl2 : ∀ W3 : World, w2.drew.Since w2.drew.heap.size W3 → MapAt W3 c N := fun W3 hs => hNl W3 ⟨hs.os.trans hs2.os, hs.tape.trans hs2.tape, hs.output.trans hs2.output, Nat.le_trans hs2.size hs.size, fun j hj => (hs.block j (by show j < w2.heap.size; omega)).trans (hs2.block j hj)⟩
  have HS2 : Hid (w.Since w.heap.size W1 ∧ W1.Since W1.heap.size w2 ∧ w.heap.size ≤ W1.heap.size) := ⟨(show _ from HS), hs2, by omega⟩
  clear htl hNl b1 b2 b3 y0 y1 y2 hs2 hW1 HW hz1 hz2 HS
  generalize hBw : w.heap.size = B at *
  generalize v.k = k1 at *
  generalize v.n = n1 at *
  generalize v.s = s1 at *
  go_region_held3 (fun W : World => W.cell? ⟨bm, 0, none⟩ = some (.map (some c)) ∧ W.cell? ⟨B, 0, none⟩ = some (.int .i64 k1) ∧ W.cell? ⟨B, 1, none⟩ = some (.int .i64 n1) ∧ W.cell? ⟨B, 2, none⟩ = some (.string s1))
    (first | exact ⟨d2, z0, z1, z2⟩ | exact ⟨e2, e0, e1, e3⟩)
    (first | (go_at_call 14; (with_reducible refine (hcl _).mono ?_); rintro e w3 ⟨rfl, hs3, hd3⟩; have e2 := since_cell hs3 hm2 d2; have e0 := since_cell hs3 hB2 z0; have e1 := since_cell hs3 hB2 z1; have e3 := since_cell hs3 hB2 z2; have e4 := since_cell hs3 hw2' d3; have hlk := (hNl2 w3 hs3).lookup hco mt44; rw [← (show n = _ from hn')] at hlk; rw [hqv] at hlk))
  have hF : Hid (w2.drew.Since w2.drew.heap.size w3) := hs3
  clear d2 d3 z0 z1 z2 hs3 hd3 e0 e1 e2 e3 hcl hco hqv hlk hNl2 hB2 hm2 hw2' hv
  by_cases hnp : 0 < n
  · have g1 : decide (0 ≤ L) = true := by simp; omega
    go_wp2_with fail
    go_ret
    obtain ⟨f1, f2, f3⟩ := (show _ ∧ _ from HS2)
    have f4 : w2.drew.Since w2.drew.heap.size w3 := hF
    have f5 := f2.size
    try rw [hBw]
    exact ⟨rfl, since_trans (since_trans f1 f2 f3) ⟨f4.os, f4.tape, f4.output, f4.size, f4.block⟩ (Nat.le_trans f3 f5)⟩
  · have hL0 : L = 0 := by omega
    subst hL0
    go_wp2_with fail
    go_ret
    obtain ⟨f1, f2, f3⟩ := (show _ ∧ _ from HS2)
    have f4 : w2.drew.Since w2.drew.heap.size w3 := hF
    have f5 := f2.size
    try rw [hBw]
    exact ⟨rfl, since_trans (since_trans f1 f2 f3) ⟨f4.os, f4.tape, f4.output, f4.size, f4.block⟩ (Nat.le_trans f3 f5)⟩
end Go.Proofs.Ytaaocppaepnhbaa
