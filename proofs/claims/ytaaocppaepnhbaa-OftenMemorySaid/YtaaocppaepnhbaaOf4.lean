/- sketch.Often: Clean, NewOften, Total, walked in the world. Own work; no condition. -/
import Derived.Test.YtaaocppaepnhbaaOf3
import Derived.ProofKit
import Derived.WalkSpells
import Derived.LoopTactic
import Derived.OwnWalk
import Derived.Deep.RegionHeld3
import Derived.Deep.AppendLies
import Derived.Deep.OwnRows
import Derived.Below
import Derived.Deep.DrawnRows
import Derived.Deep.RegionLaw
namespace Go.Proofs.Ytaaocppaepnhbaa
open Go Go.RowKit Go.Deep
set_option linter.unusedVariables false
set_option linter.unusedSimpArgs false

def cleanV (q : VK) : VK := if q.k = 1 then ⟨q.k, q.n, ByteArray.empty⟩ else if q.k = 2 then ⟨q.k, 0, q.s⟩ else ⟨0, 0, ByteArray.empty⟩
theorem cleanV_ok {q : VK} (h : q.Ok) : (cleanV q).Ok := by
  unfold cleanV
  split
  · exact ⟨h.k, h.n, Nat.zero_le _⟩
  · split
    · exact ⟨h.k, rfl, h.s⟩
    · exact ⟨rfl, rfl, Nat.zero_le _⟩
theorem cleanV_idem (q : VK) : cleanV (cleanV q) = cleanV q := by
  unfold cleanV
  split
  · simp_all
  · split
    · simp_all
    · simp

theorem size28 : (Try.prog.info? 28).map (·.size) = some 3 := by kernel_rfl
theorem since2 (w : World) (A B : Obj) : w.Since w.heap.size ((w.alloc A).alloc B) := ((World.Since.refl _ w).alloc (Nat.le_refl _) _).alloc (by simp) _
set_option maxRecDepth 100000 in
theorem clean_w (q : VK) (w : World) : Calls Try.prog 14 #[q.val] w fun e w' => e = .returned (cleanV q).val ∧ w.Since w.heap.size w' ∧ w'.drawn = w.drawn := by
  obtain ⟨k, n, s⟩ := q
  obtain ⟨fs, hfs, _⟩ := und28
  simp only [VK.val]
  by_cases h1 : k = 1
  · subst h1
    go_enter Try.func14, Try.ntmps14
    go_wp2
    refine bodyPost_ret (results_cell_row (p := 2) (ty := 28) rfl _ _ (w.heap.size + 1) 28 _ _ _ rfl (heap_alloc2_new _ _ _) hfs rfl size28) rfl ?_
    exact ⟨rfl, since2 _ _ _, rfl⟩
  · by_cases h2 : k = 2
    · subst h2
      go_enter Try.func14, Try.ntmps14
      go_wp2
      refine bodyPost_ret (results_cell_row (p := 2) (ty := 28) rfl _ _ (w.heap.size + 1) 28 _ _ _ rfl (heap_alloc2_new _ _ _) hfs rfl size28) rfl ?_
      exact ⟨rfl, since2 _ _ _, rfl⟩
    · go_enter Try.func14, Try.ntmps14
      go_wp2
      refine bodyPost_ret (results_cell_row (p := 2) (ty := 28) rfl _ _ (w.heap.size + 1) 28 _ _ _ rfl (heap_alloc2_new _ _ _) hfs rfl size28) rfl ?_
      exact ⟨by simp [cleanV, h1, h2]; rfl, since2 _ _ _, rfl⟩

theorem cell_of_heap {w : World} {b i : Nat} {arr : Array Value} {t : TypeId} {fr : Nat × Nat} {v : Value} (h : w.heap[b]? = some (.cells arr t fr)) (hv : arr[i]? = some v) : w.cell? ⟨b, i, none⟩ = some v := by
  simp [World.cell?, h, hv]
theorem setCell_heap {w : World} {b i : Nat} {arr : Array Value} {t : TypeId} {fr : Nat × Nat} (h : w.heap[b]? = some (.cells arr t fr)) (v : Value) : (w.setCell ⟨b, i, none⟩ v).heap[b]? = some (.cells (arr.setIfInBounds i v) t fr) := by
  have hlt := (Array.getElem?_eq_some_iff.1 h).1
  have hv := (Array.getElem?_eq_some_iff.1 h).2
  unfold World.setCell
  rw [Array.getElem?_eq_getElem (by simpa using hlt), Array.getElem_modify]
  simp [hv]

/-- The row has grown by empty lists, or is another one of the same lists and these. -/
structure Turn (w w' : World) (own : Nat → Prop) : Prop where
  os : w'.os = w.os
  tape : w'.tape = w.tape
  output : w'.output = w.output
  size : w.heap.size ≤ w'.heap.size
  block : ∀ k, k < w.heap.size → ¬ own k → w'.heap[k]? = w.heap[k]?
theorem Turn.refl (w : World) (own : Nat → Prop) : Turn w w own := ⟨rfl, rfl, rfl, Nat.le_refl _, fun _ _ _ => rfl⟩
theorem Turn.trans {a b c : World} {o o' own : Nat → Prop} (h : Turn a b o) (k : Turn b c o') (h1 : ∀ k, o k → own k) (h2 : ∀ k, k < a.heap.size → o' k → own k) : Turn a c own :=
  ⟨k.os.trans h.os, k.tape.trans h.tape, k.output.trans h.output, Nat.le_trans h.size k.size, fun i hi hn => (k.block i (Nat.lt_of_lt_of_le hi h.size) (fun e => hn (h2 i hi e))).trans (h.block i hi (fun e => hn (h1 i e)))⟩
theorem Turn.since {w w' : World} {B : Nat} {own : Nat → Prop} (h : w.Since B w') (hB : w.heap.size ≤ B) : Turn w w' own := ⟨h.os, h.tape, h.output, h.size, fun k hk _ => h.block k (by omega)⟩
theorem Turn.grown {w w' : World} {row : Option Nat} {own : Nat → Prop} (h : w.grownBy w' row) (ho : ∀ k, row = some k → k < w.heap.size → own k) : Turn w w' own :=
  ⟨h.os, h.tape, h.output, h.size, fun k hk hn => h.block k hk (fun e => hn (ho k e.symm hk))⟩
theorem Turn.cell {w : World} (a : Addr) (v : Value) {own : Nat → Prop} (ho : own a.block) : Turn w (w.setCell a v) own :=
  ⟨rfl, rfl, rfl, by rw [nblk_setCell]; exact Nat.le_refl _, fun k hk hn => blk_setCell_other _ _ _ _ (fun e => hn (e ▸ ho))⟩
/-- How an Often lies. -/
structure OftAt (w : World) (o b : Nat) (k tot lost : Int) (E : Ents) : Prop where
  blk : ∃ t, w.heap[o]? = some (.cells #[.int .i64 k, .int .i64 tot, .int .i64 lost, .map (some b)] t (0, 0))
  map : MapAt w b E
theorem OftAt.ne {w : World} {o b : Nat} {k tot lost : Int} {E : Ents} (h : OftAt w o b k tot lost E) : o ≠ b := by
  obtain ⟨t, ht⟩ := h.blk
  obtain ⟨es, clk, hb, _⟩ := h.map
  intro e; rw [e, hb] at ht; cases ht
theorem OftAt.keep {w w' : World} {o b : Nat} {k tot lost : Int} {E : Ents} (h : OftAt w o b k tot lost E) (ho : w'.heap[o]? = w.heap[o]?) (hb : w'.heap[b]? = w.heap[b]?) : OftAt w' o b k tot lost E :=
  ⟨by obtain ⟨t, ht⟩ := h.blk; exact ⟨t, ho.trans ht⟩, h.map.keep hb⟩
theorem OftAt.lt {w : World} {o b : Nat} {k tot lost : Int} {E : Ents} (h : OftAt w o b k tot lost E) : o < w.heap.size := by
  obtain ⟨t, ht⟩ := h.blk; exact (Array.getElem?_eq_some_iff.1 ht).1

set_option maxRecDepth 100000 in
theorem total_w (o b : Nat) (k tot lost : Int) (E : Ents) (w : World) (M : OftAt w o b k tot lost E) :
    Calls Try.prog 9 #[.pointer (some ⟨o, 0, none⟩)] w fun e w' => e = .returned (.int .i64 tot) ∧ w' = w := by
  obtain ⟨t, hbk⟩ := M.blk
  have c1 : w.cell? ⟨o, 1, none⟩ = some (.int .i64 tot) := cell_of_heap hbk rfl
  go_enter Try.func9, Try.ntmps9
  go_wp2
  go_ret
  exact ⟨rfl, rfl⟩
def okK (k : Int) : Bool := decide (1 ≤ k) && decide (k ≤ 1024)
set_option maxRecDepth 100000 in
theorem new_bad (k : Int) (h : okK k = false) (w : World) : Calls Try.prog 5 #[.int .i64 k] w fun e w' => e = .returned (.tuple #[.pointer none, .int .i64 1]) ∧ w' = w := by
  by_cases h1 : k < 1
  · go_enter Try.func5, Try.ntmps5
    go_wp2
    go_ret2
    exact ⟨rfl, rfl⟩
  · have h2 : 1024 < k := by simp [okK] at h; omega
    go_enter Try.func5, Try.ntmps5
    go_wp2
    go_ret2
    exact ⟨rfl, rfl⟩
set_option maxRecDepth 100000 in
theorem new_ok (k : Int) (h : okK k = true) (w : World) : Calls Try.prog 5 #[.int .i64 k] w fun e w' => e = .returned (.tuple #[.pointer (some ⟨w.heap.size + 1, 0, none⟩), .int .i64 0]) ∧ OftAt w' (w.heap.size + 1) w.heap.size k 0 0 [] ∧ w.Since w.heap.size w' := by
  have h0 : 1 ≤ k ∧ k ≤ 1024 := by simpa [okK] using h
  have h1 : ¬ k < 1 := by omega
  have h2 : ¬ 1024 < k := by omega
  have hmm := @run_makeMap Try.prog
  go_enter Try.func5, Try.ntmps5
  go_wp2
  go_ret2
  refine ⟨rfl, ⟨⟨_, heap_alloc2_new _ _ _⟩, ⟨_, _, heap_alloc2_old _ _ _, ⟨MapKept.stamped_empty 0, by simp, by simp⟩⟩⟩, since2 _ _ _⟩
