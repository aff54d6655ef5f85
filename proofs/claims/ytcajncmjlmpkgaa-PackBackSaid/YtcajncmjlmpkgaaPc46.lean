/- The order of values, the program's, walked in the world; The order of values, the reference's, walked in the world. Own work; no condition. -/
import Derived.Test.YtcajncmjlmpkgaaPc43
import Derived.WalkKit
import Derived.ProofKit
import Derived.WalkSpells
import Derived.LoopTactic
import Derived.OwnWalk
import Derived.Deep.RegionHeld3
import Derived.Deep.AppendLies
import Derived.Deep.OwnRows
import Derived.Below
import Derived.Deep.DrawnRows
import Derived.Deep.RegionLaw
import Derived.Deep.QuietTactic
import Derived.Deep.RegionWith
import Derived.IntWalk
import Derived.Lib.Bytealg
import Derived.Deep.Heap
import Derived.Sort.Grow
import Derived.Test.YtcajncmjlmpkgaaChecked
namespace Go.Proofs.Ytcajncmjlmpkgaa
open Go Go.RowKit Go.Sort Go.Deep
set_option linter.unusedVariables false
set_option linter.unusedSimpArgs false
instance : Inhabited Val := ⟨⟨0, 0, ⟨#[]⟩⟩⟩
def Val.val (q : Val) : Value := .agg #[.int .i64 q.k, .int .i64 q.n, .string q.s]
def encV (q : Val) : List Value := [.int .i64 q.k, .int .i64 q.n, .string q.s]
theorem und24a : (match Try.prog.underlying 24 with | some (.struct fs) => some (fs.toList.map (fun (f : Field) => (f.type, f.offset)), fs.all (fun (f : Field) => f.name != "_")) | _ => none) = some ([(3, 0), (2, 1), (9, 2)], true) := by kernel_rfl
theorem und24 : ∃ fs : Array Field, Try.prog.underlying 24 = some (.struct fs) ∧ fs.toList.map (fun (f : Field) => (f.type, f.offset)) = [(3, 0), (2, 1), (9, 2)] ∧ fs.all (fun (f : Field) => f.name != "_") = true := by
 have h := und24a
 split at h
 · rename_i fs e; simp only [Option.some.injEq, Prod.mk.injEq] at h; exact ⟨fs, e, h.1, h.2⟩
 · cases h
theorem size24 : (Try.prog.info? 24).map (·.size) = some 3 := by kernel_rfl
theorem since2 (w : World) (A B : Obj) : w.Since w.heap.size ((w.alloc A).alloc B) := ((World.Since.refl _ w).alloc (Nat.le_refl _) _).alloc (by simp) _
set_option maxRecDepth 100000 in
theorem clean_w (q : Val) (w : World) : Calls Try.prog 31 #[q.val] w fun e w' => e = .returned (clean q).val ∧ w.Since w.heap.size w' ∧ w'.drawn = w.drawn := by
 obtain ⟨k, n, s⟩ := q
 obtain ⟨fs, hfs, _⟩ := und24
 simp only [Val.val]
 by_cases h1 : k = 1
 · subst h1
   go_enter Try.func31, Try.ntmps31
   go_wp2
   refine bodyPost_ret (results_cell_row (p := 2) (ty := 24) rfl _ _ (w.heap.size + 1) 24 _ _ _ rfl (heap_alloc2_new _ _ _) hfs rfl size24) rfl ?_
   exact ⟨rfl, since2 _ _ _, rfl⟩
 · by_cases h2 : k = 2
   · subst h2
     go_enter Try.func31, Try.ntmps31
     go_wp2
     refine bodyPost_ret (results_cell_row (p := 2) (ty := 24) rfl _ _ (w.heap.size + 1) 24 _ _ _ rfl (heap_alloc2_new _ _ _) hfs rfl size24) rfl ?_
     exact ⟨rfl, since2 _ _ _, rfl⟩
   · go_enter Try.func31, Try.ntmps31
     go_wp2
     refine bodyPost_ret (results_cell_row (p := 2) (ty := 24) rfl _ _ (w.heap.size + 1) 24 _ _ _ rfl (heap_alloc2_new _ _ _) hfs rfl size24) rfl ?_
     exact ⟨by simp [clean, h1, h2, Val.zero], since2 _ _ _, rfl⟩
theorem cell_of_heap {w : World} {b i : Nat} {arr : Array Value} {t : TypeId} {fr : Nat × Nat} {v : Value} (h : w.heap[b]? = some (.cells arr t fr)) (hv : arr[i]? = some v) : w.cell? ⟨b, i, none⟩ = some v := by
 simp [World.cell?, h, hv]
theorem setCell_heap {w : World} {b i : Nat} {arr : Array Value} {t : TypeId} {fr : Nat × Nat} (h : w.heap[b]? = some (.cells arr t fr)) (v : Value) : (w.setCell ⟨b, i, none⟩ v).heap[b]? = some (.cells (arr.setIfInBounds i v) t fr) := by
 have hlt := (Array.getElem?_eq_some_iff.1 h).1
 have hv := (Array.getElem?_eq_some_iff.1 h).2
 unfold World.setCell
 rw [Array.getElem?_eq_getElem (by simpa using hlt), Array.getElem_modify]
 simp [hv]
theorem since_cell {w w' : World} {B g i : Nat} {v : Value} (h : w.Since B w') (hg : g < B) (hv : w.cell? ⟨g, i, none⟩ = some v) : w'.cell? ⟨g, i, none⟩ = some v := (h.cell hg).trans hv
theorem since_trans {a b c : World} {B B' : Nat} (h : a.Since B b) (k : b.Since B' c) (hB : B ≤ B') : a.Since B c := ⟨k.os.trans h.os, k.tape.trans h.tape, k.output.trans h.output, Nat.le_trans h.size k.size, fun j hj => (k.block j (by omega)).trans (h.block j hj)⟩
set_option maxRecDepth 100000 in
theorem compare3_w (a b : Int) (w : World) : Calls Try.prog 91 #[.int .i64 a, .int .i64 b] w fun e w' => e = .returned (.int .i64 (cmpI a b)) ∧ w' = w := by
 have hn : ∀ (c : Int) (W : World), Calls Try.prog 99 #[.int .i64 c] W fun e w' => e = .returned (.bool false) ∧ w' = W := fun c W => by
   go_enter Try.func99, Try.ntmps99
   go_wp2
   go_ret
   simp
 unfold cmpI
 by_cases h1 : a < b
 · go_enter Try.func91, Try.ntmps91
   go_wp2_with (first | (go_at_call 99; with_reducible refine (hn _ _).mono ?_; rintro e w1 ⟨rfl, rfl⟩))
   go_ret
   simp [h1]
 · by_cases h2 : b < a
   · go_enter Try.func91, Try.ntmps91
     go_wp2_with (first | (go_at_call 99; with_reducible refine (hn _ _).mono ?_; rintro e w1 ⟨rfl, rfl⟩))
     go_ret
     simp [h1, h2]
   · go_enter Try.func91, Try.ntmps91
     go_wp2_with (first | (go_at_call 99; with_reducible refine (hn _ _).mono ?_; rintro e w1 ⟨rfl, rfl⟩))
     go_ret
     simp [h1, h2]
set_option maxRecDepth 100000 in
theorem compare2_w (a b : Int) (w : World) : Calls Try.prog 92 #[.int .i64 a, .int .i64 b] w fun e w' => e = .returned (.int .i64 (cmpI a b)) ∧ w' = w := by
 have hn : ∀ (c : Int) (W : World), Calls Try.prog 100 #[.int .i64 c] W fun e w' => e = .returned (.bool false) ∧ w' = W := fun c W => by
   go_enter Try.func100, Try.ntmps100
   go_wp2
   go_ret
   simp
 unfold cmpI
 by_cases h1 : a < b
 · go_enter Try.func92, Try.ntmps92
   go_wp2_with (first | (go_at_call 100; with_reducible refine (hn _ _).mono ?_; rintro e w1 ⟨rfl, rfl⟩))
   go_ret
   simp [h1]
 · by_cases h2 : b < a
   · go_enter Try.func92, Try.ntmps92
     go_wp2_with (first | (go_at_call 100; with_reducible refine (hn _ _).mono ?_; rintro e w1 ⟨rfl, rfl⟩))
     go_ret
     simp [h1, h2]
   · go_enter Try.func92, Try.ntmps92
     go_wp2_with (first | (go_at_call 100; with_reducible refine (hn _ _).mono ?_; rintro e w1 ⟨rfl, rfl⟩))
     go_ret
     simp [h1, h2]
set_option maxRecDepth 100000 in
theorem compareString_w (a b : ByteArray) (w : World) : Calls Try.prog 101 #[.string a, .string b] w fun e w' => e = .returned (.int .i64 (cmpS a b)) ∧ w' = w := by
 go_enter Try.func101, Try.ntmps101
 go_wp2
 rw [run_callFunc_extern Try.func121 (by kernel_rfl) (by kernel_rfl) (by kernel_rfl) (e := Extern.BytealgCompare.compare) (by kernel_rfl), Lib.run_compareString]
 simp only [Result.andThen]
 rw [Oper.upon_value]
 go_wp2
 go_ret
 exact ⟨rfl, rfl⟩
set_option maxRecDepth 100000 in
theorem strCompare_w (a b : ByteArray) (w : World) : Calls Try.prog 93 #[.string a, .string b] w fun e w' => e = .returned (.int .i64 (cmpS a b)) ∧ w' = w := by
 go_enter Try.func93, Try.ntmps93
 go_wp2_with (first | (go_at_call 101; refine (compareString_w _ _ _).mono ?_; rintro e w1 ⟨rfl, rfl⟩))
 go_ret
 exact ⟨rfl, rfl⟩
def or3 (a b c : Int) : Int := if a ≠ 0 then a else if b ≠ 0 then b else c
set_option maxRecDepth 100000 in
theorem or_w (g : Nat) (a b c : Int) (w : World) (h0 : w.cell? ⟨g, 0, none⟩ = some (.int .i64 a)) (h1 : w.cell? ⟨g, 1, none⟩ = some (.int .i64 b)) (h2 : w.cell? ⟨g, 2, none⟩ = some (.int .i64 c)) :
   Calls Try.prog 90 #[.slice (some ⟨g, 0, none⟩) 3 3] w fun e w' => e = .returned (.int .i64 (or3 a b c)) ∧ w' = w := by
 unfold or3
 by_cases ha : a = 0
 · subst ha
   by_cases hb : b = 0
   · subst hb
     by_cases hc : c = 0
     · subst hc
       go_enter Try.func90, Try.ntmps90
       go_wp2
       refine wp_loop_rounds 4 ?_
       rw [rounds_succ]
       go_wp2
       rw [rounds_succ]
       go_wp2
       rw [rounds_succ]
       go_wp2
       rw [rounds_succ]
       go_wp2
       go_ret
       exact ⟨rfl, rfl⟩
     · go_enter Try.func90, Try.ntmps90
       go_wp2
       refine wp_loop_rounds 3 ?_
       rw [rounds_succ]
       go_wp2
       rw [rounds_succ]
       go_wp2
       rw [rounds_succ]
       go_wp2
       go_ret
       simp
   · go_enter Try.func90, Try.ntmps90
     go_wp2
     refine wp_loop_rounds 2 ?_
     rw [rounds_succ]
     go_wp2
     rw [rounds_succ]
     go_wp2
     go_ret
     simp [hb]
 · go_enter Try.func90, Try.ntmps90
   go_wp2
   refine wp_loop_rounds 1 ?_
   rw [rounds_succ]
   go_wp2
   go_ret
   simp [ha]
theorem frozen_since {w w' : World} {B g i : Nat} (h : w.Since B w') (hg : g < B) : w'.frozen? ⟨g, i, none⟩ = w.frozen? ⟨g, i, none⟩ := World.frozen?_of_block (w := w) (h.block g hg)
theorem set3 {w : World} {b : Nat} {t : TypeId} {x y z x' y' z' : Value} (h : w.heap[b]? = some (.cells #[x, y, z] t (0, 0))) : (((w.setCell ⟨b, 0, none⟩ x').setCell ⟨b, 1, none⟩ y').setCell ⟨b, 2, none⟩ z').heap[b]? = some (.cells #[x', y', z'] t (0, 0)) := by
 have h1 := setCell_heap (i := 0) h x'
 have h2 := setCell_heap (i := 1) h1 y'
 have h3 := setCell_heap (i := 2) h2 z'
 exact h3
theorem set3_other {w : World} {b c : Nat} {x' y' z' : Value} (h : c ≠ b) : (((w.setCell ⟨b, 0, none⟩ x').setCell ⟨b, 1, none⟩ y').setCell ⟨b, 2, none⟩ z').heap[c]? = w.heap[c]? := by
 rw [blk_setCell_other _ _ _ _ h, blk_setCell_other _ _ _ _ h, blk_setCell_other _ _ _ _ h]
theorem cell_alloc {w : World} {g i : Nat} {v : Value} (o : Obj) (h : w.cell? ⟨g, i, none⟩ = some v) : (w.alloc o).cell? ⟨g, i, none⟩ = some v :=
 (World.cell?_of_block (w := w) (blk_alloc_lt _ _ _ (World.block_lt_of_cell? w _ h))).trans h
theorem or_new (a b c : Int) (t : TypeId) (w : World) : Calls Try.prog 90 #[.slice (some ⟨w.heap.size, 0, none⟩) 3 3] (w.alloc (.cells #[.int .i64 a, .int .i64 b, .int .i64 c] t)).drew fun e w' => e = .returned (.int .i64 (or3 a b c)) ∧ w' = (w.alloc (.cells #[.int .i64 a, .int .i64 b, .int .i64 c] t)).drew :=
 or_w w.heap.size a b c _ (cell_of_heap (heap_alloc_new _ _) rfl) (cell_of_heap (heap_alloc_new _ _) rfl) (cell_of_heap (heap_alloc_new _ _) rfl)
def ordV (p q : Val) : Int := or3 (cmpI (clean p).k (clean q).k) (cmpI (clean p).n (clean q).n) (cmpS (clean p).s (clean q).s)
set_option maxRecDepth 100000 in
set_option maxHeartbeats 4000000 in
theorem order_w (p q : Val) (w : World) : Calls Try.prog 72 #[p.val, q.val] w fun e w' => e = .returned (.int .i64 (ordV p q)) ∧ w.Since w.heap.size w' ∧ w.drawn ≤ w'.drawn := by
 have hp := fun W => clean_w p W
 have hq := fun W => clean_w q W
 unfold ordV
 generalize clean p = p' at hp ⊢
 generalize clean q = q' at hq ⊢
 obtain ⟨k1, n1, s1⟩ := p
 obtain ⟨k2, n2, s2⟩ := q
 obtain ⟨k3, n3, s3⟩ := p'
 obtain ⟨k4, n4, s4⟩ := q'
 simp only [Val.val] at hp hq ⊢
 go_enter Try.func72, Try.ntmps72
 go_wp2_with fail
 have a0 : ((w.alloc (.cells #[.int .i64 k1, .int .i64 n1, .string s1] 24)).alloc (.cells #[.int .i64 k2, .int .i64 n2, .string s2] 24)).heap[w.heap.size]? = some (.cells #[.int .i64 k1, .int .i64 n1, .string s1] 24 (0, 0)) := heap_alloc2_old _ _ _
 have b0 : ((w.alloc (.cells #[.int .i64 k1, .int .i64 n1, .string s1] 24)).alloc (.cells #[.int .i64 k2, .int .i64 n2, .string s2] 24)).heap[w.heap.size + 1]? = some (.cells #[.int .i64 k2, .int .i64 n2, .string s2] 24 (0, 0)) := heap_alloc2_new _ _ _
 have hs1 := since2 w (.cells #[.int .i64 k1, .int .i64 n1, .string s1] 24) (.cells #[.int .i64 k2, .int .i64 n2, .string s2] 24)
 have hn1 : w.heap.size + 1 < ((w.alloc (.cells #[.int .i64 k1, .int .i64 n1, .string s1] 24)).alloc (.cells #[.int .i64 k2, .int .i64 n2, .string s2] 24)).heap.size := by simp
 have hdw : ((w.alloc (.cells #[.int .i64 k1, .int .i64 n1, .string s1] 24)).alloc (.cells #[.int .i64 k2, .int .i64 n2, .string s2] 24)).drawn = w.drawn := rfl
 generalize (w.alloc (.cells #[.int .i64 k1, .int .i64 n1, .string s1] 24)).alloc (.cells #[.int .i64 k2, .int .i64 n2, .string s2] 24) = w1 at a0 b0 hs1 hn1 hdw ⊢
 generalize hn : w.heap.size = n at a0 b0 hn1 ⊢
 generalize hm : n + 1 = m at b0 hn1 ⊢
 have hnm : n ≠ m := by omega
 have hn0 : n < w1.heap.size := by omega
 have D := hs1
 have u0 : w1.cell? ⟨n, 0, none⟩ = some (.int .i64 k1) := cell_of_heap a0 rfl
 have u1 : w1.cell? ⟨n, 1, none⟩ = some (.int .i64 n1) := cell_of_heap a0 rfl
 have u2 : w1.cell? ⟨n, 2, none⟩ = some (.string s1) := cell_of_heap a0 rfl
 have v0 : w1.cell? ⟨m, 0, none⟩ = some (.int .i64 k2) := cell_of_heap b0 rfl
 have v1 : w1.cell? ⟨m, 1, none⟩ = some (.int .i64 n2) := cell_of_heap b0 rfl
 have v2 : w1.cell? ⟨m, 2, none⟩ = some (.string s2) := cell_of_heap b0 rfl
 have fu : ∀ i, w1.frozen? ⟨n, i, none⟩ = false := fun i => by simp [World.frozen?, a0]
 have fv : ∀ i, w1.frozen? ⟨m, i, none⟩ = false := fun i => by simp [World.frozen?, b0]
 have HH : Hid (w.heap.size = n ∧ n + 1 = m ∧ w.Since n w1 ∧ w1.drawn = w.drawn ∧ w1.heap[n]? = some (.cells #[.int .i64 k1, .int .i64 n1, .string s1] 24 (0, 0)) ∧ w1.heap[m]? = some (.cells #[.int .i64 k2, .int .i64 n2, .string s2] 24 (0, 0)) ∧ n < w1.heap.size ∧ m < w1.heap.size) := ⟨hn, hm, by rw [← hn]; exact hs1, hdw, a0, b0, hn0, hn1⟩
 clear a0 b0 hs1 D hn hm hdw
 go_region_law (first
   | (go_simp; go_at_call 31; (with_reducible refine (hp _).mono ?_); rintro e w2 ⟨rfl, hs2, hd2⟩; have u0 := since_cell hs2 hn0 u0; have u1 := since_cell hs2 hn0 u1; have u2 := since_cell hs2 hn0 u2; have v0 := since_cell hs2 hn1 v0; have v1 := since_cell hs2 hn1 v1; have v2 := since_cell hs2 hn1 v2; have fu := fun i => (frozen_since hs2 hn0).trans (fu i); have fv := fun i => (frozen_since hs2 hn1).trans (fv i); have hn1 := Nat.lt_of_lt_of_le hn1 hs2.size; have hn0 := Nat.lt_of_lt_of_le hn0 hs2.size)
   | (go_simp; go_at_call 31; (with_reducible refine (hq _).mono ?_); rintro e w3 ⟨rfl, hs3, hd3⟩; have u0 := since_cell hs3 hn0 u0; have u1 := since_cell hs3 hn0 u1; have u2 := since_cell hs3 hn0 u2; have v0 := since_cell hs3 hn1 v0; have v1 := since_cell hs3 hn1 v1; have v2 := since_cell hs3 hn1 v2; have fu := fun i => (frozen_since hs3 hn0).trans (fu i); have fv := fun i => (frozen_since hs3 hn1).trans (fv i); have hn1 := Nat.lt_of_lt_of_le hn1 hs3.size; have hn0 := Nat.lt_of_lt_of_le hn0 hs3.size))
 all_goals (
   have hX : w.heap.size = n ∧ n + 1 = m ∧ w.Since n ((((((w3.setCell ⟨n, 0, none⟩ (.int .i64 k3)).setCell ⟨n, 1, none⟩ (.int .i64 n3)).setCell ⟨n, 2, none⟩ (.string s3)).setCell ⟨m, 0, none⟩ (.int .i64 k4)).setCell ⟨m, 1, none⟩ (.int .i64 n4)).setCell ⟨m, 2, none⟩ (.string s4)) ∧ w.drawn ≤ ((((((w3.setCell ⟨n, 0, none⟩ (.int .i64 k3)).setCell ⟨n, 1, none⟩ (.int .i64 n3)).setCell ⟨n, 2, none⟩ (.string s3)).setCell ⟨m, 0, none⟩ (.int .i64 k4)).setCell ⟨m, 1, none⟩ (.int .i64 n4)).setCell ⟨m, 2, none⟩ (.string s4)).drawn ∧ ((((((w3.setCell ⟨n, 0, none⟩ (.int .i64 k3)).setCell ⟨n, 1, none⟩ (.int .i64 n3)).setCell ⟨n, 2, none⟩ (.string s3)).setCell ⟨m, 0, none⟩ (.int .i64 k4)).setCell ⟨m, 1, none⟩ (.int .i64 n4)).setCell ⟨m, 2, none⟩ (.string s4)).heap[n]? = some (.cells #[.int .i64 k3, .int .i64 n3, .string s3] 24 (0, 0)) ∧ ((((((w3.setCell ⟨n, 0, none⟩ (.int .i64 k3)).setCell ⟨n, 1, none⟩ (.int .i64 n3)).setCell ⟨n, 2, none⟩ (.string s3)).setCell ⟨m, 0, none⟩ (.int .i64 k4)).setCell ⟨m, 1, none⟩ (.int .i64 n4)).setCell ⟨m, 2, none⟩ (.string s4)).heap[m]? = some (.cells #[.int .i64 k4, .int .i64 n4, .string s4] 24 (0, 0)) := by
     obtain ⟨e1, e2, e3, e4, e5, e6, e7, e8⟩ := (show _ ∧ _ from HH)
     have z2 := hs2.size
     try simp at z2
     have q2 : w1.Since n w2 := ⟨hs2.os, hs2.tape, hs2.output, hs2.size, fun k hk => hs2.block k (by first | omega | (simp; omega))⟩
     have q3 : w2.Since n w3 := ⟨hs3.os, hs3.tape, hs3.output, hs3.size, fun k hk => hs3.block k (by first | omega | (simp; omega))⟩
     have q4 : w.Since n w3 := since_trans (since_trans e3 q2 (Nat.le_refl _)) q3 (Nat.le_refl _)
     have x1 : w3.heap[n]? = some (.cells #[.int .i64 k1, .int .i64 n1, .string s1] 24 (0, 0)) := ((hs3.block n (by first | omega | (simp; omega))).trans (hs2.block n (by first | omega | (simp; omega)))).trans e5
     have x2 : w3.heap[m]? = some (.cells #[.int .i64 k2, .int .i64 n2, .string s2] 24 (0, 0)) := ((hs3.block m (by first | omega | (simp; omega))).trans (hs2.block m (by first | omega | (simp; omega)))).trans e6
     refine ⟨e1, e2, ?_, by (try simp at hd2 hd3 ⊢); omega, ?_, ?_⟩
     · exact (((((q4.setCell (by simp) _).setCell (by simp) _).setCell (by simp) _).setCell (by simp; omega) _).setCell (by simp; omega) _).setCell (by simp; omega) _
     · rw [set3_other hnm]; exact set3 x1
     · exact set3 ((set3_other (Ne.symm hnm)).trans x2)
   generalize ((((((w3.setCell ⟨n, 0, none⟩ (.int .i64 k3)).setCell ⟨n, 1, none⟩ (.int .i64 n3)).setCell ⟨n, 2, none⟩ (.string s3)).setCell ⟨m, 0, none⟩ (.int .i64 k4)).setCell ⟨m, 1, none⟩ (.int .i64 n4)).setCell ⟨m, 2, none⟩ (.string s4)) = w4 at *
   have HH : Hid (w.heap.size = n ∧ w.Since n w4 ∧ w.drawn ≤ w4.drawn) := ⟨hX.1, hX.2.2.1, hX.2.2.2.1⟩
   obtain ⟨-, -, -, -, x1, x2⟩ := hX
   have u0 : w4.cell? ⟨n, 0, none⟩ = some (.int .i64 k3) := cell_of_heap x1 rfl
   have u1 : w4.cell? ⟨n, 1, none⟩ = some (.int .i64 n3) := cell_of_heap x1 rfl
   have u2 : w4.cell? ⟨n, 2, none⟩ = some (.string s3) := cell_of_heap x1 rfl
   have v0 : w4.cell? ⟨m, 0, none⟩ = some (.int .i64 k4) := cell_of_heap x2 rfl
   have v1 : w4.cell? ⟨m, 1, none⟩ = some (.int .i64 n4) := cell_of_heap x2 rfl
   have v2 : w4.cell? ⟨m, 2, none⟩ = some (.string s4) := cell_of_heap x2 rfl
   clear x1 x2 hs2 hs3 hd2 hd3 hp hq
   go_wp2_with fail
   go_region_held3 (fun W : World => W.cell? ⟨n, 0, none⟩ = some (.int .i64 k3) ∧ W.cell? ⟨n, 1, none⟩ = some (.int .i64 n3) ∧ W.cell? ⟨n, 2, none⟩ = some (.string s3) ∧ W.cell? ⟨m, 0, none⟩ = some (.int .i64 k4) ∧ W.cell? ⟨m, 1, none⟩ = some (.int .i64 n4) ∧ W.cell? ⟨m, 2, none⟩ = some (.string s4))
     (first | exact ⟨u0, u1, u2, v0, v1, v2⟩ | exact ⟨cell_alloc _ u0, cell_alloc _ u1, cell_alloc _ u2, cell_alloc _ v0, cell_alloc _ v1, cell_alloc _ v2⟩)
     (first
     | (go_at_call 90; (with_reducible refine (or_new _ _ _ _ _).mono ?_); rintro e w5 ⟨rfl, rfl⟩; have u0 := u0)
     | (go_at_call 91; (with_reducible refine (compare3_w _ _ _).mono ?_); rintro e w5 ⟨rfl, rfl⟩; have u0 := u0)
     | (go_at_call 92; (with_reducible refine (compare2_w _ _ _).mono ?_); rintro e w5 ⟨rfl, rfl⟩; have u0 := u0)
     | (go_at_call 93; (with_reducible refine (strCompare_w _ _ _).mono ?_); rintro e w5 ⟨rfl, rfl⟩; have u0 := u0))
   go_wp2_with fail
   go_ret
   obtain ⟨e1, e2, e3⟩ := (show _ ∧ _ from HH)
   exact ⟨rfl, ⟨e2.os, e2.tape, e2.output, by have := e2.size; simp; omega, fun k hk => (blk_alloc_lt _ _ _ (by have := e2.size; omega)).trans (e2.block k (by omega))⟩, by simp; omega⟩)
theorem ordV_order (p q : Val) : ordV p q = orderV p q := by
 unfold ordV orderV or3
 simp only [orI]
 (repeat' split) <;> first | rfl | omega | (simp_all; done)
end Go.Proofs.Ytcajncmjlmpkgaa

namespace Go.Proofs.Ytcajncmjlmpkgaa
open Go Go.RowKit Go.Sort Go.Deep
set_option linter.unusedVariables false
set_option linter.unusedSimpArgs false
end Go.Proofs.Ytcajncmjlmpkgaa
