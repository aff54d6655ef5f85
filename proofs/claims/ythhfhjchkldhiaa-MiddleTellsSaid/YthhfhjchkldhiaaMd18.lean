/- MiddleTells: the first loop. Own work; no condition. -/
import Derived.Test.YthhfhjchkldhiaaMd17
namespace Go.Proofs.Ythhfhjchkldhiaa
open Go Go.RowKit Go.Deep
set_option linter.unusedSimpArgs false
set_option linter.unusedVariables false

theorem below_turn {H : Nat} {w w1 w2 : World} {own : Nat → Prop} (h : Below H w w1) (T : Turn w1 w2 own) (hH : H ≤ w1.heap.size) (ho : ∀ q, own q → H ≤ q) : Below H w w2 :=
  ⟨T.os.trans h.os, T.tape.trans h.tape, T.output.trans h.output, Nat.le_trans h.size T.size, fun k hk => (T.block k (by omega) (fun e => by have := ho k e; omega)).trans (h.block k hk)⟩

theorem since_grown2 {w W wA : World} {row : Option Nat} (hg : W.grownBy wA row) (hs : w.Since w.heap.size W) (hr : ∀ k, row = some k → w.heap.size ≤ k) : w.Since w.heap.size wA := hs.grown hg hs.size hr
theorem since_a1 (w : World) (o : Obj) : w.Since w.heap.size (w.alloc o).drew := ((World.Since.refl _ w).alloc (Nat.le_refl _) o).drew
theorem since_a2 (w : World) (o o' : Obj) : w.Since w.heap.size ((w.alloc o).alloc o').drew := (((World.Since.refl _ w).alloc (Nat.le_refl _) o).alloc (by simp) o').drew
theorem cell_second (w : World) (o : Obj) (x : Value) (t : TypeId) : ((w.alloc o).alloc (.cells #[x] t)).cell? ⟨w.heap.size + 1, 0, none⟩ = some x := by
  have h := heap_alloc_new (w.alloc o) (.cells #[x] t)
  rw [show (w.alloc o).heap.size = w.heap.size + 1 by simp] at h
  exact cell_of_heap h rfl
theorem cell_first (w : World) (o : Obj) (x : Value) (t : TypeId) : ((w.alloc (.cells #[x] t)).alloc o).cell? ⟨w.heap.size, 0, none⟩ = some x := by
  have h := heap_alloc_new w (.cells #[x] t)
  exact cell_of_heap ((blk_alloc_lt _ _ _ (by simp)).trans h) rfl
theorem Rd.one {w : World} {g : Nat} {u : Value} (h : w.cell? ⟨g, 0, none⟩ = some u) : Rd w (.slice (some ⟨g, 0, none⟩) 1 1) [u] := by
  refine .inr ⟨_, 1, 1, rfl, rfl, Nat.le_refl _, by simp [maxLen], fun j v hv => ?_⟩
  match j, hv with
  | 0, hv => simp at hv; subst hv; rw [add0]; exact h
theorem Rd.new (w : World) (x : Value) (t : TypeId) : Rd (w.alloc (.cells #[x] t)) (.slice (some ⟨w.heap.size, 0, none⟩) 1 1) [x] := Rd.one (cell_of_heap (heap_alloc_new w _) rfl)
theorem own_first (w : World) (o : Obj) : ((w.alloc (.cells #[] 2)).alloc o).ownsRow w.heap.size 2 1 (.slice (some ⟨w.heap.size, 0, none⟩) 0 0) 0 [] := (World.ownsRow_made w #[] 0 (Nat.le_refl _) (by simp) rfl).alloc _
theorem own_second (w : World) (o : Obj) : ((w.alloc o).alloc (.cells #[] 2)).ownsRow w.heap.size 2 1 (.slice (some ⟨w.heap.size + 1, 0, none⟩) 0 0) 0 [] := by
  have h := World.ownsRow_made (base := w.heap.size) (e := 2) (size := 1) (w.alloc o) #[] 0 (by simp) (by simp) rfl
  rw [show (w.alloc o).heap.size = w.heap.size + 1 by simp] at h
  exact h
theorem wrapE (x : Int) : IntKind.i64.wrap x = wrap64 x := by unfold wrap64; exact IntKind.wrap_i64 x
theorem wrap_succ (k : Nat) (h : k < 50) : IntKind.i64.wrap ((k : Int) + 1) = (k : Int) + 1 := (wrapE _).trans (wrap_small (by omega) (by omega))
theorem Rd.alloc {w : World} {v : Value} {xs : List Value} (h : Rd w v xs) (o : Obj) : Rd (w.alloc o) v xs := h.since ((World.Since.refl _ w).alloc (Nat.le_refl _) o)

set_option maxRecDepth 100000 in
set_option maxHeartbeats 2000000 in
theorem tells_bad (c : Int) (h : okC c = false) (v1 v2 : Value) (w : World) : Calls Try.prog 3 #[.int .i64 c, v1, v2] w fun e w' => e = .returned (.bool true) ∧ Below w.heap.size w w' := by
  have hb : ∀ W, Calls Try.prog 4 #[.int .i64 c] W fun e w' => e = .returned (.tuple #[.pointer none, .int .i64 1]) ∧ w' = W := fun W => new_bad c h W
  by_cases h1 : c < 2
  · go_enter Try.func3, Try.ntmps3
    go_wp2_with fail
    refine wp_loop_rounds 1 ?_
    rw [rounds_succ]
    go_wp2_with (go_at_call 4; refine (hb _).mono ?_; rintro e w5 ⟨rfl, rfl⟩)
    go_ret
    refine ⟨rfl, ?_⟩
    repeat (first | exact Below.refl _ _ | refine Below.alloc ?_ (by simp; try omega) _)
  · by_cases h2 : 1024 < c
    · go_enter Try.func3, Try.ntmps3
      go_wp2_with fail
      refine wp_loop_rounds 1 ?_
      rw [rounds_succ]
      go_wp2_with (go_at_call 4; refine (hb _).mono ?_; rintro e w5 ⟨rfl, rfl⟩)
      go_ret
      refine ⟨rfl, ?_⟩
      repeat (first | exact Below.refl _ _ | refine Below.alloc ?_ (by simp; try omega) _)
    · have h3 : (c % 2 != 0) = true := by
        simp [okC] at h
        have := h (by omega) (by omega)
        simp; omega
      clear h
      go_enter Try.func3, Try.ntmps3
      go_wp2_with fail
      refine wp_loop_rounds 1 ?_
      rw [rounds_succ]
      go_wp2_with (go_at_call 4; refine (hb _).mono ?_; rintro e w5 ⟨rfl, rfl⟩)
      go_ret
      refine ⟨rfl, ?_⟩
      repeat (first | exact Below.refl _ _ | refine Below.alloc ?_ (by simp; try omega) _)

/-- What is known of the list of all that comes. -/
structure Script (w : World) (v : Value) (n : Nat) : Prop where
  ex : ∃ a cap, v = .slice a n cap ∧ n ≤ cap ∧ cap ≤ maxLen ∧ ∀ i, i < n → ∃ b o k1 k2 s x mg p q, a = some ⟨b, o, none⟩ ∧ w.cell? ⟨b, o + i * 7, none⟩ = some (.int .i64 k1) ∧ w.cell? ⟨b, o + i * 7 + 1, none⟩ = some (.int .i64 k2) ∧ w.cell? ⟨b, o + i * 7 + 2, none⟩ = some (.string s) ∧
    w.cell? ⟨b, o + i * 7 + 3, none⟩ = some (.int .i64 x) ∧ w.cell? ⟨b, o + i * 7 + 4, none⟩ = some (.bool mg) ∧ w.cell? ⟨b, o + i * 7 + 5, none⟩ = some (.int .i64 p) ∧ w.cell? ⟨b, o + i * 7 + 6, none⟩ = some (.int .i64 q) ∧
    x ≤ 9223372036854775807 ∧ -9223372036854775808 ≤ p ∧ p ≤ 9223372036854775807 ∧ -9223372036854775808 ≤ q ∧ q ≤ 9223372036854775807
structure Asks (w : World) (v : Value) (n : Nat) : Prop where
  ex : ∃ a cap, v = .slice a n cap ∧ n ≤ cap ∧ n ≤ 140737488355328 ∧ ∀ i, i < n → ∃ b o x, a = some ⟨b, o, none⟩ ∧ w.cell? ⟨b, o + i, none⟩ = some (.int .i64 x) ∧ x ≤ 9223372036854775807

set_option maxRecDepth 100000 in
set_option maxHeartbeats 4000000 in
theorem tells_w (c : Nat) (h : okC c = true) (v1 v2 : Value) (n m : Nat) (w : World) (h1 : Script w v1 n) (h2 : Asks w v2 m) : Calls Try.prog 3 #[.int .i64 c, v1, v2] w fun e w' => e = .returned (.bool true) ∧ Below w.heap.size w w' := by
  have hc := h
  simp [okC] at hc
  have hc1 : ¬ (c : Int) < 2 := by omega
  have hc2 : ¬ 1024 < (c : Int) := by omega
  have hc3 : ((c : Int) % 2 != 0) = false := by simp; omega
  have hn := fun W => new_w c h W
  obtain ⟨a1, k1, rfl, g1, g2, g3⟩ := h1
  obtain ⟨a2, k2, rfl, g4, g5, g6⟩ := h2
  clear hc
  go_enter Try.func3, Try.ntmps3
  go_wp2_with fail
  have S0 : St w.heap.size 0 ((w.alloc (.cells #[.pointer none, .pointer none, .pointer none] 25)).alloc (.cells #[.slice none 0 0, .slice none 0 0, .slice none 0 0] 26)) c w.heap.size (w.heap.size + 1) (fun _ => ⟨0, 0, 0, .slice none 0 0, [], [], [], .slice none 0 0⟩) := by
    refine ⟨fun i hi => absurd hi (by omega), ⟨#[.pointer none, .pointer none, .pointer none], 25, (blk_alloc_lt _ _ _ (by simp)).trans (heap_alloc_new w _), rfl, fun i hi => absurd hi (by omega)⟩, ⟨#[.slice none 0 0, .slice none 0 0, .slice none 0 0], 26, ?_, rfl, fun i hi => ?_⟩, by omega, fun i j q hi => absurd hi (by omega), fun i hi => absurd hi (by omega), fun i j q hi hj => absurd hj (by omega), Nat.le_refl _, by omega, fun i q hi => absurd hi (by omega)⟩
    · have := heap_alloc_new (w.alloc (.cells #[.pointer none, .pointer none, .pointer none] 25)) (.cells #[.slice none 0 0, .slice none 0 0, .slice none 0 0] 26)
      simpa using this
    · match i, hi with
      | 0, _ => rfl
      | 1, _ => rfl
      | 2, _ => rfl
  have B0 : Below w.heap.size w ((w.alloc (.cells #[.pointer none, .pointer none, .pointer none] 25)).alloc (.cells #[.slice none 0 0, .slice none 0 0, .slice none 0 0] 26)) := ((Below.refl _ w).alloc (Nat.le_refl _) _).alloc (by simp) _
  have Z0 : w.heap.size + 2 ≤ ((w.alloc (.cells #[.pointer none, .pointer none, .pointer none] 25)).alloc (.cells #[.slice none 0 0, .slice none 0 0, .slice none 0 0] 26)).heap.size := by simp
  generalize ((w.alloc (.cells #[.pointer none, .pointer none, .pointer none] 25)).alloc (.cells #[.slice none 0 0, .slice none 0 0, .slice none 0 0] 26)) = W0 at *
  generalize hB : w.heap.size + 1 = B at *
  generalize hA : w.heap.size = A at *
  clear hB
  go_loopg [9] 3 (fun g t wr => ∃ (i : Nat) (s : Nat → Sk), t = .int .i64 i ∧ g + i = 3 ∧ St A i wr c A B s ∧ (∀ j, i ≤ j → (s j).mv = .slice none 0 0) ∧ (∀ j, (s j).tot = 0) ∧ Below A w wr ∧ A + 2 ≤ wr.heap.size)
  case atStart => exact ⟨0, _, rfl, rfl, S0, fun _ _ => rfl, fun _ => rfl, B0, Z0⟩
  case round =>
    obtain ⟨i, s, rfl, hgi, S, hmv, htot, Bl, hz⟩ := hrel
    by_cases hi : i < 3
    · have hi1 : (i : Int) < 3 := by omega
      have hi0 : (0 : Int) ≤ (i : Int) := Int.natCast_nonneg _
      have hnw := hn wr
      have hl := S.ltA
      have HS : Hid (St A i wr c A B s ∧ (∀ j, i ≤ j → (s j).mv = .slice none 0 0) ∧ (∀ j, (s j).tot = 0) ∧ Below A w wr ∧ A + 2 ≤ wr.heap.size) := ⟨S, hmv, htot, Bl, hz⟩
      clear S hmv htot Bl hn S0 B0 Z0 hz
      clear g3 g6
      go_wp2_with (go_at_call 4; refine hnw.mono ?_; rintro e x1 ⟨rfl, M1, hs1, hz1⟩)
      have hmid : MidAt x1 wr.heap.size c (0 : Nat) 0 (.slice none 0 0) [] [] := M1
      refine (merge_nil _ x1).mono ?_
      rintro e x2 ⟨rfl, T2, hz2⟩
      have TX : Turn wr x2 (fun _ => False) := Turn.trans (b := x1) (o := fun _ => False) ⟨hs1.os, hs1.tape, hs1.output, hs1.size, fun q hq _ => hs1.block q hq⟩ T2 (fun _ h => h) fun _ _ h => h
      have MX : MidAt x2 wr.heap.size c (0 : Nat) 0 (.slice none 0 0) [] [] := hmid.keep fun q hq => T2.block q (hmid.lt hq) id
      have SX := St.keep (And.left HS) TX
      obtain ⟨u, cu, fu⟩ := SX.slot hi
      have HX : Hid (Turn wr x2 (fun _ => False) ∧ MidAt x2 wr.heap.size c (0 : Nat) 0 (.slice none 0 0) [] []) := ⟨TX, MX⟩
      clear hmid M1 hs1 hz1 T2 hz2 TX MX SX hnw
      go_wp2_with fail
      go_roundg (gk - 1)
      case measure => omega
      case rel =>
        obtain ⟨S, hmv, htot, Bl, hz⟩ := (show _ ∧ _ from HS)
        obtain ⟨TX, MX⟩ := (show _ ∧ _ from HX)
        have hzX := TX.size
        refine ⟨i + 1, _, by simp, by omega, S.grow hi (by omega) h (Nat.le_refl _) MX TX hmv, fun j hj => ?_, fun j => ?_, ?_, ?_⟩
        · rw [upd_ne _ _ (by omega)]; exact hmv j (by omega)
        · unfold upd; split
          · rfl
          · exact htot j
        · exact below_turn (below_turn Bl TX (by omega) fun _ h => h.elim) (Turn.cell (w := x2) ⟨A, i, none⟩ _ (own := fun q => q = A) rfl) (by omega) fun q e => by omega
        · rw [nblk_setCell]; omega
    · have ei : i = 3 := by omega
      subst ei
      have H5 : Hid (m ≤ k2 ∧ m ≤ 140737488355328) := ⟨g4, g5⟩
      clear g1 g2 g4 g5 hn
      go_wp2_with fail
      go_loopg [12] n (fun g t wr => ∃ (i : Nat) (s : Nat → Sk), t = .int .i64 i ∧ g + i = n ∧ i ≤ 2000 ∧ St A 3 wr c A B s ∧ (∀ j, j < 3 → (s j).tot ≤ 20000 + i) ∧ Below A w wr ∧ A + 2 ≤ wr.heap.size)
      case atStart => exact ⟨0, s, rfl, rfl, by omega, S, fun j _ => by rw [htot]; omega, Bl, hz⟩
      case round =>
        clear S htot hmv Bl hz
        obtain ⟨i, s, rfl, hgi, hi2, S, htot, Bl, hz⟩ := hrel
        by_cases hin : i < n ∧ i < 2000
        · obtain ⟨hin1, hin2⟩ := hin
          obtain ⟨sb, so, y1, y2, str, x, mg, p, q, rfl, e0, e1, e2, e3, e4, e5, e6, hx, hp1, hp2, hq1, hq2⟩ := g3 i hin1
          have hsb : sb < A := by rw [← hA]; exact World.block_lt_of_cell? w _ e0
          have old : ∀ o v, w.cell? ⟨sb, o, none⟩ = some v → wr.cell? ⟨sb, o, none⟩ = some v := fun o v h => by rw [World.cell?_of_block (w := w) (Bl.block sb hsb)]; exact h
          have f0 := old _ _ e0
          have f1 := old _ _ e1
          have f2 := old _ _ e2
          have f3 := old _ _ e3
          have f4 := old _ _ e4
          have f5 := old _ _ e5
          have f6 := old _ _ e6
          have HS : Hid (St A 3 wr c A B s ∧ (∀ j, j < 3 → (s j).tot ≤ 20000 + i) ∧ Below A w wr ∧ A + 2 ≤ wr.heap.size) := ⟨S, htot, Bl, hz⟩
          have hi0 : (0 : Int) ≤ (i : Int) := Int.natCast_nonneg _
          have hi1 : (i : Int) < (n : Int) := by omega
          have hi3 : (i : Int) < 2000 := by omega
          have HG : Hid (∀ i, i < n → _) := g3
          have HG6 : Hid (∀ i, i < m → _) := g6
          have HX : Hid (x ≤ 9223372036854775807) := hx
          clear S htot Bl hz old e0 e1 e2 e3 e4 e5 e6 g3 g6 hsb
          go_wp2_with fail
          have d := heap_alloc_new wr (.cells #[.int .i64 y1, .int .i64 y2, .string str, .int .i64 x, .bool mg, .int .i64 p, .int .i64 q] 34)
          have d3 := cell_of_heap (i := 3) d rfl
          have d4 := cell_of_heap (i := 4) d rfl
          have d5 := cell_of_heap (i := 5) d rfl
          have d6 := cell_of_heap (i := 6) d rfl
          have TD : Turn wr (wr.alloc (.cells #[.int .i64 y1, .int .i64 y2, .string str, .int .i64 x, .bool mg, .int .i64 p, .int .i64 q] 34)) (fun _ => False) := Turn.since ((World.Since.refl _ wr).alloc (Nat.le_refl _) _) (Nat.le_refl _)
          have HD : Hid (wr.heap.size < (wr.alloc (.cells #[.int .i64 y1, .int .i64 y2, .string str, .int .i64 x, .bool mg, .int .i64 p, .int .i64 q] 34)).heap.size) := by show _ < _; simp
          have hD : wr.heap.size = wr.heap.size := rfl
          generalize (wr.alloc (.cells #[.int .i64 y1, .int .i64 y2, .string str, .int .i64 x, .bool mg, .int .i64 p, .int .i64 q] 34)) = W1 at *
          have HT : Hid (Turn wr W1 (fun _ => False)) := TD
          clear d TD hD f0 f1 f2 f3 f4 f5 f6
          have hma := fun W => mod_w p 3 (by omega) (by omega) hp1 hp2 W
          have hmb := fun W => mod_w q 3 (by omega) (by omega) hq1 hq2 W
          obtain ⟨a, ha, ha3⟩ : ∃ a : Nat, p % 3 = a ∧ a < 3 := ⟨(p % 3).toNat, by omega, by omega⟩
          obtain ⟨bb, hbb, hb3⟩ : ∃ a : Nat, q % 3 = a ∧ a < 3 := ⟨(q % 3).toNat, by omega, by omega⟩
          rw [ha] at hma
          rw [hbb] at hmb
          clear ha hbb
          go_quiet (first | (go_at_call 6; with_reducible refine Calls.quiet_of_same (hma _)) | (go_at_call 6; with_reducible refine Calls.quiet_of_same (hmb _)))
          go_wp2_with fail
          generalize hW2 : W1.drewN _ = W2
          have d3' : W2.cell? ⟨wr.heap.size, 3, none⟩ = some (.int .i64 x) := by subst hW2; exact d3
          have d4' : W2.cell? ⟨wr.heap.size, 4, none⟩ = some (.bool mg) := by subst hW2; exact d4
          have T2 : Turn wr W2 (fun _ => False) := by
            subst hW2
            exact (show Turn wr W1 _ from HT).trans (o' := fun _ => False) ⟨rfl, rfl, rfl, Nat.le_refl _, fun _ _ _ => rfl⟩ (fun _ h => h) fun _ _ h => h
          have hD2 : wr.heap.size < W2.heap.size := by subst hW2; exact HD
          clear hW2 d3 d4 d5 d6 hma hmb
          have S2 := St.keep (And.left HS) T2
          have hta := (And.left (And.right HS)) a ha3
          have htb := (And.left (And.right HS)) bb hb3
          obtain ⟨la, _⟩ := S2.lst ha3
          obtain ⟨lb, fb⟩ := S2.lst hb3
          obtain ⟨xa, ca, hma⟩ := ownsRow_slice (S2.one a ha3).row
          obtain ⟨xb, cb, hmb⟩ := ownsRow_slice (S2.one bb hb3).row
          have hna := (S2.one a ha3).inv.n
          have hnb := (S2.one bb hb3).inv.n
          obtain ⟨na, hna'⟩ : ∃ z, (s a).ml.length = z := ⟨_, rfl⟩
          obtain ⟨nb, hnb'⟩ : ∃ z, (s bb).ml.length = z := ⟨_, rfl⟩
          rw [hna'] at hma
          rw [hnb'] at hmb
          rw [hma] at la
          rw [hmb] at lb
          have hna2 : na ≤ 22000 := by omega
          have hnb2 : nb ≤ 22000 := by omega
          have HM : Hid ((s a).mv = .slice xa na ca ∧ (s bb).mv = .slice xb nb cb ∧ (s a).ml.length = na ∧ (s bb).ml.length = nb ∧ (s a).tot = na ∧ (s bb).tot = nb) := ⟨hma, hmb, hna', hnb', by omega, by omega⟩
          have HT2 : Hid (Turn wr W2 (fun _ => False) ∧ wr.heap.size < W2.heap.size) := ⟨T2, hD2⟩
          have ha0 : (0 : Int) ≤ (a : Int) := Int.natCast_nonneg _
          have ha1 : (a : Int) < 3 := by omega
          have hb0 : (0 : Int) ≤ (bb : Int) := Int.natCast_nonneg _
          have hb1 : (bb : Int) < 3 := by omega
          have na2 : (na : Int) ≤ 22000 := by omega
          have nb2 : (nb : Int) ≤ 22000 := by omega
          clear hna hnb hna' hnb' hma hmb hta htb T2 HT HD hna2 hnb2 hD2 HG HG6 hx
          clear S2
          cases mg with
          | false =>
            go_quiet (fail)
            go_wp2_with fail
            generalize hW3 : W2.drewN _ = W3
            have T3 : Turn wr W3.drew (fun _ => False) := by
              subst hW3
              exact (And.left HT2).trans (o' := fun _ => False) ⟨rfl, rfl, rfl, Nat.le_refl _, fun _ _ _ => rfl⟩ (fun _ h => h) fun _ _ h => h
            have d3 : W3.cell? ⟨wr.heap.size, 3, none⟩ = some (.int .i64 x) := by subst hW3; exact d3'
            have hD3 : wr.heap.size < W3.drew.heap.size := by subst hW3; exact And.right HT2
            clear hW3 d3' d4' la lb fb
            have S3 := St.keep (And.left HS) T3
            have pb : W3.cell? ⟨A, bb, none⟩ = some (.pointer (some ⟨(s bb).b, 0, none⟩)) := S3.ptr hb3
            have hAlt : A < W3.drew.heap.size := S3.ltA.1
            have hAf : ¬ (s bb).foot A := (S3.off bb hb3).1
            have hDf : ¬ (s bb).foot wr.heap.size := fun h => by have := (And.left HS).one bb hb3 |>.lt h; omega
            have hHM : (s bb).tot = nb := And.right (And.right (And.right (And.right (And.right HM))))
            have hadd := add_w (s bb).b c (s bb).tot (s bb).sh (s bb).rv (s bb).vs (s bb).ls x W3.drew (S3.one bb hb3).mid (S3.one bb hb3).inv.fit (by omega)
            have HS3 : Hid (St A 3 W3.drew c A B s ∧ Turn wr W3.drew (fun _ => False)) := ⟨S3, T3⟩
            clear S3 T3
            go_region_held3 (fun w' => w'.cell? ⟨A, bb, none⟩ = some (.pointer (some ⟨(s bb).b, 0, none⟩)) ∧ w'.cell? ⟨wr.heap.size, 3, none⟩ = some (.int .i64 x))
              (first | go_keep | (exact ⟨z1, z2⟩))
              (first | (go_at_call 7; refine hadd.mono ?_; rintro e w1 ⟨rfl, sh', rv', vs', ls', AF⟩; have z1 : w1.cell? ⟨A, bb, none⟩ = some (.pointer (some ⟨(s bb).b, 0, none⟩)) := (World.cell?_of_block (AF.turn.block A hAlt hAf)).trans pb; have z2 : w1.cell? ⟨wr.heap.size, 3, none⟩ = some (.int .i64 x) := (World.cell?_of_block (AF.turn.block wr.heap.size hD3 hDf)).trans d3))
            go_wp2_with fail
            have hS3 : St A 3 W3.drew c A B s := And.left HS3
            have hBf : ¬ (s bb).foot B := (hS3.off bb hb3).2
            have hBlt3 : B < W3.drew.heap.size := hS3.ltA.2
            have lb5 : w1.cell? ⟨B, bb, none⟩ = some (.slice xb nb cb) := by
              rw [World.cell?_of_block (AF.turn.block B hBlt3 hBf), (hS3.lst hb3).1, (And.left (And.right HM) : (s bb).mv = _)]
            have fb5 : w1.frozen? ⟨B, bb, none⟩ = false := by
              rw [World.frozen?_of_block (AF.turn.block B hBlt3 hBf)]; exact (hS3.lst hb3).2
            have Rb : Rd w1.drew (.slice xb nb cb) (i64v (s bb).ml) := by
              have h := (hS3.one bb hb3).row
              rw [(And.left (And.right HM) : (s bb).mv = _)] at h
              have h2 : (s bb).mv = .slice xb nb cb := And.left (And.right HM)
              exact ownsRow_rd (ownsRow_keep h fun q e => AF.turn.block q (h.lt q e).2 (hS3.mvo bb bb q hb3 hb3 (by rw [h2]; exact e)).1)
            have hnb3 : (s bb).ml.length = nb := And.left (And.right (And.right (And.right HM)))
            have hz5 : W3.drew.heap.size ≤ w1.heap.size := AF.turn.size
            have hB5 : B < w1.drew.heap.size := Nat.lt_of_lt_of_le hBlt3 hz5
            have hD5 : wr.heap.size < w1.drew.heap.size := Nat.lt_of_lt_of_le hD3 hz5
            have HAF : Hid (After W3.drew (s bb).b c ((s bb).tot + 1) (s bb).sh (putM (s bb).ls 0 [x]) (s bb).rv (s bb).vs w1 sh' rv' vs' ls') := AF
            have hlen1 : (i64v (s bb).ml).length = nb := by rw [List.length_map, hnb3]
            have hle1 : 0 + (i64v (s bb).ml).length ≤ maxLen := by rw [hlen1]; simp only [maxLen]; omega
            have hle2 : (0 + (i64v (s bb).ml).length) * 8 ≤ 140737488355328 := by rw [hlen1]; omega
            have hle3 : nb + [Value.int .i64 x].length ≤ maxLen := by simp only [maxLen, List.length_singleton]; omega
            have hle4 : (nb + [Value.int .i64 x].length) * 8 ≤ 140737488355328 := by simp only [List.length_singleton]; omega
            have Hlen1 : Hid ((i64v (s bb).ml).length = nb) := hlen1
            have hDB : wr.heap.size ≠ B := by have := (And.left HS).ltA.2; omega
            obtain ⟨i0, hi0', hz0, hz1, hz2⟩ := info_parts info2
            have al1 : ∀ o, (w1.alloc o).cell? ⟨B, bb, none⟩ = some (.slice xb nb cb) := fun o => (World.cell?_of_block (blk_alloc_lt _ _ _ hB5)).trans lb5
            have al2 : ∀ o o', ((w1.alloc o).alloc o').cell? ⟨B, bb, none⟩ = some (.slice xb nb cb) := fun o o' => (World.cell?_of_block (blk_alloc_lt _ _ _ (Nat.lt_of_lt_of_le hB5 (by simp)))).trans (al1 o)
            have al3 : ∀ o, (w1.drew.alloc o).cell? ⟨B, bb, none⟩ = some (.slice xb nb cb) := al1
            have al4 : ∀ o o', ((w1.drew.alloc o).alloc o').cell? ⟨B, bb, none⟩ = some (.slice xb nb cb) := al2
            have dl1 : ∀ o, (w1.alloc o).cell? ⟨wr.heap.size, 3, none⟩ = some (.int .i64 x) := fun o => (World.cell?_of_block (blk_alloc_lt _ _ _ hD5)).trans z2
            clear AF hS3 z1 pb d3 hadd hAlt hAf hDf hBf hBlt3 hnb3 hHM hz5 hlen1
            go_region_law
              (first
                | (refine step_append_rd (by rfl) _ _ _ (by rfl) w1.heap.size 2 i0 _ 8 Try.underlying23 hi0' hz0 hz1 hz2 (by rfl) _ 0 [] (by rfl) (by first | exact World.ownsRow_made w1 #[] 0 (Nat.le_refl _) (by simp) rfl | exact own_first w1 _ | exact own_second w1 _) _ (i64v (s bb).ml) (by rfl) (by first | exact Rb.alloc _ | exact (Rb.alloc _).alloc _) (i64v_one _) hle1 hle2 (by first | (simp; done) | (simp; omega)) ?_
                   intro v1 wA hownA hgA hatA
                   have hsA : World.Since w1.heap.size w1 wA := since_grown2 hgA (by first | exact since_a1 w1 _ | exact since_a2 w1 _ _) (fun k hk => by first | (have hk' : some w1.heap.size = some k := hk; simp at hk'; omega) | (have hk' : some (w1.heap.size + 1) = some k := hk; simp at hk'; omega))
                   rw [Nat.zero_add, List.nil_append, (show (i64v (s bb).ml).length = nb from Hlen1)] at hownA
                   have dA : wA.cell? ⟨wr.heap.size, 3, none⟩ = some (.int .i64 x) := (hsA.cell hD5).trans z2
                   obtain ⟨va1, vk1, rfl⟩ := ownsRow_slice hownA
                   try have hxa : wA.cell? ⟨w1.heap.size + 1, 0, none⟩ = some (.int .i64 x) := (hgA.cell_far _ (by first | (simp; done) | (simp; omega)) (fun e => by have e' : some (w1.heap.size + 1) = some w1.heap.size := e; simp at e')).trans (cell_second w1 _ _ _)
                   try have hxb : wA.cell? ⟨w1.heap.size, 0, none⟩ = some (.int .i64 x) := (hgA.cell_far _ (by first | (simp; done) | (simp; omega)) (fun e => by have e' : some w1.heap.size = some (w1.heap.size + 1) := e; simp at e')).trans (cell_first w1 _ _ _))
                | (refine step_append_rd (by rfl) _ _ _ (by rfl) w1.heap.size 2 i0 _ 8 Try.underlying23 hi0' hz0 hz1 hz2 (by rfl) _ _ _ (by rfl) (by first | exact hownA | exact hownA.alloc _) _ [.int .i64 x] (by rfl) (by first | exact Rd.new _ _ _ | exact Rd.one hxa | exact Rd.one hxb) (by simp [Value.oneCell']) hle3 hle4 (by have := hsA.size; simp at this ⊢; omega) ?_
                   intro v2 wB hownB hgB hatB
                   have hsB : World.Since w1.heap.size w1 wB := since_grown2 hgB (by first | exact hsA | exact hsA.drew | exact (hsA.alloc hsA.size _) | exact (hsA.alloc hsA.size _).drew) (fun k hk => (hownA.lt k hk).1)
                   rw [List.length_singleton] at hownB
                   obtain ⟨va2, vk2, rfl⟩ := ownsRow_slice hownB
                   have lB : wB.cell? ⟨B, bb, none⟩ = some (.slice xb nb cb) := (hsB.cell hB5).trans lb5
                   have fB : wB.frozen? ⟨B, bb, none⟩ = false := (hsB.frozen hB5).trans fb5))
            all_goals (
              go_wp2_with fail
              go_roundg (gk - 1)
              case measure => omega
              case rel =>
                have hAF : After W3.drew (s bb).b c ((s bb).tot + 1) (s bb).sh (putM (s bb).ls 0 [x]) (s bb).rv (s bb).vs w1 sh' rv' vs' ls' := HAF
                have hS : St A 3 W3.drew c A B s := And.left HS3
                have hT : Turn wr W3.drew (fun _ => False) := And.right HS3
                have hhs : (∀ j, j < 3 → (s j).tot ≤ 20000 + i) ∧ Below A w wr ∧ A + 2 ≤ wr.heap.size := And.right HS
                have hhm : (s bb).ml.length = nb := And.left (And.right (And.right (And.right HM)))
                have hzz := hT.size
                have hz2 := hAF.turn.size
                have hzB := hsB.size
                have hAle := hS.old
                refine ⟨i + 1, _, by simp, by omega, by omega, hS.add (by omega) hb3 (by have := hhs.1 bb hb3; omega) HX hAF hsB hhm.symm hownB, fun j hj => ?_, ?_, ?_⟩
                · unfold upd
                  split
                  · have := hhs.1 bb hb3; show (s bb).tot + 1 ≤ _; omega
                  · have := hhs.1 j hj; omega
                · have b1 := below_turn hhs.2.1 hT (by omega) fun _ h => h.elim
                  have b2 := below_turn b1 hAF.turn (by omega) fun q h => hAle.2.2 bb q hb3 h
                  have b3 := below_turn b2 (Turn.since (own := fun _ => False) hsB (Nat.le_refl _)) (by omega) fun _ h => h.elim
                  exact below_turn b3 (Turn.cell (w := wB) ⟨B, bb, none⟩ _ (own := fun q => q = B) rfl) (by omega) fun q e => by subst e; exact hAle.2.1
                · rw [nblk_setCell]; omega)
          | true =>
            by_cases hsum : (na : Int) + (nb : Int) ≤ 20000
            · go_quiet (fail)
              go_wp2_with fail
              generalize hW3 : W2.drewN _ = W3
              have T3 : Turn wr W3.drew (fun _ => False) := by
                subst hW3
                exact (And.left HT2).trans (o' := fun _ => False) ⟨rfl, rfl, rfl, Nat.le_refl _, fun _ _ _ => rfl⟩ (fun _ h => h) fun _ _ h => h
              clear hW3 d3' d4' la lb fb
              have S3 := St.keep (And.left HS) T3
              have pb : W3.cell? ⟨A, bb, none⟩ = some (.pointer (some ⟨(s bb).b, 0, none⟩)) := S3.ptr hb3
              have pa : W3.cell? ⟨A, a, none⟩ = some (.pointer (some ⟨(s a).b, 0, none⟩)) := S3.ptr ha3
              have hAlt : A < W3.drew.heap.size := S3.ltA.1
              have hAf : ¬ (s bb).foot A := (S3.off bb hb3).1
              have hHM : (s a).tot = na ∧ (s bb).tot = nb := And.right (And.right (And.right (And.right HM)))
              have hdis : ∀ v, v ∈ (s a).vs → v.ownBlock ≠ some (s bb).b ∧ (v.ownBlock = none ∨ v.ownBlock ≠ (s bb).rv.ownBlock) := by
                intro v hv
                by_cases e : a = bb
                · subst e; exact (S3.one a ha3).mid.d2 v hv
                · refine ⟨fun e1 => S3.dis a bb _ ha3 hb3 e (.inr (.inr ⟨v, hv, e1⟩)) (.inl rfl), ?_⟩
                  rcases hvo : v.ownBlock with _ | k
                  · exact .inl rfl
                  · exact .inr fun e1 => S3.dis a bb k ha3 hb3 e (.inr (.inr ⟨v, hv, hvo⟩)) (.inr (.inl e1.symm))
              have hmer := merge_w (s bb).b (s a).b c (s bb).tot (s a).tot (s bb).sh (s a).sh (s bb).rv (s a).rv (s bb).vs (s a).vs (s bb).ls (s a).ls W3.drew (S3.one bb hb3).mid (S3.one a ha3).mid (S3.one bb hb3).inv.fit (S3.one a ha3).inv.fit hdis (by omega)
              have HS3 : Hid (St A 3 W3.drew c A B s ∧ Turn wr W3.drew (fun _ => False)) := ⟨S3, T3⟩
              clear S3 T3 hdis
              go_region_held3 (fun w' => w'.cell? ⟨A, bb, none⟩ = some (.pointer (some ⟨(s bb).b, 0, none⟩)) ∧ w'.cell? ⟨A, a, none⟩ = some (.pointer (some ⟨(s a).b, 0, none⟩)))
                (first | go_keep | (exact ⟨z1, z2⟩))
                (first | (go_at_call 5; refine hmer.mono ?_; rintro e w1 ⟨rfl, sh', rv', vs', ls', AF⟩; have z1 : w1.cell? ⟨A, bb, none⟩ = some (.pointer (some ⟨(s bb).b, 0, none⟩)) := (World.cell?_of_block (AF.turn.block A hAlt hAf)).trans pb; have z2 : w1.cell? ⟨A, a, none⟩ = some (.pointer (some ⟨(s a).b, 0, none⟩)) := (World.cell?_of_block (AF.turn.block A hAlt hAf)).trans pa))
              go_wp2_with fail
              have hS3 : St A 3 W3.drew c A B s := And.left HS3
              have hBf : ¬ (s bb).foot B := (hS3.off bb hb3).2
              have hBlt3 : B < W3.drew.heap.size := hS3.ltA.2
              have lb5 : w1.cell? ⟨B, bb, none⟩ = some (.slice xb nb cb) := by
                rw [World.cell?_of_block (AF.turn.block B hBlt3 hBf), (hS3.lst hb3).1, (And.left (And.right HM) : (s bb).mv = _)]
              have la5 : w1.cell? ⟨B, a, none⟩ = some (.slice xa na ca) := by
                rw [World.cell?_of_block (AF.turn.block B hBlt3 hBf), (hS3.lst ha3).1, (And.left HM : (s a).mv = _)]
              have fb5 : w1.frozen? ⟨B, bb, none⟩ = false := by
                rw [World.frozen?_of_block (AF.turn.block B hBlt3 hBf)]; exact (hS3.lst hb3).2
              have Rb : Rd w1.drew (.slice xb nb cb) (i64v (s bb).ml) := by
                have h := (hS3.one bb hb3).row
                rw [(And.left (And.right HM) : (s bb).mv = _)] at h
                have h2 : (s bb).mv = .slice xb nb cb := And.left (And.right HM)
                exact ownsRow_rd (ownsRow_keep h fun q e => AF.turn.block q (h.lt q e).2 (hS3.mvo bb bb q hb3 hb3 (by rw [h2]; exact e)).1)
              have Ra : Rd w1 (.slice xa na ca) (i64v (s a).ml) := by
                have h := (hS3.one a ha3).row
                rw [(And.left HM : (s a).mv = _)] at h
                have h2 : (s a).mv = .slice xa na ca := And.left HM
                exact ownsRow_rd (ownsRow_keep h fun q e => AF.turn.block q (h.lt q e).2 (hS3.mvo a bb q ha3 hb3 (by rw [h2]; exact e)).1)
              have hna3 : (s a).ml.length = na := And.left (And.right (And.right HM))
              have hnb3 : (s bb).ml.length = nb := And.left (And.right (And.right (And.right HM)))
              have hz5 : W3.drew.heap.size ≤ w1.heap.size := AF.turn.size
              have hB5 : B < w1.drew.heap.size := Nat.lt_of_lt_of_le hBlt3 hz5
              have HAF : Hid (After W3.drew (s bb).b c ((s bb).tot + (s a).tot) ((s bb).sh + (s a).sh) (mergeL (s bb).ls (s a).ls) (s bb).rv (s bb).vs w1 sh' rv' vs' ls') := AF
              have hlen1 : (i64v (s bb).ml).length = nb := by rw [List.length_map, hnb3]
              have hlen2 : (i64v (s a).ml).length = na := by rw [List.length_map, hna3]
              have hle1 : 0 + (i64v (s bb).ml).length ≤ maxLen := by rw [hlen1]; simp only [maxLen]; omega
              have hle2 : (0 + (i64v (s bb).ml).length) * 8 ≤ 140737488355328 := by rw [hlen1]; omega
              have hle3 : nb + (i64v (s a).ml).length ≤ maxLen := by rw [hlen2]; simp only [maxLen]; omega
              have hle4 : (nb + (i64v (s a).ml).length) * 8 ≤ 140737488355328 := by rw [hlen2]; omega
              have Hlen1 : Hid ((i64v (s bb).ml).length = nb) := hlen1
              have Hlen2 : Hid ((i64v (s a).ml).length = na) := hlen2
              obtain ⟨i0, hi0', hz0, hz1, hz2⟩ := info_parts info2
              have al1 : ∀ o, (w1.alloc o).cell? ⟨B, bb, none⟩ = some (.slice xb nb cb) := fun o => (World.cell?_of_block (blk_alloc_lt _ _ _ hB5)).trans lb5
              have al2 : ∀ o, (w1.alloc o).cell? ⟨B, a, none⟩ = some (.slice xa na ca) := fun o => (World.cell?_of_block (blk_alloc_lt _ _ _ hB5)).trans la5
              clear AF hS3 z1 z2 pb pa hmer hAlt hAf hBf hBlt3 hnb3 hna3 hHM hz5 hlen1 hlen2
              go_region_law
                (first
                  | (refine step_append_rd (by rfl) _ _ _ (by rfl) w1.heap.size 2 i0 _ 8 Try.underlying23 hi0' hz0 hz1 hz2 (by rfl) _ 0 [] (by rfl) (World.ownsRow_made w1 #[] 0 (Nat.le_refl _) (by simp) rfl) _ (i64v (s bb).ml) (by rfl) (Rb.alloc _) (i64v_one _) hle1 hle2 (by simp) ?_
                     intro v1 wA hownA hgA hatA
                     have hsA : World.Since w1.heap.size w1 wA := since_grown2 hgA (since_a1 w1 _) (fun k hk => by have hk' : some w1.heap.size = some k := hk; simp at hk'; omega)
                     rw [Nat.zero_add, List.nil_append, (show (i64v (s bb).ml).length = nb from Hlen1)] at hownA
                     have dA : wA.cell? ⟨B, a, none⟩ = some (.slice xa na ca) := (hsA.cell hB5).trans la5
                     obtain ⟨va1, vk1, rfl⟩ := ownsRow_slice hownA)
                  | (refine step_append_rd (by rfl) _ _ _ (by rfl) w1.heap.size 2 i0 _ 8 Try.underlying23 hi0' hz0 hz1 hz2 (by rfl) _ _ _ (by rfl) hownA _ (i64v (s a).ml) (by rfl) (Ra.since hsA) (i64v_one _) hle3 hle4 hsA.size ?_
                     intro v2 wB hownB hgB hatB
                     have hsB : World.Since w1.heap.size w1 wB := since_grown2 hgB hsA (fun k hk => (hownA.lt k hk).1)
                     rw [(show (i64v (s a).ml).length = na from Hlen2)] at hownB
                     obtain ⟨va2, vk2, rfl⟩ := ownsRow_slice hownB
                     have lB : wB.cell? ⟨B, bb, none⟩ = some (.slice xb nb cb) := (hsB.cell hB5).trans lb5
                     have fB : wB.frozen? ⟨B, bb, none⟩ = false := (hsB.frozen hB5).trans fb5))
              all_goals (
                go_wp2_with fail
                go_roundg (gk - 1)
                case measure => omega
                case rel =>
                  have hAF : After W3.drew (s bb).b c ((s bb).tot + (s a).tot) ((s bb).sh + (s a).sh) (mergeL (s bb).ls (s a).ls) (s bb).rv (s bb).vs w1 sh' rv' vs' ls' := HAF
                  have hS : St A 3 W3.drew c A B s := And.left HS3
                  have hT : Turn wr W3.drew (fun _ => False) := And.right HS3
                  have hhs : (∀ j, j < 3 → (s j).tot ≤ 20000 + i) ∧ Below A w wr ∧ A + 2 ≤ wr.heap.size := And.right HS
                  have hhm : (s a).ml.length = na ∧ (s bb).ml.length = nb ∧ (s a).tot = na ∧ (s bb).tot = nb := And.right (And.right HM)
                  have hzz := hT.size
                  have hz2 := hAF.turn.size
                  have hzB := hsB.size
                  have hAle := hS.old
                  refine ⟨i + 1, _, by simp, by omega, by omega, hS.merge (by omega) hb3 ha3 (by omega) hAF hsB hhm.2.1.symm hhm.1.symm hownB, fun j hj => ?_, ?_, ?_⟩
                  · unfold upd
                    split
                    · show (s bb).tot + (s a).tot ≤ _; omega
                    · have := hhs.1 j hj; omega
                  · have b1 := below_turn hhs.2.1 hT (by omega) fun _ h => h.elim
                    have b2 := below_turn b1 hAF.turn (by omega) fun q h => hAle.2.2 bb q hb3 h
                    have b3 := below_turn b2 (Turn.since (own := fun _ => False) hsB (Nat.le_refl _)) (by omega) fun _ h => h.elim
                    exact below_turn b3 (Turn.cell (w := wB) ⟨B, bb, none⟩ _ (own := fun q => q = B) rfl) (by omega) fun q e => by subst e; exact hAle.2.1
                  · rw [nblk_setCell]; omega)
            · go_quiet (fail)
              go_wp2_with fail
              generalize hW3 : W2.drewN _ = W3
              have T3 : Turn wr W3.drew (fun _ => False) := by
                subst hW3
                exact (And.left HT2).trans (o' := fun _ => False) ⟨rfl, rfl, rfl, Nat.le_refl _, fun _ _ _ => rfl⟩ (fun _ h => h) fun _ _ h => h
              have d3 : W3.cell? ⟨wr.heap.size, 3, none⟩ = some (.int .i64 x) := by subst hW3; exact d3'
              have hD3 : wr.heap.size < W3.drew.heap.size := by subst hW3; exact And.right HT2
              clear hW3 d3' d4' la lb fb
              have S3 := St.keep (And.left HS) T3
              have pb : W3.cell? ⟨A, bb, none⟩ = some (.pointer (some ⟨(s bb).b, 0, none⟩)) := S3.ptr hb3
              have hAlt : A < W3.drew.heap.size := S3.ltA.1
              have hAf : ¬ (s bb).foot A := (S3.off bb hb3).1
              have hDf : ¬ (s bb).foot wr.heap.size := fun h => by have := (And.left HS).one bb hb3 |>.lt h; omega
              have hHM : (s bb).tot = nb := And.right (And.right (And.right (And.right (And.right HM))))
              have hadd := add_w (s bb).b c (s bb).tot (s bb).sh (s bb).rv (s bb).vs (s bb).ls x W3.drew (S3.one bb hb3).mid (S3.one bb hb3).inv.fit (by omega)
              have HS3 : Hid (St A 3 W3.drew c A B s ∧ Turn wr W3.drew (fun _ => False)) := ⟨S3, T3⟩
              clear S3 T3
              go_region_held3 (fun w' => w'.cell? ⟨A, bb, none⟩ = some (.pointer (some ⟨(s bb).b, 0, none⟩)) ∧ w'.cell? ⟨wr.heap.size, 3, none⟩ = some (.int .i64 x))
                (first | go_keep | (exact ⟨z1, z2⟩))
                (first | (go_at_call 7; refine hadd.mono ?_; rintro e w1 ⟨rfl, sh', rv', vs', ls', AF⟩; have z1 : w1.cell? ⟨A, bb, none⟩ = some (.pointer (some ⟨(s bb).b, 0, none⟩)) := (World.cell?_of_block (AF.turn.block A hAlt hAf)).trans pb; have z2 : w1.cell? ⟨wr.heap.size, 3, none⟩ = some (.int .i64 x) := (World.cell?_of_block (AF.turn.block wr.heap.size hD3 hDf)).trans d3))
              go_wp2_with fail
              have hS3 : St A 3 W3.drew c A B s := And.left HS3
              have hBf : ¬ (s bb).foot B := (hS3.off bb hb3).2
              have hBlt3 : B < W3.drew.heap.size := hS3.ltA.2
              have lb5 : w1.cell? ⟨B, bb, none⟩ = some (.slice xb nb cb) := by
                rw [World.cell?_of_block (AF.turn.block B hBlt3 hBf), (hS3.lst hb3).1, (And.left (And.right HM) : (s bb).mv = _)]
              have fb5 : w1.frozen? ⟨B, bb, none⟩ = false := by
                rw [World.frozen?_of_block (AF.turn.block B hBlt3 hBf)]; exact (hS3.lst hb3).2
              have Rb : Rd w1.drew (.slice xb nb cb) (i64v (s bb).ml) := by
                have h := (hS3.one bb hb3).row
                rw [(And.left (And.right HM) : (s bb).mv = _)] at h
                have h2 : (s bb).mv = .slice xb nb cb := And.left (And.right HM)
                exact ownsRow_rd (ownsRow_keep h fun q e => AF.turn.block q (h.lt q e).2 (hS3.mvo bb bb q hb3 hb3 (by rw [h2]; exact e)).1)
              have hnb3 : (s bb).ml.length = nb := And.left (And.right (And.right (And.right HM)))
              have hz5 : W3.drew.heap.size ≤ w1.heap.size := AF.turn.size
              have hB5 : B < w1.drew.heap.size := Nat.lt_of_lt_of_le hBlt3 hz5
              have hD5 : wr.heap.size < w1.drew.heap.size := Nat.lt_of_lt_of_le hD3 hz5
              have HAF : Hid (After W3.drew (s bb).b c ((s bb).tot + 1) (s bb).sh (putM (s bb).ls 0 [x]) (s bb).rv (s bb).vs w1 sh' rv' vs' ls') := AF
              have hlen1 : (i64v (s bb).ml).length = nb := by rw [List.length_map, hnb3]
              have hle1 : 0 + (i64v (s bb).ml).length ≤ maxLen := by rw [hlen1]; simp only [maxLen]; omega
              have hle2 : (0 + (i64v (s bb).ml).length) * 8 ≤ 140737488355328 := by rw [hlen1]; omega
              have hle3 : nb + [Value.int .i64 x].length ≤ maxLen := by simp only [maxLen, List.length_singleton]; omega
              have hle4 : (nb + [Value.int .i64 x].length) * 8 ≤ 140737488355328 := by simp only [List.length_singleton]; omega
              have Hlen1 : Hid ((i64v (s bb).ml).length = nb) := hlen1
              have hDB : wr.heap.size ≠ B := by have := (And.left HS).ltA.2; omega
              obtain ⟨i0, hi0', hz0, hz1, hz2⟩ := info_parts info2
              have al1 : ∀ o, (w1.alloc o).cell? ⟨B, bb, none⟩ = some (.slice xb nb cb) := fun o => (World.cell?_of_block (blk_alloc_lt _ _ _ hB5)).trans lb5
              have al2 : ∀ o o', ((w1.alloc o).alloc o').cell? ⟨B, bb, none⟩ = some (.slice xb nb cb) := fun o o' => (World.cell?_of_block (blk_alloc_lt _ _ _ (Nat.lt_of_lt_of_le hB5 (by simp)))).trans (al1 o)
              have al3 : ∀ o, (w1.drew.alloc o).cell? ⟨B, bb, none⟩ = some (.slice xb nb cb) := al1
              have al4 : ∀ o o', ((w1.drew.alloc o).alloc o').cell? ⟨B, bb, none⟩ = some (.slice xb nb cb) := al2
              have dl1 : ∀ o, (w1.alloc o).cell? ⟨wr.heap.size, 3, none⟩ = some (.int .i64 x) := fun o => (World.cell?_of_block (blk_alloc_lt _ _ _ hD5)).trans z2
              clear AF hS3 z1 pb d3 hadd hAlt hAf hDf hBf hBlt3 hnb3 hHM hz5 hlen1
              go_region_law
                (first
                  | (refine step_append_rd (by rfl) _ _ _ (by rfl) w1.heap.size 2 i0 _ 8 Try.underlying23 hi0' hz0 hz1 hz2 (by rfl) _ 0 [] (by rfl) (by first | exact World.ownsRow_made w1 #[] 0 (Nat.le_refl _) (by simp) rfl | exact own_first w1 _ | exact own_second w1 _) _ (i64v (s bb).ml) (by rfl) (by first | exact Rb.alloc _ | exact (Rb.alloc _).alloc _) (i64v_one _) hle1 hle2 (by first | (simp; done) | (simp; omega)) ?_
                     intro v1 wA hownA hgA hatA
                     have hsA : World.Since w1.heap.size w1 wA := since_grown2 hgA (by first | exact since_a1 w1 _ | exact since_a2 w1 _ _) (fun k hk => by first | (have hk' : some w1.heap.size = some k := hk; simp at hk'; omega) | (have hk' : some (w1.heap.size + 1) = some k := hk; simp at hk'; omega))
                     rw [Nat.zero_add, List.nil_append, (show (i64v (s bb).ml).length = nb from Hlen1)] at hownA
                     have dA : wA.cell? ⟨wr.heap.size, 3, none⟩ = some (.int .i64 x) := (hsA.cell hD5).trans z2
                     obtain ⟨va1, vk1, rfl⟩ := ownsRow_slice hownA
                     try have hxa : wA.cell? ⟨w1.heap.size + 1, 0, none⟩ = some (.int .i64 x) := (hgA.cell_far _ (by first | (simp; done) | (simp; omega)) (fun e => by have e' : some (w1.heap.size + 1) = some w1.heap.size := e; simp at e')).trans (cell_second w1 _ _ _)
                     try have hxb : wA.cell? ⟨w1.heap.size, 0, none⟩ = some (.int .i64 x) := (hgA.cell_far _ (by first | (simp; done) | (simp; omega)) (fun e => by have e' : some w1.heap.size = some (w1.heap.size + 1) := e; simp at e')).trans (cell_first w1 _ _ _))
                  | (refine step_append_rd (by rfl) _ _ _ (by rfl) w1.heap.size 2 i0 _ 8 Try.underlying23 hi0' hz0 hz1 hz2 (by rfl) _ _ _ (by rfl) (by first | exact hownA | exact hownA.alloc _) _ [.int .i64 x] (by rfl) (by first | exact Rd.new _ _ _ | exact Rd.one hxa | exact Rd.one hxb) (by simp [Value.oneCell']) hle3 hle4 (by have := hsA.size; simp at this ⊢; omega) ?_
                     intro v2 wB hownB hgB hatB
                     have hsB : World.Since w1.heap.size w1 wB := since_grown2 hgB (by first | exact hsA | exact hsA.drew | exact (hsA.alloc hsA.size _) | exact (hsA.alloc hsA.size _).drew) (fun k hk => (hownA.lt k hk).1)
                     rw [List.length_singleton] at hownB
                     obtain ⟨va2, vk2, rfl⟩ := ownsRow_slice hownB
                     have lB : wB.cell? ⟨B, bb, none⟩ = some (.slice xb nb cb) := (hsB.cell hB5).trans lb5
                     have fB : wB.frozen? ⟨B, bb, none⟩ = false := (hsB.frozen hB5).trans fb5))
              all_goals (
                go_wp2_with fail
                go_roundg (gk - 1)
                case measure => omega
                case rel =>
                  have hAF : After W3.drew (s bb).b c ((s bb).tot + 1) (s bb).sh (putM (s bb).ls 0 [x]) (s bb).rv (s bb).vs w1 sh' rv' vs' ls' := HAF
                  have hS : St A 3 W3.drew c A B s := And.left HS3
                  have hT : Turn wr W3.drew (fun _ => False) := And.right HS3
                  have hhs : (∀ j, j < 3 → (s j).tot ≤ 20000 + i) ∧ Below A w wr ∧ A + 2 ≤ wr.heap.size := And.right HS
                  have hhm : (s bb).ml.length = nb := And.left (And.right (And.right (And.right HM)))
                  have hzz := hT.size
                  have hz2 := hAF.turn.size
                  have hzB := hsB.size
                  have hAle := hS.old
                  refine ⟨i + 1, _, by simp, by omega, by omega, hS.add (by omega) hb3 (by have := hhs.1 bb hb3; omega) HX hAF hsB hhm.symm hownB, fun j hj => ?_, ?_, ?_⟩
                  · unfold upd
                    split
                    · have := hhs.1 bb hb3; show (s bb).tot + 1 ≤ _; omega
                    · have := hhs.1 j hj; omega
                  · have b1 := below_turn hhs.2.1 hT (by omega) fun _ h => h.elim
                    have b2 := below_turn b1 hAF.turn (by omega) fun q h => hAle.2.2 bb q hb3 h
                    have b3 := below_turn b2 (Turn.since (own := fun _ => False) hsB (Nat.le_refl _)) (by omega) fun _ h => h.elim
                    exact below_turn b3 (Turn.cell (w := wB) ⟨B, bb, none⟩ _ (own := fun q => q = B) rfl) (by omega) fun q e => by subst e; exact hAle.2.1
                  · rw [nblk_setCell]; omega)
        · clear g3
          clear htot hi2 hgi
          by_cases hn1 : i < n
          · have hn2 : ¬ (i : Int) < 2000 := by omega
            have hn3 : (i : Int) < (n : Int) := by omega
            clear hin hn1
            go_wp2_with fail
            go_loopg [16] 3 (fun g t wr => ∃ i : Nat, t = .int .i64 i ∧ g + i = 3 ∧ St A 3 wr c A B s ∧ Below A w wr ∧ A + 2 ≤ wr.heap.size)
            case atStart => exact ⟨0, rfl, rfl, S, Bl, hz⟩
            case round =>
              clear S Bl hz
              obtain ⟨i, rfl, hgi, S, Bl, hz⟩ := hrel
              by_cases hi : i < 3
              · have hi1 : (i : Int) < 3 := by omega
                have hi0 : (0 : Int) ≤ (i : Int) := Int.natCast_nonneg _
                go_wp2_with fail
                go_loopg [17] m (fun g t wr => ∃ k : Nat, t = .int .i64 k ∧ g + k = m ∧ St A 3 wr c A B s ∧ Below A w wr ∧ A + 2 ≤ wr.heap.size)
                case atStart => exact ⟨0, rfl, rfl, S, Bl, hz⟩
                case round =>
                  clear S Bl hz
                  obtain ⟨k, rfl, hgk, S, Bl, hz⟩ := hrel
                  by_cases hkm : k < m
                  · have hk1 : (k : Int) < (m : Int) := by omega
                    have hk0 : (0 : Int) ≤ (k : Int) := Int.natCast_nonneg _
                    by_cases hk50 : k < 50
                    · have hk2 : (k : Int) < 50 := by omega
                      obtain ⟨ab, ao, x, ea, e0, hx⟩ := g6 k hkm
                      subst ea
                      obtain ⟨j, hj, hjm⟩ : ∃ j : Nat, ((k : Int) + 1) % (m : Int) = j ∧ j < m := ⟨(((k : Int) + 1) % (m : Int)).toNat, by have := Int.emod_nonneg ((k : Int) + 1) (show (m : Int) ≠ 0 by omega); omega, by have := Int.emod_lt_of_pos ((k : Int) + 1) (show 0 < (m : Int) by omega); omega⟩
                      obtain ⟨ab', ao', y, ea', e1, hy⟩ := g6 j hjm
                      simp only [Option.some.injEq, Addr.mk.injEq, and_true] at ea'
                      obtain ⟨rfl, rfl⟩ := ea'
                      have hab : ab < A := by rw [← hA]; exact World.block_lt_of_cell? w _ e0
                      have cx : wr.cell? ⟨ab, ao + k, none⟩ = some (.int .i64 x) := by rw [World.cell?_of_block (w := w) (Bl.block ab hab)]; exact e0
                      have cy : wr.cell? ⟨ab, ao + j, none⟩ = some (.int .i64 y) := by rw [World.cell?_of_block (w := w) (Bl.block ab hab)]; exact e1
                      have hm40 : (m : Int) ≤ 140737488355328 := by
                        have h5 : m ≤ k2 ∧ m ≤ 140737488355328 := H5
                        omega
                      have hmod := fun W => mod_w ((k : Int) + 1) (m : Int) (by omega) (by omega) (by omega) (by omega) W
                      rw [hj] at hmod
                      have hwk : IntKind.i64.wrap ((k : Int) + 1) = (k : Int) + 1 := wrap_succ k hk50
                      have hj0 : (0 : Int) ≤ (j : Int) := Int.natCast_nonneg _
                      have hj1 : (j : Int) < (m : Int) := by omega
                      have pa := S.ptr hi
                      have la := (S.lst hi).1
                      have O := S.one i hi
                      obtain ⟨xa, ca, hma⟩ := ownsRow_slice O.row
                      rw [hma] at la
                      have hrow := O.row
                      rw [hma] at hrow
                      have hrk := ranked_w (s i).b c (s i).tot (s i).sh (s i).rv (s i).vs (s i).ls (s i).ml (.slice xa (s i).ml.length ca) x y wr.drew (O.mid.keep fun _ _ => rfl) O.inv O.rng (ownsRow_keep hrow fun _ _ => rfl) hy
                      have HS : Hid (St A 3 wr c A B s ∧ Below A w wr ∧ A + 2 ≤ wr.heap.size) := ⟨S, Bl, hz⟩
                      have hl1 : A < wr.drew.heap.size := S.ltA.1
                      have hl2 : B < wr.drew.heap.size := S.ltA.2
                      have hl3 : ab < wr.drew.heap.size := by have : A < wr.heap.size := hl1; show ab < wr.heap.size; omega
                      have HG : Hid (∀ i, i < m → _) := g6
                      generalize (s i).ml.length = nn at *
                      generalize (s i).b = bi at *
                      clear S Bl hz O hma hrow hj e0 e1 hab hx hy g6
                      go_wp2_with fail
                      go_region_held3 (fun w' => w'.cell? ⟨A, i, none⟩ = some (.pointer (some ⟨bi, 0, none⟩)) ∧ w'.cell? ⟨B, i, none⟩ = some (.slice xa nn ca) ∧ w'.cell? ⟨ab, ao + k, none⟩ = some (.int .i64 x) ∧ w'.cell? ⟨ab, ao + j, none⟩ = some (.int .i64 y))
                        (first | go_keep | (exact ⟨z1, z2, z3, z4⟩))
                        (first | (go_at_call 6; with_reducible refine (hmod _).mono ?_; rintro e w5 ⟨rfl, rfl⟩) | (go_at_call 8; refine hrk.mono ?_; rintro e x1 ⟨rfl, T1⟩; have z1 : x1.cell? ⟨A, i, none⟩ = some (.pointer (some ⟨bi, 0, none⟩)) := (World.cell?_of_block (T1.block A hl1 id)).trans pa; have z2 : x1.cell? ⟨B, i, none⟩ = some (.slice xa nn ca) := (World.cell?_of_block (T1.block B hl2 id)).trans la; have z3 : x1.cell? ⟨ab, ao + k, none⟩ = some (.int .i64 x) := (World.cell?_of_block (T1.block ab hl3 id)).trans cx; have z4 : x1.cell? ⟨ab, ao + j, none⟩ = some (.int .i64 y) := (World.cell?_of_block (T1.block ab hl3 id)).trans cy))
                      go_wp2_with fail
                      go_roundg (gk - 1)
                      case measure => omega
                      case rel =>
                        obtain ⟨S, Bl, hz⟩ := (show _ ∧ _ ∧ _ from HS)
                        have T : Turn wr x1 (fun _ => False) := ⟨T1.os, T1.tape, T1.output, T1.size, T1.block⟩
                        have := T.size
                        exact ⟨k + 1, by simp, by omega, S.keep T, below_turn Bl T (by omega) fun _ h => h.elim, by omega⟩
                    · have hk2 : ¬ (k : Int) < 50 := by omega
                      have pa := S.ptr hi
                      have la := (S.lst hi).1
                      have O := S.one i hi
                      obtain ⟨xa, ca, hma⟩ := ownsRow_slice O.row
                      rw [hma] at la
                      have hrow := O.row
                      rw [hma] at hrow
                      have hrk := ranked_w (s i).b c (s i).tot (s i).sh (s i).rv (s i).vs (s i).ls (s i).ml (.slice xa (s i).ml.length ca) 9223372036854775807 (-4611686018427387904) wr.drew (O.mid.keep fun _ _ => rfl) O.inv O.rng (ownsRow_keep hrow fun _ _ => rfl) (by omega)
                      have HS : Hid (St A 3 wr c A B s ∧ Below A w wr ∧ A + 2 ≤ wr.heap.size) := ⟨S, Bl, hz⟩
                      have hl1 : A < wr.drew.heap.size := S.ltA.1
                      have hl2 : B < wr.drew.heap.size := S.ltA.2
                      generalize (s i).ml.length = nn at *
                      generalize (s i).b = bi at *
                      have HG : Hid (∀ i, i < m → _) := g6
                      clear S Bl hz O hma hrow g6
                      go_wp2_with fail
                      go_region_held3 (fun w' => w'.cell? ⟨A, i, none⟩ = some (.pointer (some ⟨bi, 0, none⟩)) ∧ w'.cell? ⟨B, i, none⟩ = some (.slice xa nn ca))
                        (first | go_keep | (exact ⟨z1, z2⟩))
                        (first | (go_at_call 8; refine hrk.mono ?_; rintro e x1 ⟨rfl, T1⟩; have z1 : x1.cell? ⟨A, i, none⟩ = some (.pointer (some ⟨bi, 0, none⟩)) := (World.cell?_of_block (T1.block A hl1 id)).trans pa; have z2 : x1.cell? ⟨B, i, none⟩ = some (.slice xa nn ca) := (World.cell?_of_block (T1.block B hl2 id)).trans la))
                      go_wp2_with fail
                      go_roundg (2 - i)
                      case measure => omega
                      case rel =>
                        obtain ⟨S, Bl, hz⟩ := (show _ ∧ _ ∧ _ from HS)
                        have T : Turn wr x1 (fun _ => False) := ⟨T1.os, T1.tape, T1.output, T1.size, T1.block⟩
                        have := T.size
                        exact ⟨i + 1, by simp, by omega, S.keep T, below_turn Bl T (by omega) fun _ h => h.elim, by omega⟩
                  · have hk1 : ¬ (k : Int) < (m : Int) := by omega
                    have pa := S.ptr hi
                    have la := (S.lst hi).1
                    have O := S.one i hi
                    obtain ⟨xa, ca, hma⟩ := ownsRow_slice O.row
                    rw [hma] at la
                    have hrow := O.row
                    rw [hma] at hrow
                    have hrk := ranked_w (s i).b c (s i).tot (s i).sh (s i).rv (s i).vs (s i).ls (s i).ml (.slice xa (s i).ml.length ca) 9223372036854775807 (-4611686018427387904) wr.drew (O.mid.keep fun _ _ => rfl) O.inv O.rng (ownsRow_keep hrow fun _ _ => rfl) (by omega)
                    have HS : Hid (St A 3 wr c A B s ∧ Below A w wr ∧ A + 2 ≤ wr.heap.size) := ⟨S, Bl, hz⟩
                    have hl1 : A < wr.drew.heap.size := S.ltA.1
                    have hl2 : B < wr.drew.heap.size := S.ltA.2
                    generalize (s i).ml.length = nn at *
                    generalize (s i).b = bi at *
                    have HG : Hid (∀ i, i < m → _) := g6
                    clear S Bl hz O hma hrow g6
                    go_wp2_with fail
                    go_region_held3 (fun w' => w'.cell? ⟨A, i, none⟩ = some (.pointer (some ⟨bi, 0, none⟩)) ∧ w'.cell? ⟨B, i, none⟩ = some (.slice xa nn ca))
                      (first | go_keep | (exact ⟨z1, z2⟩))
                      (first | (go_at_call 8; refine hrk.mono ?_; rintro e x1 ⟨rfl, T1⟩; have z1 : x1.cell? ⟨A, i, none⟩ = some (.pointer (some ⟨bi, 0, none⟩)) := (World.cell?_of_block (T1.block A hl1 id)).trans pa; have z2 : x1.cell? ⟨B, i, none⟩ = some (.slice xa nn ca) := (World.cell?_of_block (T1.block B hl2 id)).trans la))
                    go_wp2_with fail
                    go_roundg (2 - i)
                    case measure => omega
                    case rel =>
                      obtain ⟨S, Bl, hz⟩ := (show _ ∧ _ ∧ _ from HS)
                      have T : Turn wr x1 (fun _ => False) := ⟨T1.os, T1.tape, T1.output, T1.size, T1.block⟩
                      have := T.size
                      exact ⟨i + 1, by simp, by omega, S.keep T, below_turn Bl T (by omega) fun _ h => h.elim, by omega⟩
              · have ei : i = 3 := by omega
                subst ei
                clear S g6
                go_wp2_with fail
                go_ret
                exact ⟨rfl, by rw [hA]; exact Bl⟩
          · have hn3 : ¬ (i : Int) < (n : Int) := by omega
            clear hin hn1
            go_wp2_with fail
            go_loopg [16] 3 (fun g t wr => ∃ i : Nat, t = .int .i64 i ∧ g + i = 3 ∧ St A 3 wr c A B s ∧ Below A w wr ∧ A + 2 ≤ wr.heap.size)
            case atStart => exact ⟨0, rfl, rfl, S, Bl, hz⟩
            case round =>
              clear S Bl hz
              obtain ⟨i, rfl, hgi, S, Bl, hz⟩ := hrel
              by_cases hi : i < 3
              · have hi1 : (i : Int) < 3 := by omega
                have hi0 : (0 : Int) ≤ (i : Int) := Int.natCast_nonneg _
                go_wp2_with fail
                go_loopg [17] m (fun g t wr => ∃ k : Nat, t = .int .i64 k ∧ g + k = m ∧ St A 3 wr c A B s ∧ Below A w wr ∧ A + 2 ≤ wr.heap.size)
                case atStart => exact ⟨0, rfl, rfl, S, Bl, hz⟩
                case round =>
                  clear S Bl hz
                  obtain ⟨k, rfl, hgk, S, Bl, hz⟩ := hrel
                  by_cases hkm : k < m
                  · have hk1 : (k : Int) < (m : Int) := by omega
                    have hk0 : (0 : Int) ≤ (k : Int) := Int.natCast_nonneg _
                    by_cases hk50 : k < 50
                    · have hk2 : (k : Int) < 50 := by omega
                      obtain ⟨ab, ao, x, ea, e0, hx⟩ := g6 k hkm
                      subst ea
                      obtain ⟨j, hj, hjm⟩ : ∃ j : Nat, ((k : Int) + 1) % (m : Int) = j ∧ j < m := ⟨(((k : Int) + 1) % (m : Int)).toNat, by have := Int.emod_nonneg ((k : Int) + 1) (show (m : Int) ≠ 0 by omega); omega, by have := Int.emod_lt_of_pos ((k : Int) + 1) (show 0 < (m : Int) by omega); omega⟩
                      obtain ⟨ab', ao', y, ea', e1, hy⟩ := g6 j hjm
                      simp only [Option.some.injEq, Addr.mk.injEq, and_true] at ea'
                      obtain ⟨rfl, rfl⟩ := ea'
                      have hab : ab < A := by rw [← hA]; exact World.block_lt_of_cell? w _ e0
                      have cx : wr.cell? ⟨ab, ao + k, none⟩ = some (.int .i64 x) := by rw [World.cell?_of_block (w := w) (Bl.block ab hab)]; exact e0
                      have cy : wr.cell? ⟨ab, ao + j, none⟩ = some (.int .i64 y) := by rw [World.cell?_of_block (w := w) (Bl.block ab hab)]; exact e1
                      have hm40 : (m : Int) ≤ 140737488355328 := by
                        have h5 : m ≤ k2 ∧ m ≤ 140737488355328 := H5
                        omega
                      have hmod := fun W => mod_w ((k : Int) + 1) (m : Int) (by omega) (by omega) (by omega) (by omega) W
                      rw [hj] at hmod
                      have hwk : IntKind.i64.wrap ((k : Int) + 1) = (k : Int) + 1 := wrap_succ k hk50
                      have hj0 : (0 : Int) ≤ (j : Int) := Int.natCast_nonneg _
                      have hj1 : (j : Int) < (m : Int) := by omega
                      have pa := S.ptr hi
                      have la := (S.lst hi).1
                      have O := S.one i hi
                      obtain ⟨xa, ca, hma⟩ := ownsRow_slice O.row
                      rw [hma] at la
                      have hrow := O.row
                      rw [hma] at hrow
                      have hrk := ranked_w (s i).b c (s i).tot (s i).sh (s i).rv (s i).vs (s i).ls (s i).ml (.slice xa (s i).ml.length ca) x y wr.drew (O.mid.keep fun _ _ => rfl) O.inv O.rng (ownsRow_keep hrow fun _ _ => rfl) hy
                      have HS : Hid (St A 3 wr c A B s ∧ Below A w wr ∧ A + 2 ≤ wr.heap.size) := ⟨S, Bl, hz⟩
                      have hl1 : A < wr.drew.heap.size := S.ltA.1
                      have hl2 : B < wr.drew.heap.size := S.ltA.2
                      have hl3 : ab < wr.drew.heap.size := by have : A < wr.heap.size := hl1; show ab < wr.heap.size; omega
                      have HG : Hid (∀ i, i < m → _) := g6
                      generalize (s i).ml.length = nn at *
                      generalize (s i).b = bi at *
                      clear S Bl hz O hma hrow hj e0 e1 hab hx hy g6
                      go_wp2_with fail
                      go_region_held3 (fun w' => w'.cell? ⟨A, i, none⟩ = some (.pointer (some ⟨bi, 0, none⟩)) ∧ w'.cell? ⟨B, i, none⟩ = some (.slice xa nn ca) ∧ w'.cell? ⟨ab, ao + k, none⟩ = some (.int .i64 x) ∧ w'.cell? ⟨ab, ao + j, none⟩ = some (.int .i64 y))
                        (first | go_keep | (exact ⟨z1, z2, z3, z4⟩))
                        (first | (go_at_call 6; with_reducible refine (hmod _).mono ?_; rintro e w5 ⟨rfl, rfl⟩) | (go_at_call 8; refine hrk.mono ?_; rintro e x1 ⟨rfl, T1⟩; have z1 : x1.cell? ⟨A, i, none⟩ = some (.pointer (some ⟨bi, 0, none⟩)) := (World.cell?_of_block (T1.block A hl1 id)).trans pa; have z2 : x1.cell? ⟨B, i, none⟩ = some (.slice xa nn ca) := (World.cell?_of_block (T1.block B hl2 id)).trans la; have z3 : x1.cell? ⟨ab, ao + k, none⟩ = some (.int .i64 x) := (World.cell?_of_block (T1.block ab hl3 id)).trans cx; have z4 : x1.cell? ⟨ab, ao + j, none⟩ = some (.int .i64 y) := (World.cell?_of_block (T1.block ab hl3 id)).trans cy))
                      go_wp2_with fail
                      go_roundg (gk - 1)
                      case measure => omega
                      case rel =>
                        obtain ⟨S, Bl, hz⟩ := (show _ ∧ _ ∧ _ from HS)
                        have T : Turn wr x1 (fun _ => False) := ⟨T1.os, T1.tape, T1.output, T1.size, T1.block⟩
                        have := T.size
                        exact ⟨k + 1, by simp, by omega, S.keep T, below_turn Bl T (by omega) fun _ h => h.elim, by omega⟩
                    · have hk2 : ¬ (k : Int) < 50 := by omega
                      have pa := S.ptr hi
                      have la := (S.lst hi).1
                      have O := S.one i hi
                      obtain ⟨xa, ca, hma⟩ := ownsRow_slice O.row
                      rw [hma] at la
                      have hrow := O.row
                      rw [hma] at hrow
                      have hrk := ranked_w (s i).b c (s i).tot (s i).sh (s i).rv (s i).vs (s i).ls (s i).ml (.slice xa (s i).ml.length ca) 9223372036854775807 (-4611686018427387904) wr.drew (O.mid.keep fun _ _ => rfl) O.inv O.rng (ownsRow_keep hrow fun _ _ => rfl) (by omega)
                      have HS : Hid (St A 3 wr c A B s ∧ Below A w wr ∧ A + 2 ≤ wr.heap.size) := ⟨S, Bl, hz⟩
                      have hl1 : A < wr.drew.heap.size := S.ltA.1
                      have hl2 : B < wr.drew.heap.size := S.ltA.2
                      generalize (s i).ml.length = nn at *
                      generalize (s i).b = bi at *
                      have HG : Hid (∀ i, i < m → _) := g6
                      clear S Bl hz O hma hrow g6
                      go_wp2_with fail
                      go_region_held3 (fun w' => w'.cell? ⟨A, i, none⟩ = some (.pointer (some ⟨bi, 0, none⟩)) ∧ w'.cell? ⟨B, i, none⟩ = some (.slice xa nn ca))
                        (first | go_keep | (exact ⟨z1, z2⟩))
                        (first | (go_at_call 8; refine hrk.mono ?_; rintro e x1 ⟨rfl, T1⟩; have z1 : x1.cell? ⟨A, i, none⟩ = some (.pointer (some ⟨bi, 0, none⟩)) := (World.cell?_of_block (T1.block A hl1 id)).trans pa; have z2 : x1.cell? ⟨B, i, none⟩ = some (.slice xa nn ca) := (World.cell?_of_block (T1.block B hl2 id)).trans la))
                      go_wp2_with fail
                      go_roundg (2 - i)
                      case measure => omega
                      case rel =>
                        obtain ⟨S, Bl, hz⟩ := (show _ ∧ _ ∧ _ from HS)
                        have T : Turn wr x1 (fun _ => False) := ⟨T1.os, T1.tape, T1.output, T1.size, T1.block⟩
                        have := T.size
                        exact ⟨i + 1, by simp, by omega, S.keep T, below_turn Bl T (by omega) fun _ h => h.elim, by omega⟩
                  · have hk1 : ¬ (k : Int) < (m : Int) := by omega
                    have pa := S.ptr hi
                    have la := (S.lst hi).1
                    have O := S.one i hi
                    obtain ⟨xa, ca, hma⟩ := ownsRow_slice O.row
                    rw [hma] at la
                    have hrow := O.row
                    rw [hma] at hrow
                    have hrk := ranked_w (s i).b c (s i).tot (s i).sh (s i).rv (s i).vs (s i).ls (s i).ml (.slice xa (s i).ml.length ca) 9223372036854775807 (-4611686018427387904) wr.drew (O.mid.keep fun _ _ => rfl) O.inv O.rng (ownsRow_keep hrow fun _ _ => rfl) (by omega)
                    have HS : Hid (St A 3 wr c A B s ∧ Below A w wr ∧ A + 2 ≤ wr.heap.size) := ⟨S, Bl, hz⟩
                    have hl1 : A < wr.drew.heap.size := S.ltA.1
                    have hl2 : B < wr.drew.heap.size := S.ltA.2
                    generalize (s i).ml.length = nn at *
                    generalize (s i).b = bi at *
                    have HG : Hid (∀ i, i < m → _) := g6
                    clear S Bl hz O hma hrow g6
                    go_wp2_with fail
                    go_region_held3 (fun w' => w'.cell? ⟨A, i, none⟩ = some (.pointer (some ⟨bi, 0, none⟩)) ∧ w'.cell? ⟨B, i, none⟩ = some (.slice xa nn ca))
                      (first | go_keep | (exact ⟨z1, z2⟩))
                      (first | (go_at_call 8; refine hrk.mono ?_; rintro e x1 ⟨rfl, T1⟩; have z1 : x1.cell? ⟨A, i, none⟩ = some (.pointer (some ⟨bi, 0, none⟩)) := (World.cell?_of_block (T1.block A hl1 id)).trans pa; have z2 : x1.cell? ⟨B, i, none⟩ = some (.slice xa nn ca) := (World.cell?_of_block (T1.block B hl2 id)).trans la))
                    go_wp2_with fail
                    go_roundg (2 - i)
                    case measure => omega
                    case rel =>
                      obtain ⟨S, Bl, hz⟩ := (show _ ∧ _ ∧ _ from HS)
                      have T : Turn wr x1 (fun _ => False) := ⟨T1.os, T1.tape, T1.output, T1.size, T1.block⟩
                      have := T.size
                      exact ⟨i + 1, by simp, by omega, S.keep T, below_turn Bl T (by omega) fun _ h => h.elim, by omega⟩
              · have ei : i = 3 := by omega
                subst ei
                clear S g6
                go_wp2_with fail
                go_ret
                exact ⟨rfl, by rw [hA]; exact Bl⟩
end Go.Proofs.Ythhfhjchkldhiaa
