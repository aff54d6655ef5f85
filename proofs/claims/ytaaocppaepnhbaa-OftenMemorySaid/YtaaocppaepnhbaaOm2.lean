/- OftenMemory: mark, spoilt, walked in the world. Own work; no condition. -/
import Derived.Test.YtaaocppaepnhbaaOm1
namespace Go.Proofs.Ytaaocppaepnhbaa
open Go Go.RowKit Go.Deep Go.Sort Go.Shelf
set_option linter.unusedVariables false
set_option linter.unusedSimpArgs false

def markV : VK := ⟨2, 0, ⟨#[115, 112, 111, 105, 108, 116]⟩⟩
set_option maxRecDepth 100000 in
theorem mark_w (w : World) : Calls Try.prog 13 #[] w fun e w' => e = .returned markV.val ∧ w.Since w.heap.size w' := by
  obtain ⟨fs, hfs, _⟩ := und28
  go_enter Try.func13, Try.ntmps13
  go_wp2
  refine bodyPost_ret (results_cell_row (p := 0) (ty := 28) rfl _ _ w.heap.size 28 _ _ _ rfl (heap_alloc_new _ _) hfs rfl size28) rfl ?_
  exact ⟨rfl, (World.Since.refl _ w).alloc (Nat.le_refl _) _⟩

theorem flat_rep (x : FV) (k : Nat) : flatF (List.replicate (k + 1) x) = flatF (List.replicate k x) ++ encF x := by
  rw [List.replicate_succ']; simp [flatF]
theorem flat_one (x : FV) (k : Nat) : ∀ u ∈ flatF (List.replicate k x), u.oneCell' = true := fun u hu => by
  obtain ⟨y, _, h2⟩ := List.mem_flatMap.1 hu
  simp [encF] at h2
  rcases h2 with rfl | rfl | rfl | rfl | rfl <;> rfl

set_option maxRecDepth 100000 in
set_option maxHeartbeats 4000000 in
theorem spoilt_w (v : Value) (n : Nat) (x : FV) (w : World) (h : Own w 0 39 5 v n) (hn : n ≤ 2000) : Calls Try.prog 11 #[v, .agg (encF x).toArray] w fun e w' => e = .returned (.tuple #[]) ∧ Turn w w' (fun q => v.ownBlock = some q) := by
  obtain ⟨⟨k0, n0, s0⟩, lo, hh⟩ := x
  have hlow := fun q (e : v.ownBlock = some q) => (h.lt e).2
  obtain ⟨va, vc, rfl⟩ := h.slice
  simp only [encF]
  obtain ⟨i0, hi0', hz0, hzs, hzb⟩ := info_parts info39
  have hb1 : (w.alloc (.cells #[.int .i64 k0, .int .i64 n0, .string s0, .int .i64 lo, .int .i64 hh] 39)).heap[w.heap.size]? = some (.cells #[.int .i64 k0, .int .i64 n0, .string s0, .int .i64 lo, .int .i64 hh] 39 (0, 0)) := heap_alloc_new _ _
  have K1 : Kept w (w.alloc (.cells #[.int .i64 k0, .int .i64 n0, .string s0, .int .i64 lo, .int .i64 hh] 39)) (fun q => (Value.slice va n vc).ownBlock = some q) := Kept.since ((World.Since.refl _ w).alloc (Nat.le_refl _) _)
  have hz1 : (w.alloc (.cells #[.int .i64 k0, .int .i64 n0, .string s0, .int .i64 lo, .int .i64 hh] 39)).heap.size = w.heap.size + 1 := by simp
  go_enter Try.func11, Try.ntmps11
  go_wp2_with fail
  generalize w.alloc (.cells #[.int .i64 k0, .int .i64 n0, .string s0, .int .i64 lo, .int .i64 hh] 39) = w1 at *
  generalize hB : w.heap.size = B at *
  go_loopg [11] n (fun g t wr => ∃ i : Nat, t = .int .i64 i ∧ g + i = n ∧ Kept w wr (fun q => (Value.slice va n vc).ownBlock = some q) ∧ wr.heap[B]? = some (.cells #[.int .i64 k0, .int .i64 n0, .string s0, .int .i64 lo, .int .i64 hh] 39 (0, 0)))
  case atStart => exact ⟨0, rfl, rfl, K1, hb1⟩
  case round =>
    clear hb1 K1 hz1
    obtain ⟨i, rfl, hgi, K, hb⟩ := hrel
    have y0 : wr.cell? ⟨B, 0, none⟩ = some (.int .i64 k0) := cell_of_heap hb rfl
    have y1 : wr.cell? ⟨B, 1, none⟩ = some (.int .i64 n0) := cell_of_heap hb rfl
    have y2 : wr.cell? ⟨B, 2, none⟩ = some (.string s0) := cell_of_heap hb rfl
    have y3 : wr.cell? ⟨B, 3, none⟩ = some (.int .i64 lo) := cell_of_heap hb rfl
    have y4 : wr.cell? ⟨B, 4, none⟩ = some (.int .i64 hh) := cell_of_heap hb rfl
    have hO := h.kept K
    by_cases hi : i < n
    · have hi0 : (0 : Int) ≤ (i : Int) := Int.natCast_nonneg _
      have hi1 : (i : Int) < (n : Int) := by omega
      have hi2 : (i : Int) ≤ 2000 := by omega
      rcases hO with ⟨e, e0⟩ | ⟨g, cap, e, _, ⟨cur, hc, hs⟩, h4, h5⟩
      · omega
      · cases e
        have hgB : g ≠ B := by have := hlow g rfl; omega
        have hlt : i * 5 + 5 ≤ cur.size := by rw [hs]; have := Nat.mul_le_mul_right 5 (show i + 1 ≤ vc by omega); omega
        have u0 : wr.cell? ⟨g, i * 5, none⟩ = some cur[i * 5] := cell_of_heap hc (Array.getElem?_eq_getElem (by omega))
        have u1 : wr.cell? ⟨g, i * 5 + 1, none⟩ = some cur[i * 5 + 1] := cell_of_heap hc (Array.getElem?_eq_getElem (by omega))
        have u2 : wr.cell? ⟨g, i * 5 + 2, none⟩ = some cur[i * 5 + 2] := cell_of_heap hc (Array.getElem?_eq_getElem (by omega))
        have u3 : wr.cell? ⟨g, i * 5 + 3, none⟩ = some cur[i * 5 + 3] := cell_of_heap hc (Array.getElem?_eq_getElem (by omega))
        have u4 : wr.cell? ⟨g, i * 5 + 4, none⟩ = some cur[i * 5 + 4] := cell_of_heap hc (Array.getElem?_eq_getElem (by omega))
        generalize cur[i * 5] = z0 at *
        generalize cur[i * 5 + 1] = z1 at *
        generalize cur[i * 5 + 2] = z2 at *
        generalize cur[i * 5 + 3] = z3 at *
        generalize cur[i * 5 + 4] = z4 at *
        have f0 : ∀ j, wr.frozen? ⟨g, j, none⟩ = false := fun j => by simp [World.frozen?, hc]
        have HK : Hid (Kept w wr (fun q => (Value.slice (some ⟨g, 0, none⟩) n vc).ownBlock = some q) ∧ wr.heap[B]? = some (.cells #[.int .i64 k0, .int .i64 n0, .string s0, .int .i64 lo, .int .i64 hh] 39 (0, 0)) ∧ g ≠ B ∧ gk + i = n) := ⟨K, hb, hgB, hgi⟩
        clear K hb hc hs hlt h4 h5 hgi hgB hlow h
        go_wp2_with fail
        go_roundg (gk - 1)
        case measure => have := (show _ ∧ _ from HK); omega
        case rel =>
          obtain ⟨K, hb, hgB, hgi⟩ := (show _ ∧ _ from HK)
          refine ⟨i + 1, by simp, by omega, ?_, ?_⟩
          · refine Kept.trans K (o' := fun q => q = g) ?_ (fun _ h => h) (fun q _ e => by simp [Value.ownBlock, e])
            have := ((((Kept.cell (w := wr) ⟨g, i * 5, none⟩ (.int .i64 k0) (own := fun q => q = g) rfl rfl).trans (Kept.cell ⟨g, i * 5 + 1, none⟩ (.int .i64 n0) (own := fun q => q = g) rfl rfl) (own := fun q => q = g) (fun _ h => h) fun _ _ h => h).trans (Kept.cell ⟨g, i * 5 + 2, none⟩ (.string s0) (own := fun q => q = g) rfl rfl) (own := fun q => q = g) (fun _ h => h) fun _ _ h => h).trans (Kept.cell ⟨g, i * 5 + 3, none⟩ (.int .i64 lo) (own := fun q => q = g) rfl rfl) (own := fun q => q = g) (fun _ h => h) fun _ _ h => h).trans (Kept.cell ⟨g, i * 5 + 4, none⟩ (.int .i64 hh) (own := fun q => q = g) rfl rfl) (own := fun q => q = g) (fun _ h => h) fun _ _ h => h
            exact this
          · have e : B ≠ g := fun e => hgB e.symm
            rw [set_other e, set_other e, set_other e, set_other e, set_other e]; exact hb
    · have ei : i = n := by omega
      subst ei
      have hi1 : ¬ (i : Int) < (i : Int) := by omega
      have HO : Hid (Own wr 0 39 5 (.slice va i vc) i ∧ Kept w wr (fun q => (Value.slice va i vc).ownBlock = some q) ∧ (∀ q, (Value.slice va i vc).ownBlock = some q → q < B) ∧ w.heap.size = B) := ⟨hO, K, hlow, hB⟩
      have hBw : B < wr.heap.size := World.block_lt_of_cell? _ _ y0
      have hbq : Hid (wr.heap[B]? = some (.cells #[.int .i64 k0, .int .i64 n0, .string s0, .int .i64 lo, .int .i64 hh] 39 (0, 0))) := hb
      clear hO K hlow h hB hgi y0 y1 y2 y3 y4 hb
      go_wp2_with fail
      obtain ⟨wq, rfl⟩ : ∃ W, W = wr := ⟨wr, rfl⟩
      go_loopg [5, 6] 20 (fun g gv t wl => ∃ j : Nat, t = .int .i64 j ∧ g + j = 20 ∧ Own wl 0 39 5 gv (i + j) ∧ (∀ q, gv.ownBlock = some q → (Value.slice va i vc).ownBlock = some q ∨ wq.heap.size ≤ q) ∧ Kept wq wl (fun q => (Value.slice va i vc).ownBlock = some q) ∧ wl.heap[B]? = some (.cells #[.int .i64 k0, .int .i64 n0, .string s0, .int .i64 lo, .int .i64 hh] 39 (0, 0)) ∧ wq.heap.size ≤ wl.heap.size)
      case atStart =>
        obtain ⟨h1, h2, h3, h4⟩ := (show _ ∧ _ from HO)
        exact ⟨0, rfl, rfl, h1, fun q e => .inl e, Kept.refl _ _, hbq, Nat.le_refl _⟩
      case round =>
        obtain ⟨j, rfl, hgj, hO, hob, K, hb, hle⟩ := hrel
        have y0 : wr.cell? ⟨B, 0, none⟩ = some (.int .i64 k0) := cell_of_heap hb rfl
        have y1 : wr.cell? ⟨B, 1, none⟩ = some (.int .i64 n0) := cell_of_heap hb rfl
        have y2 : wr.cell? ⟨B, 2, none⟩ = some (.string s0) := cell_of_heap hb rfl
        have y3 : wr.cell? ⟨B, 3, none⟩ = some (.int .i64 lo) := cell_of_heap hb rfl
        have y4 : wr.cell? ⟨B, 4, none⟩ = some (.int .i64 hh) := cell_of_heap hb rfl
        have hj0 : (0 : Int) ≤ (j : Int) := Int.natCast_nonneg _
        by_cases hj : j < 20
        · have hj1 : (j : Int) < 20 := by omega
          have K5 : Kept wr (wr.alloc (.cells #[.int .i64 k0, .int .i64 n0, .string s0, .int .i64 lo, .int .i64 hh] 39)) (fun _ => False) := Kept.since ((World.Since.refl _ wr).alloc (Nat.le_refl _) _)
          have HK : Hid ((∀ q, u5.ownBlock = some q → (Value.slice va i vc).ownBlock = some q ∨ wq.heap.size ≤ q) ∧ Kept wq wr (fun q => (Value.slice va i vc).ownBlock = some q) ∧ wr.heap[B]? = some (.cells #[.int .i64 k0, .int .i64 n0, .string s0, .int .i64 lo, .int .i64 hh] 39 (0, 0)) ∧ wq.heap.size ≤ wr.heap.size ∧ gk + j = 20 ∧ B < wq.heap.size) := ⟨hob, K, hb, hle, hgj, hBw⟩
          have hO5 := hO.kept K5
          have hn5 : i + j ≤ 2020 := by omega
          clear hO hob K hb hle hgj hbq
          go_wp2_with (at_builtin; go_must (refine wpList_append_sh _ rfl _ _ _ rfl 0 39 i0 _ 5 48 Try.underlying32 hi0' hz0 hzs hzb rfl u5 (i + j) rfl hO5 ⟨wr.heap.size, 0, none⟩ 1 1 [.int .i64 k0, .int .i64 n0, .string s0, .int .i64 lo, .int .i64 hh] rfl rfl (World.news_of_block (heap_alloc_new _ _)) (by simp [Value.oneCell']) (by omega) (by simp only [maxLen]; omega) (by omega) (Nat.zero_le _) ?_); intro g cap w3 hO3 K3 hat3; clear hO5)
          go_roundg (gk - 1)
          case measure => have := (show _ ∧ _ from HK); omega
          case rel =>
            obtain ⟨h1, h2, h3, h4, h5, h6⟩ := (show _ ∧ _ from HK)
            have hz3 := K3.turn.size
            have hz5 : wr.heap.size + 1 ≤ w3.heap.size := by simpa using hz3
            obtain ⟨q1, q2, q3, q4⟩ := (show _ ∧ _ from HO)
            have hnB : ¬ u5.ownBlock = some B := fun e => by
              rcases h1 B e with x | x
              · have := q3 B x; omega
              · omega
            refine ⟨j + 1, by simp, by omega, hO3, fun q e => ?_, ?_, (K3.turn.block B (by simp; omega) hnB).trans ((blk_alloc_lt _ _ _ (by omega)).trans h3), by omega⟩
            · simp [Value.ownBlock] at e; subst e
              rcases hat3 with x | x
              · exact h1 _ x
              · right; simp at x; omega
            · refine Kept.trans h2 (o' := fun q => u5.ownBlock = some q) (Kept.trans K5 K3 (fun _ h => h.elim) fun _ _ h => h) (fun _ h => h) fun q hq e => ?_
              rcases h1 q e with x | x
              · exact x
              · exact absurd hq (by omega)
        · have ej : j = 20 := by omega
          subst ej
          have hj1 : ¬ ((20 : Nat) : Int) < 20 := by omega
          have HK : Hid (Kept wq wr (fun q => (Value.slice va i vc).ownBlock = some q) ∧ wr.heap[B]? = some (.cells #[.int .i64 k0, .int .i64 n0, .string s0, .int .i64 lo, .int .i64 hh] 39 (0, 0)) ∧ wq.heap.size ≤ wr.heap.size) := ⟨K, hb, hle⟩
          clear hO hob K hb hle hgj hbq y0 y1 y2 y3 y4 hj hj0
          go_wp2_with fail
          obtain ⟨wp, rfl⟩ : ∃ W, W = wr := ⟨wr, rfl⟩
          go_loopg [7, 8] 64 (fun g mv t wl => ∃ j : Nat, t = .int .i64 j ∧ g + j = 64 ∧ wl.ownsRow wp.heap.size 39 5 mv j (flatF (List.replicate j ⟨⟨k0, n0, s0⟩, lo, hh⟩)) ∧ wp.Since wp.heap.size wl)
          case atStart => exact ⟨0, rfl, rfl, World.ownsRow_nil _ _ _ _, World.Since.refl _ _⟩
          case round =>
            obtain ⟨j, rfl, hgj, hR, hS⟩ := hrel
            obtain ⟨K, hb, hle⟩ := (show _ ∧ _ from HK)
            have hb' := (hS.block B (by omega)).trans hb
            have y0 : wr.cell? ⟨B, 0, none⟩ = some (.int .i64 k0) := cell_of_heap hb' rfl
            have y1 : wr.cell? ⟨B, 1, none⟩ = some (.int .i64 n0) := cell_of_heap hb' rfl
            have y2 : wr.cell? ⟨B, 2, none⟩ = some (.string s0) := cell_of_heap hb' rfl
            have y3 : wr.cell? ⟨B, 3, none⟩ = some (.int .i64 lo) := cell_of_heap hb' rfl
            have y4 : wr.cell? ⟨B, 4, none⟩ = some (.int .i64 hh) := cell_of_heap hb' rfl
            have hj0 : (0 : Int) ≤ (j : Int) := Int.natCast_nonneg _
            by_cases hj : j < 64
            · have hj1 : (j : Int) < 64 := by omega
              have HS2 : Hid (wp.Since wp.heap.size wr ∧ gk + j = 64) := ⟨hS, hgj⟩
              have hlo := hR.lt
              have hsz := hS.size
              clear hS K hb hle hb' hgj
              go_wp2_with (at_builtin; go_must (refine wpList_append_lies _ rfl _ _ _ rfl wp.heap.size 39 i0 _ 5 48 Try.underlying32 hi0' hz0 hzs hzb rfl (by omega) u7 j (flatF (List.replicate j ⟨⟨k0, n0, s0⟩, lo, hh⟩)) rfl (hR.alloc _) ⟨wr.heap.size, 0, none⟩ 1 1 [.int .i64 k0, .int .i64 n0, .string s0, .int .i64 lo, .int .i64 hh] rfl rfl (World.news_of_block (heap_alloc_new _ _)) (by simp [Value.oneCell']) (by omega) (by simp only [maxLen]; omega) (by omega) (by simp; omega) _ rfl ?_); intro g cap w3 hR3 hg3 hat3 hlt3; clear hR)
              go_roundg (gk - 1)
              case measure => have := (show _ ∧ _ from HS2).2; omega
              case rel =>
                obtain ⟨hS, hgj⟩ := (show _ ∧ _ from HS2)
                refine ⟨j + 1, by simp, by omega, by rw [flat_rep]; exact hR3, ?_⟩
                exact ((hS.alloc hsz _).grown hg3 (by simp; omega) fun q e => (hlo q e).1)
            · have ej : j = 64 := by omega
              subst ej
              have hj1 : ¬ ((64 : Nat) : Int) < 64 := by omega
              obtain ⟨g, cap, e, hg1, hg2⟩ := hR.form (by omega)
              subst e
              have hS64 := hS.size
              have hcl := hR.cells (g := g) rfl
              have hKw : Kept wp wr (fun q => (Value.slice va i vc).ownBlock = some q) := Kept.since hS
              obtain ⟨q1, q2, q3, q4⟩ := (show _ ∧ _ from HO)
              have hO1 : Own wr 0 39 5 (.slice va i vc) i := (q1.kept K).kept hKw
              have HF : Hid (Turn w wr (fun q => (Value.slice va i vc).ownBlock = some q)) := (q2.trans (K.trans hKw (fun _ h => h) fun _ _ h => h) (fun _ h => h) fun _ _ h => h).turn
              have hl64 : (flatF (List.replicate 64 (⟨⟨k0, n0, s0⟩, lo, hh⟩ : FV))).length = 64 * 5 := by rw [flatF_len]; simp
              have ho64 := flat_one ⟨⟨k0, n0, s0⟩, lo, hh⟩ 64
              clear hb' hj hgj hj0 hR hS K hb hle hKw q1 q2 q3 q4 y0 y1 y2 y3 y4 HK HO
              go_wp2_with (at_builtin; go_must (refine wpList_append_sh _ rfl _ _ _ rfl 0 39 i0 _ 5 48 Try.underlying32 hi0' hz0 hzs hzb rfl (.slice va i vc) i rfl hO1 ⟨g, 0, none⟩ 64 cap (flatF (List.replicate 64 ⟨⟨k0, n0, s0⟩, lo, hh⟩)) rfl hl64 hcl ho64 (by omega) (by simp only [maxLen]; omega) (by omega) (Nat.zero_le _) ?_); intro g' cap' w3 hO3 K3 hat3; clear hO1)
              go_end0
              exact ⟨rfl, Turn.trans HF K3.turn (fun _ h => h) fun _ _ h => h⟩
end Go.Proofs.Ytaaocppaepnhbaa
