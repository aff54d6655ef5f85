/- sketch.Middle: NewMiddle, Add, Total, slices.Clone at [][]int64, walked in the world. Own work; no condition. -/
import Derived.Test.YthhfhjchkldhiaaMd7
namespace Go.Proofs.Ythhfhjchkldhiaa
open Go Go.RowKit Go.Deep

theorem nil39 : ∀ w, (binOp .eql 39 (.slice none 0 0) (.slice none 0 0)).run Try.prog w = .ok (.bool true) w := fun _ => by kernel_rfl
theorem old39 (ad : Addr) (m c : Nat) : ∀ w, (binOp .eql 39 (.slice (some ad) m c) (.slice none 0 0)).run Try.prog w = .ok (.bool false) w := fun _ => by kernel_rfl

set_option maxRecDepth 100000 in
set_option maxHeartbeats 1000000 in
theorem clone9_w (v : Value) (xs : List Value) (w : World) (h : Rd w v xs) (h1 : ∀ u ∈ xs, u.oneCell' = true) (hb : xs.length * 24 ≤ 140737488355328) :
    Calls Try.prog 9 #[v] w fun e w' => ∃ v', e = .returned v' ∧ w'.ownsRow w.heap.size 23 1 v' xs.length xs ∧ w.Since w.heap.size w' := by
  obtain ⟨i0, hi0, hz0, hz1, hz2⟩ := info_parts info23
  have n1 := nil39
  rcases h with ⟨rfl, rfl⟩ | ⟨ad, m, c, rfl, hm, hmc, hc, hcell⟩
  · go_enter Try.func9, Try.ntmps9
    go_wp2
    go_ret
    exact ⟨_, rfl, World.ownsRow_nil _ _ _ _, World.Since.refl _ _⟩
  · have n2 := old39 ad m c
    go_enter Try.func9, Try.ntmps9
    have hcell' : ∀ (W : World), W.heap = w.heap.push (.cells #[] 23) → ∀ j u, xs[j]? = some u → W.cell? (ad.add j) = some u := by
      intro W hW j u hu
      have h2 := hcell j u hu
      have hlt : (ad.add j).block < w.heap.size := World.block_lt_of_cell? w _ h2
      rw [← h2]
      exact World.cell?_of_block (by rw [hW, Array.getElem?_push, if_neg (by omega)])
    go_wp2_with (at_builtin; refine wpList_append_own_at _ rfl _ _ _ rfl w.heap.size 23 i0 _ 1 24 Try.underlying39 hi0 hz0 hz1 hz2 rfl (by omega) _ 0 [] rfl (World.ownsRow_made w #[] 0 (Nat.le_refl _) (by simp) rfl) ad m c xs rfl (by omega) (hcell' _ rfl) h1 (by omega) (by omega) (by simp) ?_)
    rintro v' w1 hown hg _ _
    go_wp2
    go_ret
    refine ⟨_, rfl, by simpa [hm] using hown, ((World.Since.refl _ _).alloc (Nat.le_refl _) _).grown hg (by simp) (fun k hk => by simp [Value.ownBlock] at hk; omega)⟩

set_option maxRecDepth 100000 in
theorem total_w (b : Nat) (c tot sh : Int) (rv : Value) (vs : List Value) (ls : List (List Int)) (w : World) (M : MidAt w b c tot sh rv vs ls) :
    Calls Try.prog 14 #[.pointer (some ⟨b, 0, none⟩)] w fun e w' => e = .returned (.int .i64 tot) ∧ w' = w := by
  obtain ⟨t, hbk⟩ := M.blk
  have c1 : w.cell? ⟨b, 1, none⟩ = some (.int .i64 tot) := cell_of_heap hbk rfl
  go_enter Try.func14, Try.ntmps14
  go_wp2
  go_ret
  exact ⟨rfl, rfl⟩

/-- Which numbers of values a level serve. -/
def okC (c : Int) : Bool := decide (2 ≤ c) && decide (c ≤ 1024) && decide (c % 2 = 0)
set_option maxRecDepth 100000 in
theorem new_bad (c : Int) (h : okC c = false) (w : World) : Calls Try.prog 4 #[.int .i64 c] w fun e w' => e = .returned (.tuple #[.pointer none, .int .i64 1]) ∧ w' = w := by
  by_cases h1 : c < 2
  · go_enter Try.func4, Try.ntmps4
    go_wp2
    go_ret2
    exact ⟨rfl, rfl⟩
  · by_cases h2 : 1024 < c
    · go_enter Try.func4, Try.ntmps4
      go_wp2
      go_ret2
      exact ⟨rfl, rfl⟩
    · have h3 : (c % 2 != 0) = true := by
        simp [okC] at h
        have := h (by omega) (by omega)
        simp; omega
      clear h
      go_enter Try.func4, Try.ntmps4
      go_wp2
      go_ret2
      exact ⟨rfl, rfl⟩
set_option maxRecDepth 100000 in
theorem new_w (c : Nat) (h : okC c = true) (w : World) : Calls Try.prog 4 #[.int .i64 c] w fun e w' => e = .returned (.tuple #[.pointer (some ⟨w.heap.size, 0, none⟩), .int .i64 0]) ∧ MidAt w' w.heap.size c (0 : Nat) 0 (.slice none 0 0) [] [] ∧ w.Since w.heap.size w' ∧ w'.heap.size = w.heap.size + 1 := by
  simp [okC] at h
  have h1 : ¬ (c : Int) < 2 := by omega
  have h2 : ¬ 1024 < (c : Int) := by omega
  have h3 : ((c : Int) % 2 != 0) = false := by simp; omega
  clear h
  go_enter Try.func4, Try.ntmps4
  go_wp2
  go_ret2
  refine ⟨rfl, ⟨⟨_, heap_alloc_new w _⟩, World.ownsRow_nil _ _ _ _, fun i v l hv => by simp at hv, by simp [Value.ownBlock], fun v hv => by simp at hv, fun i j v v' hv => by simp at hv⟩, (World.Since.refl _ _).alloc (Nat.le_refl _) _, by simp⟩
end Go.Proofs.Ythhfhjchkldhiaa
