/- sketch.Middle: slices.Clone at []int64 and [][]int64, walked in the world. Own work; no condition. -/
import Derived.WalkKit
import Derived.ProofKit
import Derived.WalkSpells
import Derived.LoopTactic
import Derived.OwnWalk
import Derived.Deep.RegionHeld3
import Derived.Deep.AppendLies
import Derived.Deep.OwnRows
import Derived.Below
import Derived.Test.YthhfhjchkldhiaaChecked
namespace Go.Proofs.Ythhfhjchkldhiaa
open Go Go.RowKit

/-- A list of cells that can be read: where it lies nobody asks. -/
def Rd (w : World) (v : Value) (xs : List Value) : Prop :=
  (v = .slice none 0 0 ∧ xs = []) ∨ ∃ ad m c, v = .slice (some ad) m c ∧ xs.length = m ∧ m ≤ c ∧ c ≤ maxLen ∧ ∀ j u, xs[j]? = some u → w.cell? (ad.add j) = some u
theorem info2 : (Try.prog.info? 2).map (fun i => (i.zero, i.size, i.bytes)) = some (some (.int .i64 0), 1, 8) := by kernel_rfl
theorem info23 : (Try.prog.info? 23).map (fun i => (i.zero, i.size, i.bytes)) = some (some (.slice none 0 0), 1, 24) := by kernel_rfl

theorem nil23 : ∀ w, (binOp .eql 23 (.slice none 0 0) (.slice none 0 0)).run Try.prog w = .ok (.bool true) w := fun _ => by kernel_rfl
theorem old23 (ad : Addr) (m c : Nat) : ∀ w, (binOp .eql 23 (.slice (some ad) m c) (.slice none 0 0)).run Try.prog w = .ok (.bool false) w := fun _ => by kernel_rfl

set_option maxRecDepth 100000 in
set_option maxHeartbeats 1000000 in
theorem clone_w (v : Value) (xs : List Value) (w : World) (h : Rd w v xs) (h1 : ∀ u ∈ xs, u.oneCell' = true) (hb : xs.length * 8 ≤ 140737488355328) :
    Calls Try.prog 16 #[v] w fun e w' => ∃ v', e = .returned v' ∧ w'.ownsRow w.heap.size 2 1 v' xs.length xs ∧ w.Since w.heap.size w' := by
  obtain ⟨i0, hi0, hz0, hz1, hz2⟩ := info_parts info2
  have n1 := nil23
  rcases h with ⟨rfl, rfl⟩ | ⟨ad, m, c, rfl, hm, hmc, hc, hcell⟩
  · go_enter Try.func16, Try.ntmps16
    go_wp2
    go_ret
    exact ⟨_, rfl, World.ownsRow_nil _ _ _ _, World.Since.refl _ _⟩
  · have n2 := old23 ad m c
    go_enter Try.func16, Try.ntmps16
    have hcell' : ∀ (W : World), W.heap = w.heap.push (.cells #[] 2) → ∀ j u, xs[j]? = some u → W.cell? (ad.add j) = some u := by
      intro W hW j u hu
      have h2 := hcell j u hu
      have hlt : (ad.add j).block < w.heap.size := World.block_lt_of_cell? w _ h2
      rw [← h2]
      exact World.cell?_of_block (by rw [hW, Array.getElem?_push, if_neg (by omega)])
    go_wp2_with (at_builtin; refine wpList_append_own_at _ rfl _ _ _ rfl w.heap.size 2 i0 _ 1 8 Try.underlying23 hi0 hz0 hz1 hz2 rfl (by omega) _ 0 [] rfl (World.ownsRow_made w #[] 0 (Nat.le_refl _) (by simp) rfl) ad m c xs rfl (by omega) (hcell' _ rfl) h1 (by omega) (by omega) (by simp) ?_)
    rintro v' w1 hown hg _ _
    go_wp2
    go_ret
    refine ⟨_, rfl, by simpa [hm] using hown, ((World.Since.refl _ _).alloc (Nat.le_refl _) _).grown hg (by simp) (fun k hk => by simp [Value.ownBlock] at hk; omega)⟩
end Go.Proofs.Ythhfhjchkldhiaa
