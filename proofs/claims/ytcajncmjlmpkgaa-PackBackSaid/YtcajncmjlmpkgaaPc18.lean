/- sort; sort; sort. Own work; no condition. -/
import Derived.Test.YtcajncmjlmpkgaaProg
import Derived.Test.YtcajncmjlmpkgaaPc4
import Derived.Shelf.SlSortFuncK.SWK
import Derived.Deep.LoopGhost
import Derived.Below
namespace Go.Proofs.Ytcajncmjlmpkgaa
open Go Go.RowKit Go.Sort Go.Shelf
set_option linter.unusedVariables false
set_option linter.unusedSimpArgs false
set_option maxRecDepth 100000
section
variable {α : Type} [Inhabited α] {enc : α → List Value} {k : Nat} {w W W' : World} {blk size : Nat} {d dk d' : Array α}
theorem cell_lt_sb {w : World} {b o : Nat} {v : Value} (h : w.cell? ⟨b, o, none⟩ = some v) : b < w.heap.size := by
 rcases Nat.lt_or_ge b w.heap.size with g | g
 · exact g
 · simp [World.cell?, Array.getElem?_eq_none g] at h
theorem swk_grow (h : SWK enc k w blk 0 dk W) (q : Nat) (os : Array Obj) : SWK enc k w blk 0 dk (grow (W.drewN q) os) := by
 obtain ⟨n, os', e⟩ := h.drewN q
 rw [e]
 exact ⟨n, os' ++ os, by unfold sortWorldK; rw [grow_grow]⟩
theorem swk_trans (h : SWK enc k w blk 0 dk W) (h' : SWK enc k W blk 0 d' W') (hblk : blk < w.heap.size) (hs : d'.size = dk.size) : SWK enc k w blk 0 d' W' := by
 obtain ⟨n, os, rfl⟩ := h'
 exact h.on hblk n d' os hs
theorem swk_cell (h : SWK enc k w blk 0 dk W) {b o : Nat} {v : Value} (hv : w.cell? ⟨b, o, none⟩ = some v) (hb : b ≠ blk) : W.cell? ⟨b, o, none⟩ = some v := by
 obtain ⟨n, os, rfl⟩ := h
 have hlt := cell_lt_sb hv
 unfold sortWorldK
 rw [cell?_grow _ _ _ (by rw [size_putRowK]; exact hlt), cell?_putRowK_other enc k _ blk 0 _ _ (by exact hb)]
 exact hv
def LessG (P : Program) (g : Nat) (lb : Array Value) (enc : α → List Value) (k : Nat) (lt : α → α → Bool) (blk size : Nat) (w : World) : Prop :=
 ∀ (dk : Array α) (W : World), dk.size = size → SWK enc k w blk 0 dk W → ∀ i j : Nat, i < size → j < size →
   Calls P g (#[.int .i64 i, .int .i64 j] ++ lb) W fun e w' => e = .returned (.bool (lt dk[i]! dk[j]!)) ∧ ∃ q os, w' = grow (W.drewN q) os
theorem LessG.on {P : Program} {g : Nat} {lb : Array Value} {lt : α → α → Bool} (h : LessG P g lb enc k lt blk size w) (hblk : blk < w.heap.size) (hW : SWK enc k w blk 0 dk W) (hs : dk.size = size) : LessG P g lb enc k lt blk size W :=
 fun dk' W' hs' hW' i j hi hj => h dk' W' hs' (swk_trans hW hW' hblk (hs'.trans hs.symm)) i j hi hj
end
end Go.Proofs.Ytcajncmjlmpkgaa

namespace Go.Proofs.Ytcajncmjlmpkgaa
open Go Go.RowKit Go.Sort Go.Shelf
set_option linter.unusedVariables false
set_option linter.unusedSimpArgs false
set_option maxRecDepth 100000
section
variable {α : Type} [Inhabited α] {enc : α → List Value} {k : Nat} {w W W' : World} {blk size : Nat} {d dk d' : Array α} {lt : α → α → Bool}
theorem LessG.at_ {P : Program} {g : Nat} {lb : Array Value} (h : LessG P g lb enc k lt blk size w) (hs : dk.size = size) (hW : SWK enc k w blk 0 dk W) {i j : Nat} (hi : i < size) (hj : j < size) :
   Calls P g (#[.int .i64 i, .int .i64 j] ++ lb) W fun e w' => e = .returned (.bool (lt dk[i]! dk[j]!)) ∧ SWK enc k w blk 0 dk w' :=
 (h dk W hs hW i j hi hj).mono fun _ _ ⟨e, q, os, h⟩ => ⟨e, h ▸ swk_grow hW q os⟩
abbrev pairO (g : Nat) (lb : Array Value) (sf : Nat) (sb : Array Value) : Obj := .cells #[.func (.func g) #[] lb, .func (.func sf) #[] sb] 139 (0, 0)
structure Ask (g : Nat) (lb : Array Value) (sf : Nat) (sb : Array Value) (enc : α → List Value) (k : Nat) (lt : α → α → Bool) (blk : Nat) (d : Array α) (w : World) : Prop where
 len : ∀ x, (enc x).length = k
 eg : ∀ args w, (callFunc g args).run Try.prog w = .ok (.enter g args) w
 less : LessG Try.prog g lb enc k lt blk d.size w
 swap : SwapSwapsK Try.prog sf sb enc k blk 0 d.size
 holds : HoldsK enc k w blk 0 d
 blt : blk < w.heap.size
 small : d.size < 4611686018427387904
theorem Ask.next {g : Nat} {lb : Array Value} {sf : Nat} {sb : Array Value} (h : Ask g lb sf sb enc k lt blk d w) (hS : SWK enc k w blk 0 dk W) (hs : dk.size = d.size) : Ask g lb sf sb enc k lt blk dk W :=
 ⟨h.len, h.eg, hs ▸ h.less.on h.blt hS hs, hs ▸ h.swap, hS.holds h.blt h.holds hs, hS.lt h.blt, hs ▸ h.small⟩
structure In (g : Nat) (lb : Array Value) (sf : Nat) (sb : Array Value) (enc : α → List Value) (k : Nat) (lt : α → α → Bool) (blk B : Nat) (d : Array α) (w w1 : World) : Prop where
 ask : Ask g lb sf sb enc k lt blk d w1
 s1 : SWK enc k w blk 0 d w1
 b0 : w1.cell? ⟨B, 0, none⟩ = some (.func (.func g) #[] lb)
 b1 : w1.cell? ⟨B, 1, none⟩ = some (.func (.func sf) #[] sb)
 ne : B ≠ blk
theorem Ask.enter {g : Nat} {lb : Array Value} {sf : Nat} {sb : Array Value} (h : Ask g lb sf sb enc k lt blk d w) : In g lb sf sb enc k lt blk w.heap.size d w (w.alloc (pairO g lb sf sb)) :=
 have hS : SWK enc k w blk 0 d (w.alloc (pairO g lb sf sb)) := (SWK.start h.holds).alloc _
 ⟨h.next hS rfl, hS, by simp, by simp, by have := h.blt; omega⟩
structure Now (g : Nat) (lb : Array Value) (sf : Nat) (sb : Array Value) (enc : α → List Value) (k : Nat) (blk B : Nat) (dk : Array α) (w1 wr : World) : Prop where
 s : SWK enc k w1 blk 0 dk wr
theorem Now.at_ {g : Nat} {lb : Array Value} {sf : Nat} {sb : Array Value} {B : Nat} {w1 wr : World} (h : SWK enc k w1 blk 0 dk wr) (I : In g lb sf sb enc k lt blk B d w w1) :
   wr.cell? ⟨B, 0, none⟩ = some (.func (.func g) #[] lb) ∧ wr.cell? ⟨B, 1, none⟩ = some (.func (.func sf) #[] sb) := ⟨swk_cell h I.b0 I.ne, swk_cell h I.b1 I.ne⟩
theorem In.less {g : Nat} {lb : Array Value} {sf : Nat} {sb : Array Value} {B : Nat} {w1 wr : World} (I : In g lb sf sb enc k lt blk B d w w1) (h : SWK enc k w1 blk 0 dk wr) (hs : dk.size = d.size) {i j : Nat} (hi : i < d.size) (hj : j < d.size) :
   Calls Try.prog g (#[.int .i64 i, .int .i64 j] ++ lb) wr fun e w' => e = .returned (.bool (lt dk[i]! dk[j]!)) ∧ SWK enc k w1 blk 0 dk w' := I.ask.less.at_ hs h hi hj
theorem In.swap {g : Nat} {lb : Array Value} {sf : Nat} {sb : Array Value} {B : Nat} {w1 wr : World} (I : In g lb sf sb enc k lt blk B d w w1) (h : SWK enc k w1 blk 0 dk wr) (hs : dk.size = d.size) {i j : Nat} (hi : i < d.size) (hj : j < d.size) :
   ∃ w2, (callFunc sf (#[.int .i64 i, .int .i64 j] ++ sb)).run Try.prog wr = .ok (.value (.tuple #[])) w2 ∧ SWK enc k w1 blk 0 (swp dk i j) w2 := by
 have h1 := I.ask.swap wr dk (h.holds I.ask.blt I.ask.holds hs) hs i j hi hj
 have h2 := h.swap I.ask.len I.ask.blt i j (by omega) (by omega)
 simp only [Nat.zero_add] at h1 h2
 exact ⟨_, h1, h2⟩
end
end Go.Proofs.Ytcajncmjlmpkgaa

namespace Go.Proofs.Ytcajncmjlmpkgaa
open Go Go.RowKit Go.Sort Go.Shelf
set_option linter.unusedVariables false
set_option linter.unusedSimpArgs false
set_option maxRecDepth 100000
section
variable {α : Type} [Inhabited α] {enc : α → List Value} {k : Nat} {w W W' : World} {blk size : Nat} {d dk d' : Array α} {lt : α → α → Bool}
end
end Go.Proofs.Ytcajncmjlmpkgaa
