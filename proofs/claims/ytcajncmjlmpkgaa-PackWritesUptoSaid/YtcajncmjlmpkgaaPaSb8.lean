/- sort. Own work; no condition. -/
import Derived.Test.YtcajncmjlmpkgaaPa24
import Derived.Test.YtcajncmjlmpkgaaPaPw2
import Derived.Shelf.GgSortMore.Stable
import Derived.Shelf.GgSortFunc.SmallK
namespace Go.Proofs.Ytcajncmjlmpkgaa
open Go Go.RowKit Go.Sort Go.Shelf
set_option linter.unusedVariables false
set_option linter.unusedSimpArgs false
set_option maxRecDepth 100000
noncomputable def svT : TypeInfo := (Try.prog.info? 22).get (by kernel_rfl)
noncomputable def svE : TypeInfo := (Try.prog.info? 24).get (by kernel_rfl)
theorem svK (n : Nat) (h2 : 2 ≤ n) : Lib.swapperK n svE 25 = 9 := by
 have a : svE.hasPointers = true := by kernel_rfl
 have b : svE.bytes = 32 := by kernel_rfl
 have c : (n == 0) = false := by simp; omega
 have d : (n == 1) = false := by simp; omega
 simp [Lib.swapperK, a, b, c, d]
section
variable {α : Type} [Inhabited α] {enc : α → List Value} {w : World} {blk : Nat} {d : Array α} {lt : α → α → Bool}
theorem sliceStable_w (hO : SWO lt) (hk : ∀ x, (enc x).length = 3) (h1 : ∀ x, ∀ v ∈ enc x, v.oneCell' = true) (g : Nat) (lb : Array Value) (c : Nat) (eg : ∀ args w, (callFunc g args).run Try.prog w = .ok (.enter g args) w)
   (h2 : 2 ≤ d.size) (hsz : d.size ≤ 1000000000) (hH : HoldsK enc 3 w blk 0 d) (hblk : blk < w.heap.size) (hless : LessG Try.prog g lb enc 3 lt blk d.size w) :
   Calls Try.prog 83 #[.iface 22 (.slice (some ⟨blk, 0, none⟩) d.size c), .func (.func g) #[] lb] w fun e w' => e = .returned (.tuple #[]) ∧ ∃ d', PermIn 0 d.size d d' ∧ SortedIn lt 0 d.size d' ∧ SWK enc 3 w blk 0 d' w' := by
 refine Any.sort_SliceStable_of_stable layS 22 24 svT svE (by kernel_rfl) (by kernel_rfl) (by kernel_rfl) (by kernel_rfl) 25 (fun _ => by kernel_rfl) _ d.size c (by omega) 110 (by rw [svK _ h2]; kernel_rfl) (.func g) #[] lb w (fun w' => ∃ d', PermIn 0 d.size d d' ∧ SortedIn lt 0 d.size d' ∧ SWK enc 3 w blk 0 d' w') ?_
 have hB : sliceBound Try.prog 24 svE 25 (some ⟨blk, 0, none⟩) d.size c = #[.slice (some ⟨blk, 0, none⟩) d.size c, typeHandle Try.prog 24] := by
   unfold sliceBound; rw [if_neg (by rw [svK _ h2]; decide)]
 rw [hB]
 have hS : SWK enc 3 w blk 0 d (stableWorld Try.prog layS_ren 22 (some ⟨blk, 0, none⟩) d.size c w) := ((SWK.start hH).alloc _).alloc _
 have hsw : SwapSwapsK Try.prog 110 #[.slice (some ⟨blk, 0, none⟩) d.size c, typeHandle Try.prog 24] enc 3 blk 0 d.size :=
   swapSwapsK_of_literal false 110 (fun args W => run_callFunc_extern Try.func110 (by kernel_rfl) (by kernel_rfl) (by kernel_rfl) (e := Extern.ReflectliteSwapper.swap false) (by kernel_rfl) args W) 24 svE (by kernel_rfl) enc 3 hk (by kernel_rfl) (fun _ => by kernel_rfl) h1 blk 0 d.size c
 have A : Ask g lb 110 #[.slice (some ⟨blk, 0, none⟩) d.size c, typeHandle Try.prog 24] enc 3 lt blk d (stableWorld Try.prog layS_ren 22 (some ⟨blk, 0, none⟩) d.size c w) :=
   ⟨hk, eg, hless.on hblk hS rfl, hsw, hS.holds hblk hH rfl, hS.lt hblk, by omega⟩
 refine (stable_w hO A d.size rfl hsz).mono ?_
 rintro e w' ⟨rfl, d', h3, h4, h5⟩
 exact ⟨rfl, d', h3, h4, swk_trans hS h5 hblk h3.1⟩
end
theorem sliceStable_tiny (p : Option Addr) (n c : Nat) (hn : n ≤ 1) (g : Nat) (lb : Array Value) (w : World) :
   Calls Try.prog 83 #[.iface 22 (.slice p n c), .func (.func g) #[] lb] w fun e w' => e = .returned (.tuple #[]) ∧ ∃ os, w' = grow w os := by
 rcases Nat.lt_or_ge n 1 with h | h
 · have : n = 0 := by omega
   subst this
   exact Any.sort_SliceStable_tiny layS 22 24 svT svE (by kernel_rfl) (by kernel_rfl) (by kernel_rfl) (by kernel_rfl) 25 (fun _ => by kernel_rfl) p 0 c (by omega) 102 (by kernel_rfl) (.func g) #[] lb w
 · have : n = 1 := by omega
   subst this
   exact Any.sort_SliceStable_tiny layS 22 24 svT svE (by kernel_rfl) (by kernel_rfl) (by kernel_rfl) (by kernel_rfl) 25 (fun _ => by kernel_rfl) p 1 c (by omega) 103 (by kernel_rfl) (.func g) #[] lb w
end Go.Proofs.Ytcajncmjlmpkgaa
