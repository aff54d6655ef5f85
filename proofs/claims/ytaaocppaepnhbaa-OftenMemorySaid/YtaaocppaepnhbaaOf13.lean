/- sketch.Often: All, walked in the world. Own work; no condition. -/
import Derived.Test.YtaaocppaepnhbaaOf12
import Derived.Shelf.SlSortCmp.NoneTotal
namespace Go.Proofs.Ytaaocppaepnhbaa
open Go Go.RowKit Go.Deep Go.Sort Go.Shelf
set_option linter.unusedVariables false
set_option linter.unusedSimpArgs false

theorem info39 : (Try.prog.info? 39).map (fun i => (i.zero, i.size, i.bytes)) = some (some (.agg #[.int .i64 0, .int .i64 0, .string ByteArray.empty, .int .i64 0, .int .i64 0]), 5, 48) := by kernel_rfl
theorem sortF_w (blk off cap : Nat) (d : Array FV) (w : World) (hH : HoldsK encF 5 w blk off d) (hblk : blk < w.heap.size) (hsz : d.size < 4611686018427387904) :
    Calls Try.prog 16 #[.slice (some ⟨blk, off, none⟩) d.size cap, .func (.func 17) #[] #[]] w fun e w' => e = .returned (.tuple #[]) ∧ ∃ d' n os, PermIn 0 d.size d d' ∧ SortedIn (ltOf ordF) 0 d.size d' ∧ w' = sortWorldK encF 5 w blk off n d' os := by
  have eg : ∀ args w, (callFunc 17 args).run Try.prog w = .ok (.enter 17 args) w := enters_of Try.func17 (by kernel_rfl) rfl
  exact AnyQ.slices_SortFunc layF 5 Try.isAgg39 Try.sizeOf39 encF (fun _ => rfl) (fun x v hv => by simp [encF] at hv; rcases hv with rfl | rfl | rfl | rfl | rfl <;> rfl) ordF swoF 17 #[] blk off cap d w eg (fun _ _ _ _ x y => all1_w x y _) hH hblk hsz
theorem sortF_none (p : Option Addr) (cap : Nat) (fv : Value) (w : World) : Calls Try.prog 16 #[.slice p 0 cap, fv] w fun e w' => e = .returned (.tuple #[]) ∧ w' = w := AnyF.slices_SortFunc_none layF p cap fv w
abbrev flatF (F : List FV) : List Value := F.flatMap encF
theorem flatF_len (F : List FV) : (flatF F).length = F.length * 5 := by
  induction F with
  | nil => rfl
  | cons x r ih => simp [flatF, encF] at ih ⊢; omega
theorem flat_get : ∀ (F : List FV) (t : Nat), t < F.length * 5 → (flatF F)[t]? = some (encF F[t / 5]!)[t % 5]!
  | [], t, h => by simp at h
  | x :: r, t, h => by
    simp only [flatF, List.flatMap_cons]
    rw [List.getElem?_append]
    split
    · rename_i g
      simp [encF] at g
      rw [show t / 5 = 0 by omega, show t % 5 = t by omega]
      rw [List.getElem?_eq_getElem (by simpa [encF] using g)]
      simp only [List.getElem!_cons_zero]
      rw [getElem!_pos _ t (by simpa [encF] using g)]
    · rename_i g
      simp [encF] at g
      have := flat_get r (t - 5) (by simp at h; omega)
      rw [show (encF x).length = 5 from rfl, this, show (t - 5) / 5 = t / 5 - 1 by omega, show (t - 5) % 5 = t % 5 by omega]
      obtain ⟨k, hk⟩ : ∃ k, t / 5 = k + 1 := ⟨t / 5 - 1, by omega⟩
      rw [hk]; rfl
theorem flatK_eq (F : List FV) : flatK encF 5 F.toArray = (flatF F).toArray := by
  apply Array.ext_getElem?
  intro t
  by_cases h : t < F.length * 5
  · rw [List.getElem?_toArray (xs := flatF F), flat_get F t h]
    have := get_flatK encF 5 F.toArray t (by simpa using h)
    rw [getElem!_pos _ t (by simpa using h)] at this
    rw [Array.getElem?_eq_getElem (by simpa using h), this]
    congr 3
    simp
  · rw [Array.getElem?_eq_none (by simp; omega), List.getElem?_toArray (xs := flatF F), List.getElem?_eq_none (by rw [flatF_len]; omega)]

theorem heap_mapBlock_same {w : World} {b : Nat} {arr : Array Value} {t : TypeId} {fr : Nat × Nat} (f : Array Value → Array Value) (h : w.heap[b]? = some (.cells arr t fr)) : (mapBlock w b f).heap[b]? = some (.cells (f arr) t fr) := by
  have hlt := (Array.getElem?_eq_some_iff.1 h).1
  have hv := (Array.getElem?_eq_some_iff.1 h).2
  unfold mapBlock
  rw [Array.getElem?_eq_getElem (by simpa using hlt), Array.getElem_modify]
  simp [hv, onCells]
theorem heap_mapBlock_other {w : World} {b k : Nat} (f : Array Value → Array Value) (h : k ≠ b) : (mapBlock w b f).heap[k]? = w.heap[k]? := by
  simp [mapBlock, Array.getElem?_modify, Ne.symm h]
theorem heap_grow {w : World} {os : Array Obj} {k : Nat} (h : k < w.heap.size) : (grow w os).heap[k]? = w.heap[k]? := by
  simp [grow, Array.getElem?_append, h]
theorem size_mapBlock (w : World) (b : Nat) (f : Array Value → Array Value) : (mapBlock w b f).heap.size = w.heap.size := by simp [mapBlock]
theorem sortK_since {w W : World} {H g : Nat} {n : Nat} {d : Array FV} {os : Array Obj} (h : w.Since H W) (hg : H ≤ g) (hH : H ≤ W.heap.size) : w.Since H (sortWorldK encF 5 W g 0 n d os) := by
  refine ⟨h.os, h.tape, h.output, ?_, fun k hk => ?_⟩
  · have := h.size
    simp [sortWorldK, grow, putRowK, putRow, size_mapBlock, Sort.ahead]; omega
  · have hk' : k < W.heap.size := by omega
    refine Eq.trans ?_ (h.block k hk)
    unfold sortWorldK
    rw [heap_grow (by rw [putRowK, putRow, size_mapBlock]; exact hk'), putRowK, putRow, heap_mapBlock_other _ (by omega)]; rfl
theorem holdsF {w : World} {base g n cap : Nat} {F : List FV} (h : w.ownsRow base 39 5 (.slice (some ⟨g, 0, none⟩) n cap) n (flatF F)) : HoldsK encF 5 w g 0 F.toArray := by
  intro j hj
  rw [flatK_eq] at hj ⊢
  have hj' : j < (flatF F).length := by simpa using hj
  rcases h.2 with ⟨e, _⟩ | ⟨g', cap', cur, e, _, hg, _, _, _, hx⟩
  · cases e
  · simp only [Value.slice.injEq, Option.some.injEq, Addr.mk.injEq, and_true] at e
    obtain ⟨rfl, _, rfl⟩ := e
    rw [Nat.zero_add]
    refine ⟨?_, by simp [World.frozen?, hg]⟩
    have h1 : cur.toList[j]? = some ((flatF F)[j]) := by
      have h2 : (flatF F)[j]? = some ((flatF F)[j]) := List.getElem?_eq_getElem hj'
      rw [← h2, ← hx, List.getElem?_take, if_pos (by have := h.1; omega)]
    rw [getElem!_pos _ j hj]
    exact cell_of_heap hg (by simpa using h1)
theorem ownsF_sorted {w : World} {base g n cap : Nat} {F F' : List FV} (h : w.ownsRow base 39 5 (.slice (some ⟨g, 0, none⟩) n cap) n (flatF F)) (hl : F'.length = F.length) (q : Nat) (os : Array Obj) :
    (sortWorldK encF 5 w g 0 q F'.toArray os).ownsRow base 39 5 (.slice (some ⟨g, 0, none⟩) n cap) n (flatF F') := by
  have hFl := h.1
  rw [flatF_len] at hFl
  refine ⟨by rw [flatF_len]; omega, ?_⟩
  rcases h.2 with ⟨e, _⟩ | ⟨g', cap', cur, e, h3, h4, h5, h6, h7, h8⟩
  · cases e
  · simp only [Value.slice.injEq, Option.some.injEq, Addr.mk.injEq, and_true] at e
    obtain ⟨rfl, _, rfl⟩ := e
    have hlt : g < w.heap.size := (Array.getElem?_eq_some_iff.1 h4).1
    refine .inr ⟨g, cap, putCells id 0 (flatF F').toArray cur, rfl, h3, ?_, h5, h6, by simp [putCells]; omega, ?_⟩
    · unfold sortWorldK
      rw [heap_grow (by rw [putRowK, putRow, size_mapBlock]; exact hlt), putRowK, putRow, flatK_eq, heap_mapBlock_same _ (by exact h4)]
    · apply List.ext_getElem?
      intro k
      have hF' : (flatF F').length = n * 5 := by rw [flatF_len]; omega
      rw [List.getElem?_take]
      by_cases hk : k < n * 5
      · rw [if_pos hk]
        have hc5 : n * 5 ≤ cap * 5 := Nat.mul_le_mul_right 5 h5
        have hkc : k < cur.size := by omega
        have hk' : k < (flatF F').length := by omega
        simp only [putCells, Array.getElem?_toList, Array.getElem?_mapIdx, Array.getElem?_eq_getElem hkc, Option.map_some, Nat.zero_le, true_and, Nat.zero_add, Nat.sub_zero, List.size_toArray, hk', if_true, id]
        rw [List.getElem?_eq_getElem hk', getElem!_pos _ k (by simpa using hk')]
        simp
      · rw [if_neg hk, List.getElem?_eq_none (by omega)]
end Go.Proofs.Ytaaocppaepnhbaa
