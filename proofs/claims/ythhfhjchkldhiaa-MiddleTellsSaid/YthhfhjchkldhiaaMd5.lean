/- sketch.Middle: one of its lists sorted in place. Own work; no condition. -/
import Derived.Test.YthhfhjchkldhiaaMd3
import Derived.Sort.Grow
namespace Go.Proofs.Ythhfhjchkldhiaa
open Go Go.RowKit Go.Deep Go.Sort

theorem heap_mapBlock_same {w : World} {b : Nat} {arr : Array Value} {t : TypeId} {fr : Nat × Nat} (f : Array Value → Array Value) (h : w.heap[b]? = some (.cells arr t fr)) : (mapBlock w b f).heap[b]? = some (.cells (f arr) t fr) := by
  have hlt := (Array.getElem?_eq_some_iff.1 h).1
  have hv := (Array.getElem?_eq_some_iff.1 h).2
  unfold mapBlock
  rw [Array.getElem?_eq_getElem (by simpa using hlt), Array.getElem_modify]
  simp [hv, onCells]
theorem heap_mapBlock_other {w : World} {b k : Nat} (f : Array Value → Array Value) (h : k ≠ b) : (mapBlock w b f).heap[k]? = w.heap[k]? := by
  simp [mapBlock, Array.getElem?_modify, Ne.symm h]
theorem heap_grow {w : World} {os : Array Obj} {k : Nat} (h : k < w.heap.size) : (grow w os).heap[k]? = w.heap[k]? := by
  simp [grow, Array.getElem?_append, h]
theorem size_mapBlock (w : World) (b : Nat) (f : Array Value → Array Value) : (mapBlock w b f).heap.size = w.heap.size := by simp [mapBlock]

theorem add0 (x j : Nat) : (⟨x, 0, none⟩ : Addr).add j = ⟨x, j, none⟩ := by unfold Addr.add; split <;> simp_all
theorem addc (x c j : Nat) : (⟨x, c, none⟩ : Addr).add j = ⟨x, c + j, none⟩ := by unfold Addr.add; split <;> simp_all
/-- The world behind a sort. -/
abbrev sortedW (w : World) (q x : Nat) (zs : List Int) (os : Array Obj) : World := grow (putRow (Value.int .i64) (Sort.ahead w q) x 0 zs.toArray) os
theorem sortedW_turn (w : World) (q x : Nat) (zs : List Int) (os : Array Obj) : Turn w (sortedW w q x zs os) (fun k => k = x) :=
  ⟨rfl, rfl, rfl, by simp [sortedW, grow, putRow, size_mapBlock, Sort.ahead], fun k hk hn => by
    rw [heap_grow (by rw [putRow, size_mapBlock]; exact hk), putRow, heap_mapBlock_other _ hn]; rfl⟩

theorem ownsRow_holds {w : World} {base : Nat} {x n cap : Nat} {zs : List Int} (h : w.ownsRow base 2 1 (.slice (some ⟨x, 0, none⟩) n cap) n (i64v zs)) : Holds (Value.int .i64) w x 0 zs.toArray := by
  intro j hj
  have hj' : j < zs.length := by simpa using hj
  rw [Nat.zero_add]
  rcases h.2 with ⟨e, _⟩ | ⟨g, cap', cur, e, _, hg, _⟩
  · cases e
  · simp only [Value.slice.injEq, Option.some.injEq, Addr.mk.injEq, and_true] at e
    obtain ⟨rfl, _, rfl⟩ := e
    refine ⟨?_, by simp [World.frozen?, hg]⟩
    have := h.cells (g := x) rfl j (.int .i64 zs[j]) (by simp [hj'])
    have hadd : (⟨x, 0, none⟩ : Addr).add j = ⟨x, j, none⟩ := by unfold Addr.add; split <;> simp_all
    rw [hadd] at this
    rw [this, getElem!_pos _ j (by simpa using hj)]
    simp

theorem MidAt.sorted {w : World} {b : Nat} {c tot sh : Int} {rv : Value} {vs : List Value} {ls : List (List Int)} (h : MidAt w b c tot sh rv vs ls) {i x n cap : Nat} (hv : vs[i]? = some (.slice (some ⟨x, 0, none⟩) n cap)) {l zs : List Int} (hl : ls[i]? = some l) (hz : zs.length = l.length) (q : Nat) (os : Array Obj) :
    MidAt (sortedW w q x zs os) b c tot sh rv vs (ls.set i zs) := by
  have hm := List.mem_of_getElem? hv
  have hT := sortedW_turn w q x zs os
  have hd := h.d2 _ hm
  have hxb : b ≠ x := fun e => hd.1 (by simp [Value.ownBlock, e])
  have hxr : rv.ownBlock ≠ some x := fun e => by
    rcases hd.2 with g | g
    · simp [Value.ownBlock] at g
    · exact g (by rw [e]; rfl)
  have hil : i < ls.length := (List.getElem?_eq_some_iff.1 hl).1
  have hin := h.inner i _ l hv hl
  refine ⟨?_, ?_, ?_, h.d1, h.d2, h.d3⟩
  · obtain ⟨t, hb⟩ := h.blk
    exact ⟨t, by rw [hT.block b (h.lt (.inl rfl)) hxb]; exact hb⟩
  · rw [List.length_set]
    exact ownsRow_keep h.row fun k e => hT.block k (h.lt (.inr (.inl e))) fun e' => hxr (e' ▸ e)
  · intro j v l' hvj hlj
    by_cases e : i = j
    · subst e
      rw [hv] at hvj; rw [List.getElem?_set_self hil] at hlj
      simp only [Option.some.injEq] at hvj hlj; subst hvj hlj
      obtain ⟨h1, h2⟩ := hin
      refine ⟨by simp, ?_⟩
      rcases h2 with ⟨e, _⟩ | ⟨g, cap', cur, e, h3, h4, h5, h6, h7, h8⟩
      · cases e
      · have e0 := e
        simp only [Value.slice.injEq, Option.some.injEq, Addr.mk.injEq, and_true] at e
        obtain ⟨rfl, rfl, rfl⟩ := e
        have hlt : x < w.heap.size := (Array.getElem?_eq_some_iff.1 h4).1
        refine .inr ⟨x, cap, putCells (Value.int .i64) 0 zs.toArray cur, by rw [hz], h3, ?_, by omega, h6, by simp [putCells]; omega, ?_⟩
        · rw [heap_grow (by rw [putRow, size_mapBlock]; exact hlt), putRow, heap_mapBlock_same _ (by exact h4)]
        · apply List.ext_getElem?
          intro k
          rw [List.getElem?_take]
          by_cases hk : k < zs.length * 1
          · rw [if_pos hk]
            have hk' : k < zs.length := by omega
            have hkc : k < cur.size := by omega
            simp only [putCells, Array.getElem?_toList, Array.getElem?_mapIdx, Array.getElem?_eq_getElem hkc, Option.map_some, Nat.zero_le, true_and, Nat.zero_add, Nat.sub_zero, List.size_toArray, hk', if_true]
            rw [List.getElem?_map, List.getElem?_eq_getElem hk', getElem!_pos _ k (by simpa using hk')]
            simp
          · rw [if_neg hk, List.getElem?_eq_none (by simp; omega)]
    · rw [List.getElem?_set_ne e] at hlj
      refine ownsRow_keep (h.inner j v l' hvj hlj) fun k ek => hT.block k (h.lt (.inr (.inr ⟨v, List.mem_of_getElem? hvj, ek⟩))) fun e' => ?_
      rcases h.d3 i j _ v hv hvj e with g | g
      · simp [Value.ownBlock] at g
      · exact g (by rw [ek, e']; rfl)
theorem MidAt.rd {w : World} {b : Nat} {c tot sh : Int} {rb n cap : Nat} {vs : List Value} {ls : List (List Int)} (h : MidAt w b c tot sh (.slice (some ⟨rb, 0, none⟩) n cap) vs ls) {k : Nat} {v : Value} (hv : vs[k]? = some v) :
    w.cell? ⟨b, 0, none⟩ = some (.int .i64 c) ∧ w.cell? ⟨b, 2, none⟩ = some (.int .i64 sh) ∧ w.frozen? ⟨b, 2, none⟩ = false ∧ w.cell? ⟨b, 3, none⟩ = some (.slice (some ⟨rb, 0, none⟩) n cap) ∧ w.cell? ⟨rb, k, none⟩ = some v ∧ w.frozen? ⟨rb, k, none⟩ = false := by
  obtain ⟨t, hb⟩ := h.blk
  have hk : k < ls.length := by rw [← h.vlen]; exact (List.getElem?_eq_some_iff.1 hv).1
  rcases h.row.2 with ⟨e, _⟩ | ⟨g, cap', cur, e, _, h4, h5, h6, h7, h8⟩
  · cases e
  · simp only [Value.slice.injEq, Option.some.injEq, Addr.mk.injEq, and_true] at e
    obtain ⟨rfl, rfl, rfl⟩ := e
    refine ⟨cell_of_heap hb rfl, cell_of_heap hb rfl, by simp [World.frozen?, hb], cell_of_heap hb rfl, cell_of_heap h4 ?_, by simp [World.frozen?, h4]⟩
    rw [← h8, List.getElem?_take, if_pos (by omega), Array.getElem?_toList] at hv
    exact hv
end Go.Proofs.Ythhfhjchkldhiaa
