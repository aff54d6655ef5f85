/- sketch.Middle: how it lies; put, walked in the world. Own work; no condition. -/
import Derived.Test.YthhfhjchkldhiaaMd1
import Derived.Deep.DrawnRows
namespace Go.Proofs.Ythhfhjchkldhiaa
open Go Go.RowKit Go.Deep

abbrev i64v (l : List Int) : List Value := l.map (Value.int .i64)
theorem i64v_one (l : List Int) : ∀ u ∈ i64v l, u.oneCell' = true := by
  intro u hu; obtain ⟨x, _, rfl⟩ := List.mem_map.1 hu; rfl

theorem ownsRow_keep {w w' : World} {base : Nat} {e : TypeId} {size : Nat} {v : Value} {n : Nat} {xs : List Value} (h : w.ownsRow base e size v n xs) (hk : ∀ k, v.ownBlock = some k → w'.heap[k]? = w.heap[k]?) : w'.ownsRow base e size v n xs := by
  obtain ⟨h1, h2⟩ := h
  refine ⟨h1, ?_⟩
  rcases h2 with h2 | ⟨g, cap, cur, rfl, h3, h4, h5⟩
  · exact .inl h2
  · exact .inr ⟨g, cap, cur, rfl, h3, by rw [hk g rfl]; exact h4, h5⟩
theorem ownsRow_base {w : World} {base base' : Nat} {e : TypeId} {size : Nat} {v : Value} {n : Nat} {xs : List Value} (h : w.ownsRow base e size v n xs) (hb : base' ≤ base) : w.ownsRow base' e size v n xs := by
  obtain ⟨h1, h2⟩ := h
  refine ⟨h1, ?_⟩
  rcases h2 with h2 | ⟨g, cap, cur, rfl, h3, h4⟩
  · exact .inl h2
  · exact .inr ⟨g, cap, cur, rfl, by omega, h4⟩
/-- A row of one's own can be read. -/
theorem ownsRow_rd {w : World} {base : Nat} {e : TypeId} {v : Value} {n : Nat} {xs : List Value} (h : w.ownsRow base e 1 v n xs) : Rd w v xs := by
  have h0 := h
  obtain ⟨h1, h2⟩ := h
  rcases h2 with ⟨rfl, rfl⟩ | ⟨g, cap, cur, rfl, h3, h4, h5, h6, h7, h8⟩
  · exact .inl ⟨rfl, List.length_eq_zero_iff.1 (by simpa using h1)⟩
  · exact .inr ⟨_, n, cap, rfl, by simpa using h1, h5, h6, h0.cells rfl⟩

structure MidAt (w : World) (b : Nat) (c tot sh : Int) (rv : Value) (vs : List Value) (ls : List (List Int)) : Prop where
  blk : ∃ t, w.heap[b]? = some (.cells #[.int .i64 c, .int .i64 tot, .int .i64 sh, rv] t (0, 0))
  row : w.ownsRow 0 23 1 rv ls.length vs
  inner : ∀ (i : Nat) v l, vs[i]? = some v → ls[i]? = some l → w.ownsRow 0 2 1 v l.length (i64v l)
  d1 : rv.ownBlock ≠ some b
  d2 : ∀ v, v ∈ vs → v.ownBlock ≠ some b ∧ (v.ownBlock = none ∨ v.ownBlock ≠ rv.ownBlock)
  d3 : ∀ (i j : Nat) v v', vs[i]? = some v → vs[j]? = some v' → i ≠ j → v.ownBlock = none ∨ v.ownBlock ≠ v'.ownBlock

/-- The blocks of it. -/
def foot (b : Nat) (rv : Value) (vs : List Value) (k : Nat) : Prop := k = b ∨ rv.ownBlock = some k ∨ ∃ v, v ∈ vs ∧ v.ownBlock = some k
structure Turn (w w' : World) (own : Nat → Prop) : Prop where
  os : w'.os = w.os
  tape : w'.tape = w.tape
  output : w'.output = w.output
  size : w.heap.size ≤ w'.heap.size
  block : ∀ k, k < w.heap.size → ¬ own k → w'.heap[k]? = w.heap[k]?
theorem Turn.refl (w : World) (own : Nat → Prop) : Turn w w own := ⟨rfl, rfl, rfl, Nat.le_refl _, fun _ _ _ => rfl⟩
theorem Turn.trans {a b c : World} {o o' own : Nat → Prop} (h : Turn a b o) (k : Turn b c o') (h1 : ∀ k, o k → own k) (h2 : ∀ k, k < a.heap.size → o' k → own k) : Turn a c own :=
  ⟨k.os.trans h.os, k.tape.trans h.tape, k.output.trans h.output, Nat.le_trans h.size k.size, fun i hi hn => (k.block i (Nat.lt_of_lt_of_le hi h.size) (fun e => hn (h2 i hi e))).trans (h.block i hi (fun e => hn (h1 i e)))⟩
theorem Turn.since {w w' : World} {B : Nat} {own : Nat → Prop} (h : w.Since B w') (hB : w.heap.size ≤ B) : Turn w w' own := ⟨h.os, h.tape, h.output, h.size, fun k hk _ => h.block k (by omega)⟩
theorem Turn.grown {w w' : World} {row : Option Nat} {own : Nat → Prop} (h : w.grownBy w' row) (ho : ∀ k, row = some k → k < w.heap.size → own k) : Turn w w' own :=
  ⟨h.os, h.tape, h.output, h.size, fun k hk hn => h.block k hk (fun e => hn (ho k e.symm hk))⟩
theorem Turn.cell {w : World} (a : Addr) (v : Value) {own : Nat → Prop} (ho : own a.block) : Turn w (w.setCell a v) own :=
  ⟨rfl, rfl, rfl, by rw [nblk_setCell]; exact Nat.le_refl _, fun k hk hn => blk_setCell_other _ _ _ _ (fun e => hn (e ▸ ho))⟩

theorem MidAt.keep {w w' : World} {b : Nat} {c tot sh : Int} {rv : Value} {vs : List Value} {ls : List (List Int)} (h : MidAt w b c tot sh rv vs ls) (hk : ∀ k, foot b rv vs k → w'.heap[k]? = w.heap[k]?) : MidAt w' b c tot sh rv vs ls :=
  ⟨by obtain ⟨t, ht⟩ := h.blk; exact ⟨t, by rw [hk b (.inl rfl)]; exact ht⟩, ownsRow_keep h.row fun k e => hk k (.inr (.inl e)),
    fun i v l hv hl => ownsRow_keep (h.inner i v l hv hl) fun k e => hk k (.inr (.inr ⟨v, List.mem_of_getElem? hv, e⟩)), h.d1, h.d2, h.d3⟩
theorem MidAt.vlen {w : World} {b : Nat} {c tot sh : Int} {rv : Value} {vs : List Value} {ls : List (List Int)} (h : MidAt w b c tot sh rv vs ls) : vs.length = ls.length := by
  have := h.row.1; simpa using this
theorem MidAt.lt {w : World} {b : Nat} {c tot sh : Int} {rv : Value} {vs : List Value} {ls : List (List Int)} (h : MidAt w b c tot sh rv vs ls) {k : Nat} (hk : foot b rv vs k) : k < w.heap.size := by
  rcases hk with rfl | e | ⟨v, hv, e⟩
  · obtain ⟨t, ht⟩ := h.blk; exact (Array.getElem?_eq_some_iff.1 ht).1
  · exact (h.row.lt k e).2
  · obtain ⟨i, hi⟩ := List.getElem?_of_mem hv
    have hlt := (List.getElem?_eq_some_iff.1 hi).1
    rw [h.vlen] at hlt
    exact ((h.inner i v _ hi (List.getElem?_eq_getElem hlt)).lt k e).2
theorem cell_of_heap {w : World} {b i : Nat} {arr : Array Value} {t : TypeId} {fr : Nat × Nat} {v : Value} (h : w.heap[b]? = some (.cells arr t fr)) (hv : arr[i]? = some v) : w.cell? ⟨b, i, none⟩ = some v := by
  simp [World.cell?, h, hv]
theorem setCell_heap {w : World} {b i : Nat} {arr : Array Value} {t : TypeId} {fr : Nat × Nat} (h : w.heap[b]? = some (.cells arr t fr)) (v : Value) : (w.setCell ⟨b, i, none⟩ v).heap[b]? = some (.cells (arr.setIfInBounds i v) t fr) := by
  have hlt := (Array.getElem?_eq_some_iff.1 h).1
  have hv := (Array.getElem?_eq_some_iff.1 h).2
  unfold World.setCell
  rw [Array.getElem?_eq_getElem (by simpa using hlt), Array.getElem_modify]
  simp [hv]

/-- The row has grown by empty lists, or is another one of the same lists and these. -/
theorem MidAt.grow {w w1 : World} {b : Nat} {c tot sh : Int} {rv rv' : Value} {vs : List Value} {ls : List (List Int)} (h : MidAt w b c tot sh rv vs ls)
    (hr : w1.ownsRow 0 23 1 rv' (ls.length + 1) (vs ++ [.slice none 0 0])) (ht : Turn w w1 fun k => rv.ownBlock = some k) (hn : rv'.ownBlock = rv.ownBlock ∨ ∃ g, rv'.ownBlock = some g ∧ w.heap.size ≤ g) :
    MidAt (w1.setCell ⟨b, 3, none⟩ rv') b c tot sh rv' (vs ++ [.slice none 0 0]) (ls ++ [[]]) := by
  have hnb : ∀ k, foot b rv vs k → rv'.ownBlock = some k → rv.ownBlock = some k := by
    intro k hk e
    rcases hn with e' | ⟨g, e', hg⟩
    · rw [← e', e]
    · rw [e] at e'; simp only [Option.some.injEq] at e'; have := h.lt hk; omega
  have hb3 : rv'.ownBlock ≠ some b := fun e => h.d1 (hnb b (.inl rfl) e)
  have hsame : ∀ k, k ≠ b → (w1.setCell ⟨b, 3, none⟩ rv').heap[k]? = w1.heap[k]? := fun k hk => blk_setCell_other _ _ _ _ hk
  refine ⟨?_, ?_, ?_, hb3, ?_, ?_⟩
  · obtain ⟨t, hb⟩ := h.blk
    refine ⟨t, ?_⟩
    have hb1 : w1.heap[b]? = some (.cells #[.int .i64 c, .int .i64 tot, .int .i64 sh, rv] t (0, 0)) := by rw [ht.block b (h.lt (.inl rfl)) h.d1]; exact hb
    rw [setCell_heap hb1]; rfl
  · rw [List.length_append, List.length_singleton]
    exact ownsRow_keep hr fun k e => hsame k (fun e' => hb3 (e' ▸ e))
  · intro i v l hv hl
    rcases Nat.lt_or_ge i vs.length with g | g
    · rw [List.getElem?_append_left g] at hv
      rw [List.getElem?_append_left (by rw [← h.vlen]; exact g)] at hl
      have hm := List.mem_of_getElem? hv
      refine ownsRow_keep (h.inner i v l hv hl) fun k e => ?_
      have hd := h.d2 v hm
      have hkb : k ≠ b := fun e' => hd.1 (e' ▸ e)
      have hno : ¬ rv.ownBlock = some k := fun e' => by
        rcases hd.2 with g | g
        · rw [e] at g; cases g
        · exact g (by rw [e, e'])
      rw [hsame k hkb, ht.block k (h.lt (.inr (.inr ⟨v, hm, e⟩))) hno]
    · rw [List.getElem?_append_right g] at hv
      rw [List.getElem?_append_right (by rw [← h.vlen]; exact g), ← h.vlen] at hl
      rcases Nat.eq_or_lt_of_le g with g | g
      · subst g; simp at hv hl; subst hv hl
        exact World.ownsRow_nil _ _ _ _
      · rw [List.getElem?_eq_none (by simp; omega)] at hv; cases hv
  · intro v hv
    rcases List.mem_append.1 hv with hv | hv
    · refine ⟨(h.d2 v hv).1, ?_⟩
      rcases he : v.ownBlock with _ | k
      · exact .inl rfl
      · refine .inr fun e => ?_
        rcases (h.d2 v hv).2 with g | g
        · rw [he] at g; cases g
        · exact g (by rw [he, hnb k (.inr (.inr ⟨v, hv, he⟩)) e.symm])
    · simp at hv; subst hv; exact ⟨by simp [Value.ownBlock], .inl rfl⟩
  · intro i j v v' hi hj hij
    rcases Nat.lt_or_ge i vs.length with g | g
    · rw [List.getElem?_append_left g] at hi
      rcases Nat.lt_or_ge j vs.length with g' | g'
      · rw [List.getElem?_append_left g'] at hj; exact h.d3 i j v v' hi hj hij
      · rw [List.getElem?_append_right g'] at hj
        have := List.mem_of_getElem? hj
        simp at this; subst this
        rcases he : v.ownBlock with _ | k
        · exact .inl rfl
        · exact .inr (by simp [Value.ownBlock])
    · rw [List.getElem?_append_right g] at hi
      have := List.mem_of_getElem? hi
      simp at this; subst this
      exact .inl rfl

/-- One list of the row is another one, in new memory. -/
theorem MidAt.put {w w1 : World} {b : Nat} {c tot sh : Int} {rv : Value} {vs : List Value} {ls : List (List Int)} (h : MidAt w b c tot sh rv vs ls) {rb n cap i : Nat} (hrv : rv = .slice (some ⟨rb, 0, none⟩) n cap)
    (hi : i < ls.length) {v' : Value} {l' : List Int} (hv' : w1.ownsRow w.heap.size 2 1 v' l'.length (i64v l')) (hs : w.Since w.heap.size w1) :
    MidAt (w1.setCell ⟨rb, i, none⟩ v') b c tot sh rv (vs.set i v') (ls.set i l') := by
  have hb0 : rb ≠ b := fun e => h.d1 (by rw [hrv, e]; rfl)
  have hrb : rv.ownBlock = some rb := by rw [hrv]; rfl
  have hsame : ∀ k, k ≠ rb → (w1.setCell ⟨rb, i, none⟩ v').heap[k]? = w1.heap[k]? := fun k hk => blk_setCell_other _ _ _ _ hk
  have hlt := fun {k} hk => h.lt (k := k) hk
  have hnew : ∀ k, v'.ownBlock = some k → w.heap.size ≤ k := fun k e => (hv'.lt k e).1
  have hvl : i < vs.length := by rw [h.vlen]; exact hi
  refine ⟨?_, ?_, ?_, h.d1, ?_, ?_⟩
  · obtain ⟨t, hb⟩ := h.blk
    exact ⟨t, by rw [hsame b (Ne.symm hb0), hs.block b (hlt (.inl rfl))]; exact hb⟩
  · obtain ⟨r1, r2⟩ := h.row
    refine ⟨by rw [List.length_set, List.length_set]; exact r1, ?_⟩
    rcases r2 with ⟨r2, _⟩ | ⟨g, cap', cur, r2, r3, r4, r5, r6, r7, r8⟩
    · rw [hrv] at r2; cases r2
    · rw [hrv] at r2
      simp only [Value.slice.injEq, Option.some.injEq, Addr.mk.injEq, and_true] at r2
      obtain ⟨rfl, rfl, rfl⟩ := r2
      refine .inr ⟨rb, cap, cur.setIfInBounds i v', by rw [List.length_set]; exact hrv, Nat.zero_le _, ?_, by rw [List.length_set]; exact r5, r6, by simpa using r7, ?_⟩
      · rw [setCell_heap (by rw [hs.block rb (hlt (.inr (.inl hrb)))]; exact r4)]
      · rw [← r8, List.length_set]
        apply List.ext_getElem?
        intro j
        rw [List.getElem?_take, List.getElem?_set]
        simp only [Array.getElem?_toList, Array.getElem?_setIfInBounds, List.getElem?_take, List.length_take, Array.length_toList]
        by_cases hj : j < ls.length * 1
        · rw [if_pos hj, if_pos hj]
          by_cases e : i = j
          · subst e; rw [if_pos rfl, if_pos rfl, if_pos (by omega), if_pos (by omega)]
          · rw [if_neg e, if_neg e]
        · rw [if_neg hj, if_neg (by omega), if_neg hj]
  · intro j v l hv hl
    by_cases e : i = j
    · subst e
      rw [List.getElem?_set_self hvl] at hv
      rw [List.getElem?_set_self hi] at hl
      simp only [Option.some.injEq] at hv hl; subst hv hl
      refine ownsRow_keep (ownsRow_base hv' (Nat.zero_le _)) fun k hk => hsame k ?_
      have := hnew k hk
      have := hlt (.inr (.inl hrb)); omega
    · rw [List.getElem?_set_ne e] at hv hl
      have hm := List.mem_of_getElem? hv
      refine ownsRow_keep (h.inner j v l hv hl) fun k hk => ?_
      have hne : k ≠ rb := by
        rintro rfl
        rcases (h.d2 v hm).2 with g | g
        · rw [hk] at g; cases g
        · exact g (by rw [hk, hrb])
      rw [hsame k hne, hs.block k (hlt (.inr (.inr ⟨v, hm, hk⟩)))]
  · intro v hv
    rcases List.mem_or_eq_of_mem_set hv with hv | rfl
    · exact h.d2 v hv
    · refine ⟨fun e => ?_, ?_⟩
      · have := hnew b e; have := hlt (.inl rfl); omega
      · refine .inr fun e => ?_
        rw [hrb] at e
        have := hnew rb e; have := hlt (.inr (.inl hrb)); omega
  · have hx : ∀ (j : Nat) v, vs[j]? = some v → v.ownBlock = none ∨ v.ownBlock ≠ v'.ownBlock := by
      intro j v hj
      rcases he : v.ownBlock with _ | k
      · exact .inl rfl
      · refine .inr fun e => ?_
        have := hnew k e.symm
        have := hlt (.inr (.inr ⟨v, List.mem_of_getElem? hj, he⟩)); omega
    intro j k v u hj hk hjk
    by_cases e : i = j
    · subst e
      rw [List.getElem?_set_self hvl] at hj
      rw [List.getElem?_set_ne hjk] at hk
      simp only [Option.some.injEq] at hj; subst hj
      rcases he : v'.ownBlock with _ | q
      · exact .inl rfl
      · rcases hx k u hk with g | g
        · exact .inr (by rw [g]; simp)
        · exact .inr (fun e => g (by rw [he]; exact e.symm))
    · rw [List.getElem?_set_ne e] at hj
      by_cases e' : i = k
      · subst e'
        rw [List.getElem?_set_self hvl] at hk
        simp only [Option.some.injEq] at hk; subst hk
        exact hx j v hj
      · rw [List.getElem?_set_ne e'] at hk
        exact h.d3 j k v u hj hk hjk
end Go.Proofs.Ythhfhjchkldhiaa
