/- Rows whose shape alone is known; appending to them. Own work; no condition. -/
import Derived.Test.YtaaocppaepnhbaaOf22
namespace Go.Proofs.Ytaaocppaepnhbaa
open Go Go.RowKit Go.Deep
set_option linter.unusedVariables false
set_option linter.unusedSimpArgs false

/-- Block g is a row of s cells of elements e. -/
def Shape (w : World) (g : Nat) (e : TypeId) (s : Nat) : Prop := ∃ cur : Array Value, w.heap[g]? = some (.cells cur e (0, 0)) ∧ cur.size = s
/-- A slice of n elements over a block of its own, whatever it holds. -/
def Own (w : World) (base : Nat) (e : TypeId) (size : Nat) (v : Value) (n : Nat) : Prop :=
  (v = .slice none 0 0 ∧ n = 0) ∨ ∃ g cap, v = .slice (some ⟨g, 0, none⟩) n cap ∧ base ≤ g ∧ Shape w g e (cap * size) ∧ n ≤ cap ∧ cap ≤ maxLen
theorem Own.of {w : World} {base : Nat} {e : TypeId} {size : Nat} {v : Value} {n : Nat} {xs : List Value} (h : w.ownsRow base e size v n xs) : Own w base e size v n := by
  rcases h.2 with h2 | ⟨g, cap, cur, rfl, h3, h4, h5, h6, h7, h8⟩
  · exact .inl h2
  · exact .inr ⟨g, cap, rfl, h3, ⟨cur, h4, h7⟩, h5, h6⟩
structure Kept (w w' : World) (own : Nat → Prop) : Prop where
  turn : Turn w w' own
  shape : ∀ g e s, Shape w g e s → Shape w' g e s
theorem Kept.refl (w : World) (own : Nat → Prop) : Kept w w own := ⟨Turn.refl _ _, fun _ _ _ h => h⟩
theorem Kept.trans {a b c : World} {o o' own : Nat → Prop} (h : Kept a b o) (k : Kept b c o') (h1 : ∀ q, o q → own q) (h2 : ∀ q, q < a.heap.size → o' q → own q) : Kept a c own := ⟨h.turn.trans k.turn h1 h2, fun g e s x => k.shape g e s (h.shape g e s x)⟩
theorem Shape.lt {w : World} {g : Nat} {e : TypeId} {s : Nat} (h : Shape w g e s) : g < w.heap.size := by
  obtain ⟨c, h1, _⟩ := h; exact (Array.getElem?_eq_some_iff.1 h1).1
theorem Kept.since {w w' : World} {own : Nat → Prop} (h : w.Since w.heap.size w') : Kept w w' own :=
  ⟨Turn.since h (Nat.le_refl _), fun g e s ⟨c, h1, h2⟩ => ⟨c, (h.block g (Array.getElem?_eq_some_iff.1 h1).1).trans h1, h2⟩⟩
theorem Kept.cell {w : World} (a : Addr) (v : Value) {own : Nat → Prop} (ho : own a.block) (ha : a.spot = none) : Kept w (w.setCell a v) own := by
  refine ⟨Turn.cell a v ho, fun g e s ⟨c, h1, h2⟩ => ?_⟩
  by_cases hg : g = a.block
  · obtain ⟨b, i, sp⟩ := a
    simp only at ha hg
    subst ha hg
    exact ⟨c.setIfInBounds i v, setCell_heap h1 v, by simpa using h2⟩
  · exact ⟨c, (blk_setCell_other _ _ _ _ hg).trans h1, h2⟩
theorem Own.kept {w w' : World} {base : Nat} {e : TypeId} {size : Nat} {v : Value} {n : Nat} {own : Nat → Prop} (h : Own w base e size v n) (k : Kept w w' own) : Own w' base e size v n := by
  rcases h with h | ⟨g, cap, h1, h2, h3, h4⟩
  · exact .inl h
  · exact .inr ⟨g, cap, h1, h2, k.shape _ _ _ h3, h4⟩
theorem Own.lt {w : World} {base : Nat} {e : TypeId} {size : Nat} {v : Value} {n : Nat} (h : Own w base e size v n) {q : Nat} (hq : v.ownBlock = some q) : base ≤ q ∧ q < w.heap.size := by
  rcases h with ⟨rfl, _⟩ | ⟨g, cap, rfl, h2, h3, _⟩
  · simp [Value.ownBlock] at hq
  · simp [Value.ownBlock] at hq; subst hq; exact ⟨h2, h3.lt⟩
theorem Own.slice {w : World} {base : Nat} {e : TypeId} {size : Nat} {v : Value} {n : Nat} (h : Own w base e size v n) : ∃ a c, v = .slice a n c := by
  rcases h with ⟨e, e0⟩ | ⟨g, cap, e, _⟩
  · exact ⟨none, 0, by rw [e, e0]⟩
  · exact ⟨_, _, e⟩

/-- append to such a one. -/
theorem run_append_sh {P : Program} (w : World) (t ty : TypeId) (base : Nat) (e : TypeId) (i : TypeInfo) (z : Value) (size bytes : Nat) (ht : P.underlying t = some (.slice e)) (hi : P.info? e = some i) (hz : i.zero = some z) (hsize : i.size = size) (hby : i.bytes = bytes) (hzs : z.cells.size = size)
    (v : Value) (n : Nat) (hown : Own w base e size v n) (ad : Addr) (m c : Nat) (news : List Value) (hl : news.length = m * size) (hnews : ∀ j u, news[j]? = some u → w.cell? (ad.add j) = some u) (h1 : ∀ u ∈ news, u.oneCell' = true)
    (hm : 0 < m) (h63 : n + m ≤ maxLen) (hbytes : (n + m) * bytes ≤ 140737488355328) (hbase : base ≤ w.heap.size) :
    ∃ g cap w', (Builtin.append_ #[t, t] ty #[v, .slice (some ad) m c]).run P w = .ok (.slice (some ⟨g, 0, none⟩) (n + m) cap) w' ∧ Own w' base e size (.slice (some ⟨g, 0, none⟩) (n + m) cap) (n + m) ∧ Kept w w' (fun q => v.ownBlock = some q) ∧ (v.ownBlock = some g ∨ w.heap.size ≤ g) := by
  subst hsize hby
  have hnew : ∀ (cs : Array Value), Kept w (w.drew.alloc (.cells cs e)) (fun q => v.ownBlock = some q) := fun cs => by
    have hs : w.Since w.heap.size (w.drew.alloc (.cells cs e)) := (World.Since.refl _ w).drew.alloc (by simp) _
    exact Kept.since hs
  rcases hown with ⟨rfl, rfl⟩ | ⟨g, cap, rfl, hg, ⟨cur, hc, hs⟩, h4, h5⟩
  · have hr := run_append_nil (P := P) w t ty e i z ht hi hz ad m c news hl hnews hm (by simp only [maxLen] at h63; omega) (by have := hbytes; simp at this; omega)
    refine ⟨_, _, _, by simpa using hr, .inr ⟨_, _, by simp, hbase, ⟨_, heap_alloc_new w.drew _, ?_⟩, by simpa using grownCap_ge w m 0 e, grownCap_le_maxLen w m 0 e (by omega)⟩, hnew _, .inr (Nat.le_refl _)⟩
    have := grownCap_ge w m 0 e
    rw [Array.size_append, size_zeroCells, hzs, List.size_toArray, hl, ← Nat.add_mul]
    congr 1; omega
  · by_cases hroom : n + m ≤ cap
    · have hle : (n + m) * i.size ≤ cap * i.size := Nat.mul_le_mul_right _ hroom
      rw [Nat.add_mul] at hle
      have hr := run_append_room (P := P) w t ty e i ht hi g n cap cur hc ad m c news hl hnews h1 hroom (by omega)
      refine ⟨g, cap, _, hr, .inr ⟨g, cap, rfl, hg, ⟨_, setRow_heap w g cur _ e _ hc, ?_⟩, hroom, h5⟩, ⟨⟨rfl, rfl, rfl, by simp [World.setRow], fun k _ hk => setRow_other _ _ _ _ (fun e => hk (by simp [Value.ownBlock, e]))⟩, fun g' e' s' ⟨c', x1, x2⟩ => ?_⟩, .inl rfl⟩
      · simp only [List.size_toArray, List.length_append, List.length_take, List.length_drop, Array.length_toList, hl]; omega
      · by_cases hgg : g' = g
        · subst hgg
          rw [hc] at x1; cases x1
          refine ⟨_, setRow_heap w g' cur _ e _ hc, ?_⟩
          simp only [List.size_toArray, List.length_append, List.length_take, List.length_drop, Array.length_toList, hl]; omega
        · exact ⟨c', (setRow_other _ _ _ _ hgg).trans x1, x2⟩
    · have hn5 : n * i.size ≤ cap * i.size := Nat.mul_le_mul_right _ h4
      have hr := run_append_grow (P := P) w t ty e i z ht hi hz ⟨g, 0, none⟩ n cap (cur.toList.take (n * i.size)) (by simp; omega) (fun j u hu => by
        have hadd : (⟨g, 0, none⟩ : Addr).add j = ⟨g, j, none⟩ := by unfold Addr.add; split <;> simp_all
        rw [hadd]
        rw [List.getElem?_take] at hu
        split at hu
        · exact cell_of_heap hc (by simpa using hu)
        · cases hu) ad m c news hl hnews (by omega) (by simp only [maxLen] at h63; omega) (growslice_fits (by omega) hbytes)
      refine ⟨_, _, _, hr, .inr ⟨_, _, rfl, hbase, ⟨_, heap_alloc_new w.drew _, ?_⟩, grownCap_ge w (n + m) cap e, grownCap_le_maxLen w (n + m) cap e h63⟩, hnew _, .inr (Nat.le_refl _)⟩
      have := grownCap_ge w (n + m) cap e
      simp only [Array.size_append, size_zeroCells, hzs, List.size_toArray, List.length_take, Array.length_toList, hl, hs, Nat.min_eq_left hn5, ← Nat.add_mul]
      congr 1; omega
theorem wpList_append_sh {P : Program} (w : World) {ops : Array Oper} {rest : List Oper} {o : Oper} {a : Act} {Q : Exit → Act → World → Prop} (hgd : o.guard = none) (s x : Operand) (t : TypeId)
    (ho : o.op = .call { callee := .builtin .append, args := #[s, x], argTypes := #[t, t] })
    (base : Nat) (e : TypeId) (i : TypeInfo) (z : Value) (size bytes : Nat) (ht : P.underlying t = some (.slice e)) (hi : P.info? e = some i) (hz : i.zero = some z) (hsize : i.size = size) (hby : i.bytes = bytes) (hzs : z.cells.size = size)
    (v : Value) (n : Nat) (hs : a.eval s = v) (hown : Own w base e size v n) (ad : Addr) (m c : Nat) (news : List Value) (hx : a.eval x = .slice (some ad) m c) (hl : news.length = m * size) (hnews : ∀ j u, news[j]? = some u → w.cell? (ad.add j) = some u) (h1 : ∀ u ∈ news, u.oneCell' = true)
    (hm : 0 < m) (h63 : n + m ≤ maxLen) (hbytes : (n + m) * bytes ≤ 140737488355328) (hbase : base ≤ w.heap.size)
    (h : ∀ g cap w', Own w' base e size (.slice (some ⟨g, 0, none⟩) (n + m) cap) (n + m) → Kept w w' (fun q => v.ownBlock = some q) → (v.ownBlock = some g ∨ w.heap.size ≤ g) → wpList P ops Q rest (a.put o.dst (.slice (some ⟨g, 0, none⟩) (n + m) cap)) w') : wpList P ops Q (o :: rest) a w := by
  obtain ⟨g, cap, w', hr, h2, h3, h4⟩ := run_append_sh (P := P) w t o.type base e i z size bytes ht hi hz hsize hby hzs v n hown ad m c news hl hnews h1 hm h63 hbytes hbase
  refine wpList_plain hgd fun _ hK => ?_
  unfold Oper.wp execOp
  simp only [ho, resolve, invoke, builtin, Sem.run_bind, Sem.run_pure, Result.andThen_ok, List.map_toArray, List.map_cons, List.map_nil, hs, hx, hr]
  exact hK _ _ (h g cap w' h2 h3 h4)
end Go.Proofs.Ytaaocppaepnhbaa
