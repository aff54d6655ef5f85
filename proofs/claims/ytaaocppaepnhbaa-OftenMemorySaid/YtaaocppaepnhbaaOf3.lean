/- sketch.Often: ranging over a map of values. Own work; no condition. -/
import Derived.Test.YtaaocppaepnhbaaOf2
namespace Go.Proofs.Ytaaocppaepnhbaa
open Go Go.RowKit Go.MapKept
open Go.Maps (Keyed)
open Go.ChangeMaps (setBlock)
set_option linter.unusedVariables false
set_option linter.unusedSimpArgs false

theorem MapAt.keep {w w' : World} {b : Nat} {E : Ents} (h : MapAt w b E) (hk : w'.heap[b]? = w.heap[b]?) : MapAt w' b E := by
  obtain ⟨es, clk, h1, h2⟩ := h
  exact ⟨es, clk, hk.trans h1, h2⟩
theorem MapAt.uniq {w : World} {b : Nat} {E : Ents} (h : MapAt w b E) : Uniq E := by
  obtain ⟨es, clk, h1, h2⟩ := h; exact h2.uniq
theorem MapAt.ok {w : World} {b : Nat} {E : Ents} (h : MapAt w b E) : ∀ p ∈ E, p.1.Ok := by
  obtain ⟨es, clk, h1, h2⟩ := h; exact h2.ok
theorem MapAt.lt {w : World} {b : Nat} {E : Ents} (h : MapAt w b E) : b < w.heap.size := by
  obtain ⟨es, clk, h1, h2⟩ := h; exact (Array.getElem?_eq_some_iff.1 h1).1
theorem MapAt.made (w : World) : MapAt (w.alloc (.map #[] 0)) w.heap.size [] := ⟨_, _, (heap_alloc w _).1, ⟨stamped_empty 0, by simp, by simp⟩⟩
/-- A deletion. -/
theorem Stand.drop {es es' : Array MapEntry} {clk : Nat} {E : Ents} (h : Stand es clk E) {q : VK} {y : Int} {j : Nat} (hE : E[j]? = some (q, y)) (hs : es' = es.eraseIdxIfInBounds j) (hl : es'.toList = es.toList.eraseIdx j) : Stand es' clk (del E q) :=
  ⟨by rw [hs]; exact stamped_erase h.st j, by rw [del_old h.uniq hE, hl, Go.ChangeMaps.map_eraseIdx, Go.ChangeMaps.map_eraseIdx, h.eq], fun p hp => h.ok p (List.mem_filter.1 hp).1⟩
theorem MapAt.drop {w : World} {b : Nat} {E : Ents} (h : MapAt w b E) {q : VK} (hq : q.Ok) (ty : TypeId) {mt : TypeId} (hT : MT mt) :
    ∃ w', (Builtin.delete_ #[mt, 28] ty #[.map (some b), q.val]).run Try.prog w = .ok (.tuple #[]) w' ∧ MapAt w' b (del E q) ∧ w.mapTurned w' b := by
  obtain ⟨vt, hu, zv⟩ := hT
  obtain ⟨es, clk, hb, S⟩ := h
  obtain ⟨l, hl⟩ := hq.key
  rcases S.find w hq with ⟨h1, h2, h3⟩ | ⟨j, e, y, h1, h2, h3, h4, h5⟩
  · exact ⟨_, by simp [Builtin.delete_, run_underlying hu, MapKept.run_getObj_map hb, keyed28.check w _ hl, h1, MapKept.run_setObj_map _ hb, Result.andThen]; rfl, ⟨_, _, setBlock_at hb _ _, by rw [del_none h2]; exact S⟩, ⟨_, _, _, _, hb, rfl⟩⟩
  · have hjl : j < es.toList.length := (List.getElem?_eq_some_iff.1 h2).1
    have hjs : j < es.size := by simpa using hjl
    have hsub : (es.eraseIdxIfInBounds j).toList = es.toList.eraseIdx j := by
      unfold Array.eraseIdxIfInBounds
      rw [dif_pos hjs]
      simp
    exact ⟨_, by simp [Builtin.delete_, run_underlying hu, MapKept.run_getObj_map hb, keyed28.check w _ hl, h1, MapKept.run_setObj_map _ hb, Result.andThen]; rfl, ⟨_, _, setBlock_at hb _ _, S.drop h5 rfl hsub⟩, ⟨_, _, _, _, hb, rfl⟩⟩

/-- Block r is an iterator over the map in block b; L: the keys that are still to come. -/
def ItAt (w : World) (b r : Nat) (E : Ents) (L : List VK) : Prop :=
  ∃ es clk since seen c0, w.heap[b]? = some (.map es clk) ∧ Stand es clk E ∧ w.heap[r]? = some (.mapIter (some b) since seen c0) ∧ (∀ x ∈ es.toList, x.born < since) ∧ since ≤ c0 ∧ since ≤ clk ∧
    (∀ q : VK, q ∈ L ↔ ∃ e ∈ es.toList, e.key = q.val ∧ seen.contains e.born = false) ∧ L.Nodup
theorem ItAt.map {w : World} {b r : Nat} {E : Ents} {L : List VK} (h : ItAt w b r E L) : MapAt w b E := by
  obtain ⟨es, clk, since, seen, c0, h1, h2, _⟩ := h; exact ⟨es, clk, h1, h2⟩
theorem ItAt.keep {w w' : World} {b r : Nat} {E : Ents} {L : List VK} (h : ItAt w b r E L) (hb : w'.heap[b]? = w.heap[b]?) (hr : w'.heap[r]? = w.heap[r]?) : ItAt w' b r E L := by
  obtain ⟨es, clk, since, seen, c0, h1, h2, h3, h4⟩ := h
  exact ⟨es, clk, since, seen, c0, hb.trans h1, h2, hr.trans h3, h4⟩
theorem ItAt.lt {w : World} {b r : Nat} {E : Ents} {L : List VK} (h : ItAt w b r E L) : r < w.heap.size := by
  obtain ⟨es, clk, since, seen, c0, h1, h2, h3, h4⟩ := h; exact (Array.getElem?_eq_some_iff.1 h3).1
theorem ItAt.ne {w : World} {b r : Nat} {E : Ents} {L : List VK} (h : ItAt w b r E L) : r ≠ b := by
  obtain ⟨es, clk, since, seen, c0, h1, h2, h3, h4⟩ := h
  intro e; rw [e, h1] at h3; cases h3
theorem Stand.has {es : Array MapEntry} {clk : Nat} {E : Ents} (h : Stand es clk E) {q : VK} : (∃ p ∈ E, p.1 = q) ↔ ∃ e ∈ es.toList, e.key = q.val := by
  constructor
  · rintro ⟨p, hp, rfl⟩
    obtain ⟨j, hj⟩ := List.getElem?_of_mem hp
    obtain ⟨e, he, hk, _⟩ := h.of_at (q := p.1) (x := p.2) hj
    exact ⟨e, List.mem_of_getElem? he, hk⟩
  · rintro ⟨e, he, hk⟩
    obtain ⟨j, hj⟩ := List.getElem?_of_mem he
    obtain ⟨q', x, g1, g2, _⟩ := h.at_ hj
    exact ⟨(q', x), List.mem_of_getElem? g1, VK.inj (by rw [← g2, hk])⟩
/-- 'range m'. -/
theorem MapAt.range {w : World} {b : Nat} {E : Ents} (h : MapAt w b E) {mt : TypeId} (hT : MT mt) :
    ∃ w', (Instr.range mt (.map (some b))).run Try.prog w = .ok (.pointer (some ⟨w.heap.size, 0, none⟩)) w' ∧ ItAt w' b w.heap.size E (E.map (·.1)) ∧ w.grownBy w' none ∧ w'.heap.size = w.heap.size + 1 := by
  have hlt := h.lt
  obtain ⟨vt, hu, zv⟩ := hT
  obtain ⟨es, clk, hb, S⟩ := h
  refine ⟨_, run_range_map w mt 28 vt b es clk hu hb, ⟨es, clk, clk, #[], clk, ((heap_alloc w _).2 b hlt).trans hb, S, (heap_alloc w _).1, S.st.1, Nat.le_refl _, Nat.le_refl _, fun q => ?_, ?_⟩, World.grownBy_alloc w _ none, by simp⟩
  · have := S.has (q := q)
    simp only [List.mem_map]
    rw [this]
    simp
  · rw [List.nodup_iff_pairwise_ne, List.pairwise_map]; exact S.uniq
/-- The step. -/
theorem ItAt.next {w : World} {b r : Nat} {E : Ents} {L : List VK} (h : ItAt w b r E L) (ty : TypeId) :
    (L = [] ∧ (Instr.next (.pointer (some ⟨r, 0, none⟩)) false ty).run Try.prog w = .ok (.tuple #[.bool false]) w) ∨
    ∃ q x w', q ∈ L ∧ lkE E q = some x ∧ q.Ok ∧ (Instr.next (.pointer (some ⟨r, 0, none⟩)) false ty).run Try.prog w = .ok (.tuple #[.bool true, q.val, .int .i64 x]) w' ∧ ItAt w' b r E (L.erase q) ∧
      (Instr.entry (.pointer (some ⟨r, 0, none⟩))).run Try.prog w' = .ok (.tuple #[q.val, .int .i64 x]) w' ∧ w.grownBy w' (some r) ∧ w'.heap.size = w.heap.size := by
  have hne := h.ne
  obtain ⟨es, clk, since, seen, c0, hb, S, hr, hold, hsc, hsk, hL, hN⟩ := h
  rcases run_next_at (P := Try.prog) w ty r b since c0 seen es clk hr hb hold hsc with ⟨h0, hrun⟩ | ⟨e, he, w1, hal, hrun⟩
  · refine .inl ⟨List.eq_nil_iff_forall_not_mem.2 fun q hq => ?_, hrun⟩
    obtain ⟨e, he, _, h2⟩ := (hL q).1 hq
    have := all_seen es seen h0 e he
    rw [this] at h2; cases h2
  · obtain ⟨hem, hes⟩ := mem_left he
    obtain ⟨j, hj⟩ := List.getElem?_of_mem hem
    obtain ⟨q, x, g1, g2, g3, g4⟩ := S.at_ hj
    have hr1 : w1.heap[r]? = some (.mapIter (some b) since seen c0) := by rcases hal with rfl | rfl <;> exact hr
    have hb1 : w1.heap[b]? = some (.map es clk) := by rcases hal with rfl | rfl <;> exact hb
    have hset := heap_set (o' := .mapIter (some b) since (seen.push e.born) clk) hr1
    have hb' : (setBlock w1 r (.mapIter (some b) since (seen.push e.born) clk)).heap[b]? = some (.map es clk) := (hset.2 b (fun e1 => hne e1.symm)).trans hb1
    rw [g2, g3] at hrun
    have hen := run_entry_at (P := Try.prog) _ r b since seen es clk e hset.1 hb' hem S.st.2.1
    rw [g2, g3] at hen
    refine .inr ⟨q, x, _, (hL q).2 ⟨e, hem, g2, hes⟩, look_at S.uniq g1, g4, hrun, ⟨es, clk, since, _, clk, hb', S, hset.1, hold, hsk, hsk, fun q' => ?_, hN.erase _⟩, hen, ?_, ?_⟩
    · rw [hN.mem_erase_iff, hL q']
      constructor
      · rintro ⟨n1, e', m1, m2, m3⟩
        refine ⟨e', m1, m2, ?_⟩
        rw [contains_push, m3, Bool.false_or]
        simp only [beq_eq_false_iff_ne]
        intro hbn
        have := born_inj S.st.2.1 m1 hem hbn
        subst this
        exact n1 (VK.inj (by rw [← m2, g2]))
      · rintro ⟨e', m1, m2, m3⟩
        rw [contains_push, Bool.or_eq_false_iff] at m3
        refine ⟨fun e1 => ?_, e', m1, m2, m3.1⟩
        subst e1
        have hk := (stamped_iff es clk).1 S.st
        have := entry_eq_of_key hk.2.2 m1 hem (by rw [m2, g2])
        subst this
        simp at m3
    · rcases hal with rfl | rfl <;> exact ⟨rfl, rfl, rfl, by simp [setBlock], fun i _ hi => hset.2 i (fun e1 => hi (by rw [e1]))⟩
    · rcases hal with rfl | rfl <;> simp [setBlock]
/-- A store at a key that is there, while the map is ranged over. -/
theorem ItAt.store {w : World} {b r : Nat} {E : Ents} {L : List VK} (h : ItAt w b r E L) {q : VK} {y : Int} (hq : lkE E q = some y) (x : Int) {mt : TypeId} (hT : MT mt) :
    ∃ w', (Instr.mapUpdate mt (.map (some b)) q.val (.int .i64 x)).run Try.prog w = .ok () w' ∧ ItAt w' b r (put E q x) L ∧ w.mapTurned w' b := by
  obtain ⟨vt, hu, zv⟩ := hT
  have hne := h.ne
  have hok : q.Ok := h.map.ok _ ((look_mem h.map.uniq).1 hq)
  obtain ⟨es, clk, since, seen, c0, hb, S, hr, hold, hsc, hsk, hL, hN⟩ := h
  obtain ⟨l, hl⟩ := hok.key
  rcases S.find w hok with ⟨h1, h2, h3⟩ | ⟨j, e, y', h1, h2, h3, h4, h5⟩
  · rw [look_none.2 h2] at hq; cases hq
  · have hj : es[j]? = some e := by simpa using h2
    have hs : (es.modify j fun e => { e with key := q.val, val := .int .i64 x }).toList = es.toList.set j ⟨q.val, .int .i64 x, e.born⟩ := by rw [Array.toList_modify, Go.ChangeMaps.modify_eq_set _ _ _ _ h2]
    have hm : ∀ {β : Type} (f : Value × Nat → β), (es.modify j fun e => { e with key := q.val, val := .int .i64 x }).toList.map (fun z => f (z.key, z.born)) = es.toList.map fun z => f (z.key, z.born) := fun f => by
      rw [hs, List.map_set]
      apply List.ext_getElem?
      intro i
      rw [List.getElem?_set]
      split
      · rename_i e1; subst e1; rw [if_pos (by simpa using (List.getElem?_eq_some_iff.1 h2).1), List.getElem?_map, h2]; simp [h3]
      · rfl
    have hkb := hm id
    have mem : ∀ (k : Value) (n : Nat), (∃ z ∈ (es.modify j fun e => { e with key := q.val, val := .int .i64 x }).toList, z.key = k ∧ z.born = n) ↔ ∃ z ∈ es.toList, z.key = k ∧ z.born = n := fun k n => by
      have h6 : ∀ (l : List MapEntry), (∃ z ∈ l, z.key = k ∧ z.born = n) ↔ (k, n) ∈ l.map fun z => id (z.key, z.born) := fun l => by simp [List.mem_map]
      rw [h6, h6, hkb]
    refine ⟨_, by simp [Instr.mapUpdate, run_underlying hu, MapKept.run_getObj_map hb, keyed28.check w false hl, h1, hj, h3, keyed28.stays w hl, MapKept.run_setObj_map _ hb, Result.andThen]; rfl,
      ⟨_, clk, since, seen, c0, setBlock_at hb _ _, S.turn h2 h3 h5 hs, ((heap_set hb).2 r hne).trans hr, fun z hz => ?_, hsc, hsk, fun q' => ?_, hN⟩, ⟨_, _, _, _, hb, rfl⟩⟩
    · obtain ⟨z', hz', _, e1⟩ := (mem z.key z.born).1 ⟨z, hz, rfl, rfl⟩
      rw [← e1]; exact hold z' hz'
    · rw [hL q']
      constructor
      · rintro ⟨z, hz, a1, a2⟩
        obtain ⟨z', hz', e1, e2⟩ := (mem z.key z.born).2 ⟨z, hz, rfl, rfl⟩
        exact ⟨z', hz', by rw [e1, a1], by rw [e2, a2]⟩
      · rintro ⟨z, hz, a1, a2⟩
        obtain ⟨z', hz', e1, e2⟩ := (mem z.key z.born).1 ⟨z, hz, rfl, rfl⟩
        exact ⟨z', hz', by rw [e1, a1], by rw [e2, a2]⟩
/-- A deletion of a key that has come, while the map is ranged over. -/
theorem ItAt.drop {w : World} {b r : Nat} {E : Ents} {L : List VK} (h : ItAt w b r E L) {q : VK} {y : Int} (hq : lkE E q = some y) (hn : q ∉ L) (ty : TypeId) {mt : TypeId} (hT : MT mt) :
    ∃ w', (Builtin.delete_ #[mt, 28] ty #[.map (some b), q.val]).run Try.prog w = .ok (.tuple #[]) w' ∧ ItAt w' b r (del E q) L ∧ w.mapTurned w' b := by
  obtain ⟨vt, hu, zv⟩ := hT
  have hne := h.ne
  have hok : q.Ok := h.map.ok _ ((look_mem h.map.uniq).1 hq)
  obtain ⟨es, clk, since, seen, c0, hb, S, hr, hold, hsc, hsk, hL, hN⟩ := h
  obtain ⟨l, hl⟩ := hok.key
  rcases S.find w hok with ⟨h1, h2, h3⟩ | ⟨j, e, y', h1, h2, h3, h4, h5⟩
  · rw [look_none.2 h2] at hq; cases hq
  · have hjl : j < es.toList.length := (List.getElem?_eq_some_iff.1 h2).1
    have hjs : j < es.size := by simpa using hjl
    have hsub : (es.eraseIdxIfInBounds j).toList = es.toList.eraseIdx j := by
      unfold Array.eraseIdxIfInBounds
      rw [dif_pos hjs]
      simp
    refine ⟨_, by simp [Builtin.delete_, run_underlying hu, MapKept.run_getObj_map hb, keyed28.check w _ hl, h1, MapKept.run_setObj_map _ hb, Result.andThen]; rfl,
      ⟨_, clk, since, seen, c0, setBlock_at hb _ _, S.drop h5 rfl hsub, ((heap_set hb).2 r hne).trans hr, fun z hz => hold z ?_, hsc, hsk, fun q' => ?_, hN⟩, ⟨_, _, _, _, hb, rfl⟩⟩
    · rw [hsub] at hz; exact (List.eraseIdx_sublist _ _).subset hz
    · rw [hL q']
      constructor
      · rintro ⟨z, hz, a1, a2⟩
        refine ⟨z, ?_, a1, a2⟩
        rw [hsub, List.mem_eraseIdx_iff_getElem?]
        obtain ⟨i, hi⟩ := List.getElem?_of_mem hz
        refine ⟨i, fun e1 => hn ?_, hi⟩
        subst e1
        rw [h2] at hi; cases hi
        rw [hL q]; exact ⟨e, List.mem_of_getElem? h2, h3, a2⟩
      · rintro ⟨z, hz, a1, a2⟩
        rw [hsub] at hz
        exact ⟨z, (List.eraseIdx_sublist _ _).subset hz, a1, a2⟩
