/- sketch.Often: what is done to a map of values. Own work; no condition. -/
import Derived.Test.YtaaocppaepnhbaaOf1
namespace Go.Proofs.Ytaaocppaepnhbaa
open Go Go.RowKit Go.MapKept
open Go.Maps (Keyed)
open Go.ChangeMaps (setBlock)
set_option linter.unusedVariables false
set_option linter.unusedSimpArgs false

def kv (p : VK × Int) : Value × Value := (p.1.val, .int .i64 p.2)
/-- The entries of a map, as they stand, are E. -/
structure Stand (es : Array MapEntry) (clk : Nat) (E : Ents) : Prop where
  st : Stamped es clk
  eq : es.toList.map (fun e => (e.key, e.val)) = E.map kv
  ok : ∀ p ∈ E, p.1.Ok
def MapAt (w : World) (b : Nat) (E : Ents) : Prop := ∃ es clk, w.heap[b]? = some (.map es clk) ∧ Stand es clk E

theorem Stand.len {es : Array MapEntry} {clk : Nat} {E : Ents} (h : Stand es clk E) : es.toList.length = E.length := by
  have := congrArg List.length h.eq; simpa using this
theorem Stand.at_ {es : Array MapEntry} {clk : Nat} {E : Ents} (h : Stand es clk E) {j : Nat} {e : MapEntry} (he : es.toList[j]? = some e) : ∃ q x, E[j]? = some (q, x) ∧ e.key = q.val ∧ e.val = .int .i64 x ∧ q.Ok := by
  have h1 := congrArg (·[j]?) h.eq
  simp only [List.getElem?_map, he, Option.map_some] at h1
  cases hE : E[j]? with
  | none => rw [hE] at h1; simp at h1
  | some p =>
    rw [hE] at h1
    simp only [Option.map_some, kv, Option.some.injEq, Prod.mk.injEq] at h1
    exact ⟨p.1, p.2, rfl, h1.1, h1.2, h.ok p (List.mem_of_getElem? hE)⟩
theorem Stand.of_at {es : Array MapEntry} {clk : Nat} {E : Ents} (h : Stand es clk E) {j : Nat} {q : VK} {x : Int} (hE : E[j]? = some (q, x)) : ∃ e, es.toList[j]? = some e ∧ e.key = q.val ∧ e.val = .int .i64 x := by
  have h1 := congrArg (·[j]?) h.eq
  simp only [List.getElem?_map, hE, Option.map_some] at h1
  cases he : es.toList[j]? with
  | none => rw [he] at h1; simp at h1
  | some e =>
    rw [he] at h1
    simp only [Option.map_some, kv, Option.some.injEq, Prod.mk.injEq] at h1
    exact ⟨e, rfl, h1.1, h1.2⟩
theorem Stand.keys {es : Array MapEntry} {clk : Nat} {E : Ents} (h : Stand es clk E) : ∀ e ∈ es.toList, ∃ l, keyOf Try.prog 28 e.key = some l := by
  intro e he
  obtain ⟨j, hj⟩ := List.getElem?_of_mem he
  obtain ⟨q, x, _, h2, _, h4⟩ := h.at_ hj
  rw [h2]; exact h4.key
theorem Stand.uniq {es : Array MapEntry} {clk : Nat} {E : Ents} (h : Stand es clk E) : Uniq E := by
  have h2 := h.st.2.2
  have e : es.toList.map (·.key) = E.map fun p => p.1.val := by
    have := congrArg (List.map Prod.fst) h.eq
    simp only [List.map_map] at this
    exact this
  rw [e, List.nodup_iff_pairwise_ne, List.pairwise_map] at h2
  exact h2.imp fun hne e => hne (by rw [e])
theorem Stand.find {es : Array MapEntry} {clk : Nat} {E : Ents} (h : Stand es clk E) (w : World) {q : VK} (hq : q.Ok) :
    ((Instr.findKey 28 q.val es.toList).run Try.prog w = .ok none w ∧ (∀ p ∈ E, p.1 ≠ q) ∧ ∀ e ∈ es.toList, e.key ≠ q.val) ∨
    ∃ j e x, (Instr.findKey 28 q.val es.toList).run Try.prog w = .ok (some (j, .int .i64 x)) w ∧ es.toList[j]? = some e ∧ e.key = q.val ∧ e.val = .int .i64 x ∧ E[j]? = some (q, x) := by
  obtain ⟨l, hl⟩ := hq.key
  rcases keyed28.find w hl es.toList h.keys with ⟨h1, h2⟩ | ⟨j, e, h1, h2, h3⟩
  · refine .inl ⟨h1, fun p hp e => ?_, h2⟩
    obtain ⟨j, hj⟩ := List.getElem?_of_mem hp
    obtain ⟨e', he, hk, _⟩ := h.of_at (q := p.1) (x := p.2) hj
    exact h2 e' (List.mem_of_getElem? he) (by rw [hk, e])
  · obtain ⟨q', x, g1, g2, g3, _⟩ := h.at_ h2
    have : q' = q := VK.inj (by rw [← g2, h3])
    subst this
    exact .inr ⟨j, e, x, by rw [h1, g3], h2, g2, g3, g1⟩

/-- A type of maps from values to numbers. -/
def MT (mt : TypeId) : Prop := ∃ vt, Try.prog.underlying mt = some (.map 28 vt) ∧ ∀ w, (zeroValue vt).run Try.prog w = .ok (.int .i64 0) w
theorem zero2 (w : World) : (zeroValue 2).run Try.prog w = .ok (.int .i64 0) w := by kernel_rfl
theorem zero3 (w : World) : (zeroValue 3).run Try.prog w = .ok (.int .i64 0) w := by kernel_rfl
theorem mt44 : MT 44 := ⟨2, und44, zero2⟩
theorem und58 : Try.prog.underlying 58 = some (.map 28 3) := by kernel_rfl
theorem mt58 : MT 58 := ⟨3, und58, zero3⟩

/-- A lkE-up. -/
theorem MapAt.lookup {w : World} {b : Nat} {E : Ents} (h : MapAt w b E) {q : VK} (hq : q.Ok) {mt : TypeId} (hT : MT mt) : (Instr.lookup mt (.map (some b)) q.val false).run Try.prog w = .ok (.int .i64 ((lkE E q).getD 0)) w := by
  obtain ⟨vt, hu, zv⟩ := hT
  obtain ⟨es, clk, hb, S⟩ := h
  obtain ⟨l, hl⟩ := hq.key
  rcases S.find w hq with ⟨h1, h2, _⟩ | ⟨j, e, x, h1, _, _, _, h3⟩
  · rw [look_none.2 h2]
    simp [Instr.lookup, run_underlying hu, Go.MapKept.run_getObj_map hb, keyed28.check w _ hl, h1, Result.andThen, zv]
  · rw [look_at S.uniq h3]
    simp [Instr.lookup, run_underlying hu, Go.MapKept.run_getObj_map hb, keyed28.check w _ hl, h1, Result.andThen]
theorem MapAt.len {w : World} {b : Nat} {E : Ents} (h : MapAt w b E) (ty : TypeId) {mt : TypeId} (hT : MT mt) : (Builtin.len_ #[mt] ty #[.map (some b)]).run Try.prog w = .ok (.int .i64 E.length) w := by
  obtain ⟨vt, hu, zv⟩ := hT
  obtain ⟨es, clk, hb, S⟩ := h
  have := S.len
  simp only [Array.length_toList] at this
  simp [Builtin.len_, run_underlying hu, Go.MapKept.run_getObj_map hb, goInt, Result.andThen, this]

theorem Stand.push {es : Array MapEntry} {clk : Nat} {E : Ents} (h : Stand es clk E) {q : VK} (hq : q.Ok) {x : Int} (hn : ∀ e ∈ es.toList, e.key ≠ q.val) (hn' : ∀ p ∈ E, p.1 ≠ q) : Stand (es.push ⟨q.val, .int .i64 x, clk⟩) (clk + 1) (put E q x) :=
  ⟨stamped_push h.st hn, by rw [put_new hn']; simp [h.eq, kv], fun p hp => by
    rw [put_new hn'] at hp
    rcases List.mem_append.1 hp with hp | hp
    · exact h.ok p hp
    · simp at hp; subst hp; exact hq⟩
theorem Stand.turn {es es' : Array MapEntry} {clk : Nat} {E : Ents} (h : Stand es clk E) {q : VK} {x y : Int} {j : Nat} {e : MapEntry} (he : es.toList[j]? = some e) (hk : e.key = q.val) (hE : E[j]? = some (q, y)) (hs : es'.toList = es.toList.set j ⟨q.val, .int .i64 x, e.born⟩) : Stand es' clk (put E q x) := by
  have hj : j < es.toList.length := (List.getElem?_eq_some_iff.1 he).1
  have hb : ∀ {β : Type} (f : MapEntry → β), f ⟨q.val, .int .i64 x, e.born⟩ = f e → es'.toList.map f = es.toList.map f := fun f hf => by
    rw [hs, List.map_set, hf]
    apply List.ext_getElem?
    intro i
    rw [List.getElem?_set]
    split
    · rename_i e1; subst e1; rw [if_pos (by simpa using hj), List.getElem?_map, he]; rfl
    · rfl
  refine ⟨⟨fun z hz => ?_, by rw [hb (·.born) rfl]; exact h.st.2.1, by rw [hb (·.key) hk.symm]; exact h.st.2.2⟩, ?_, fun p hp => ?_⟩
  · have : z.born ∈ es'.toList.map (·.born) := List.mem_map.2 ⟨z, hz, rfl⟩
    rw [hb (·.born) rfl] at this
    obtain ⟨z', hz', e1⟩ := List.mem_map.1 this
    rw [← e1]; exact h.st.1 z' hz'
  · rw [put_old h.uniq hE, hs, List.map_set, List.map_set, h.eq]; rfl
  · rw [put_old h.uniq hE] at hp
    rcases List.mem_or_eq_of_mem_set hp with hp | hp
    · exact h.ok p hp
    · subst hp; exact h.ok (q, y) (List.mem_of_getElem? hE)

theorem setBlock_at {w : World} {b : Nat} {es : Array MapEntry} {clk : Nat} (hb : w.heap[b]? = some (.map es clk)) (es' : Array MapEntry) (clk' : Nat) : (setBlock w b (.map es' clk')).heap[b]? = some (.map es' clk') := (heap_set hb).1
/-- A store. -/
theorem MapAt.store {w : World} {b : Nat} {E : Ents} (h : MapAt w b E) {q : VK} (hq : q.Ok) (x : Int) {mt : TypeId} (hT : MT mt) :
    ∃ w', (Instr.mapUpdate mt (.map (some b)) q.val (.int .i64 x)).run Try.prog w = .ok () w' ∧ MapAt w' b (put E q x) ∧ w.mapTurned w' b := by
  obtain ⟨vt, hu, zv⟩ := hT
  obtain ⟨es, clk, hb, S⟩ := h
  obtain ⟨l, hl⟩ := hq.key
  rcases S.find w hq with ⟨h1, h2, h3⟩ | ⟨j, e, y, h1, h2, h3, h4, h5⟩
  · exact ⟨_, by simp [Instr.mapUpdate, run_underlying hu, MapKept.run_getObj_map hb, keyed28.check w false hl, h1, MapKept.run_setObj_map _ hb, Result.andThen]; rfl, ⟨_, _, setBlock_at hb _ _, S.push hq h3 h2⟩, ⟨_, _, _, _, hb, rfl⟩⟩
  · have hj : es[j]? = some e := by simpa using h2
    exact ⟨_, by simp [Instr.mapUpdate, run_underlying hu, MapKept.run_getObj_map hb, keyed28.check w false hl, h1, hj, h3, keyed28.stays w hl, MapKept.run_setObj_map _ hb, Result.andThen]; rfl,
      ⟨_, _, setBlock_at hb _ _, S.turn h2 h3 h5 (by rw [Array.toList_modify, Go.ChangeMaps.modify_eq_set _ _ _ _ h2])⟩, ⟨_, _, _, _, hb, rfl⟩⟩

/-- The entry of that stamp is q's. -/
def StampAt (w : World) (b st : Nat) (q : VK) : Prop := ∃ es clk, w.heap[b]? = some (.map es clk) ∧ ∃ e ∈ es.toList, e.born = st ∧ e.key = q.val
/-- 'm[k] += x': the entry, then the store. -/
theorem MapAt.entry {w : World} {b : Nat} {E : Ents} (h : MapAt w b E) {q : VK} (hq : q.Ok) {mt : TypeId} (hT : MT mt) :
    ∃ (st : Nat) (w' : World), (Instr.mapEntry mt (.map (some b)) q.val).run Try.prog w = .ok (.tuple #[.int .i64 ((lkE E q).getD 0), goInt st]) w' ∧ MapAt w' b (put E q ((lkE E q).getD 0)) ∧ StampAt w' b st q ∧ w.mapTurned w' b := by
  obtain ⟨vt, hu, zv⟩ := hT
  obtain ⟨es, clk, hb, S⟩ := h
  obtain ⟨l, hl⟩ := hq.key
  rcases S.find w hq with ⟨h1, h2, h3⟩ | ⟨j, e, y, h1, h2, h3, h4, h5⟩
  · rw [look_none.2 h2]
    exact ⟨clk, _, by simp [Instr.mapEntry, run_underlying hu, MapKept.run_getObj_map hb, keyed28.check w false hl, h1, MapKept.run_setObj_map _ hb, Result.andThen, zv]; rfl,
      ⟨_, _, setBlock_at hb _ _, S.push hq h3 h2⟩, ⟨_, _, setBlock_at hb _ _, ⟨q.val, .int .i64 0, clk⟩, by simp, rfl, rfl⟩, ⟨_, _, _, _, hb, rfl⟩⟩
  · rw [look_at S.uniq h5]
    have hj : es[j]? = some e := by simpa using h2
    have hs : (es.modify j fun e => { e with key := q.val }).toList = es.toList.set j ⟨q.val, .int .i64 y, e.born⟩ := by
      rw [Array.toList_modify, Go.ChangeMaps.modify_eq_set _ _ _ _ h2, ← h4]
    exact ⟨e.born, _, by simp [Instr.mapEntry, run_underlying hu, MapKept.run_getObj_map hb, keyed28.check w false hl, h1, hj, h3, keyed28.stays w hl, MapKept.run_setObj_map _ hb, Result.andThen]; rfl,
      ⟨_, _, setBlock_at hb _ _, S.turn h2 h3 h5 hs⟩,
      ⟨_, _, setBlock_at hb _ _, ⟨q.val, .int .i64 y, e.born⟩, by rw [hs]; exact List.mem_of_getElem? (i := j) (by rw [List.getElem?_set]; rw [if_pos rfl, if_pos (List.getElem?_eq_some_iff.1 h2).1]), rfl, rfl⟩, ⟨_, _, _, _, hb, rfl⟩⟩
theorem MapAt.stamped {w : World} {b st : Nat} {E : Ents} (h : MapAt w b E) {q : VK} (hs : StampAt w b st q) (x : Int) {mt : TypeId} :
    ∃ w', (Instr.entryStore mt (.map (some b)) (goInt st) (.int .i64 x)).run Try.prog w = .ok () w' ∧ MapAt w' b (put E q x) ∧ w.mapTurned w' b := by
  obtain ⟨es, clk, hb, S⟩ := h
  obtain ⟨es', clk', hb', e, he, h1, h2⟩ := hs
  rw [hb] at hb'; simp only [Option.some.injEq, Obj.map.injEq] at hb'; obtain ⟨rfl, rfl⟩ := hb'
  obtain ⟨j, hj⟩ := List.getElem?_of_mem he
  obtain ⟨q', y, g1, g2, g3, g4⟩ := S.at_ hj
  have hqq : q' = q := VK.inj (by rw [← g2, h2])
  subst hqq
  subst h1
  have hidx : es.findIdx? (fun z => ((z.born : Nat) : Int) == ((e.born : Nat) : Int)) = some j := by
    rw [Go.WideElems.findIdx_arr]
    exact Go.WideElems.findIdx_born S.st.2.1 hj
  refine ⟨_, by simp [Instr.entryStore, MapKept.run_getObj_map hb, asInt, asIntOf, goInt, hidx, MapKept.run_setObj_map _ hb, Result.andThen]; rfl, ⟨_, _, setBlock_at hb _ _, S.turn hj g2 g1 ?_⟩, ⟨_, _, _, _, hb, rfl⟩⟩
  rw [Array.toList_modify, Go.ChangeMaps.modify_eq_set _ _ _ _ hj, ← g2]
theorem put_put {q : VK} {x y : Int} : ∀ {E : Ents}, put (put E q x) q y = put E q y
  | [] => by simp [put]
  | p :: r => by
    rw [put]
    split
    · rename_i e; rw [put, if_pos rfl, put, if_pos e]
    · rename_i e; rw [put, if_neg e, put_put, put, if_neg e]
theorem look_put {q : VK} {x : Int} : ∀ {E : Ents} {r : VK}, lkE (put E q x) r = if r = q then some x else lkE E r
  | [], r => by simp [put, lkE, eq_comm]
  | p :: t, r => by
    rw [put]
    split
    · rename_i e; rw [lkE, lkE]; split <;> simp_all [eq_comm]
    · rename_i e
      rw [lkE, lkE, look_put]
      split
      · rename_i e2; subst e2; simp [e]
      · rfl
