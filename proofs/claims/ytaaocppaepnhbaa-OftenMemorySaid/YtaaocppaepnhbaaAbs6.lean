/- Structs and lists that are built out of parts; all operations that only read, under one name: 'vop'. Own work; no condition. -/
import Derived.Test.YtaaocppaepnhbaaAbs5
namespace Go.Proofs.Ytaaocppaepnhbaa
open Go Go.RowKit

def splice {α : Type} (cs : List α) (off : Nat) (l : List α) : List α := cs.take off ++ l ++ cs.drop (off + l.length)

theorem splice_length {α : Type} (cs : List α) (off : Nat) (l : List α) (h : off + l.length ≤ cs.length) : (splice cs off l).length = cs.length := by
  simp [splice]; omega

theorem splice_get {α : Type} (cs : List α) (off : Nat) (l : List α) (h : off + l.length ≤ cs.length) (j : Nat) :
    (splice cs off l)[j]? = if off ≤ j ∧ j < off + l.length then l[j - off]? else cs[j]? := by
  unfold splice
  rw [List.append_assoc]
  by_cases h1 : j < off
  · rw [List.getElem?_append_left (by simp; omega), List.getElem?_take, if_pos h1, if_neg (by omega)]
  · rw [List.getElem?_append_right (by simp; omega)]
    simp only [List.length_take]
    rw [show min off cs.length = off by omega]
    by_cases h2 : j < off + l.length
    · rw [List.getElem?_append_left (by omega), if_pos ⟨by omega, h2⟩]
    · rw [List.getElem?_append_right (by omega), List.getElem?_drop, if_neg (by omega)]
      congr 1; omega

theorem fold_set (off : Nat) : ∀ (vs : List Value) (k : Nat) (cs : Array Value), off + k + vs.length ≤ cs.size →
    ((vs.zipIdx k).foldl (fun (cs : Array Value) (x : Value × Nat) => cs.setIfInBounds (off + x.2) x.1) cs).toList = splice cs.toList (off + k) vs := by
  intro vs
  induction vs with
  | nil => intro k cs h; simp [splice]
  | cons v vs ih =>
    intro k cs h
    simp only [List.length_cons] at h
    simp only [List.zipIdx_cons, List.foldl_cons]
    rw [ih (k + 1) _ (by simp; omega)]
    apply List.ext_getElem?
    intro j
    rw [splice_get _ _ _ (by simp; omega), splice_get _ _ _ (by simp; omega)]
    simp only [Array.toList_setIfInBounds, List.length_cons]
    by_cases e : j = off + k
    · subst e
      rw [if_neg (by omega), if_pos (by omega), List.getElem?_set_self (by simp; omega)]
      simp
    · by_cases g : off + k + 1 ≤ j ∧ j < off + k + 1 + vs.length
      · rw [if_pos (by omega), if_pos (by omega), show j - (off + k) = (j - (off + (k + 1))) + 1 by omega, List.getElem?_cons_succ]
      · rw [if_neg (by omega), if_neg (by omega), List.getElem?_set_ne (by omega)]

theorem fill_step (place : Nat → Option (Nat × Nat)) (cells : Array Value) (i off size : Nat) (v : Value) (rest : List (Nat × Value)) (h : place i = some (off, size)) (hs : v.cells.size = size) (hb : off + size ≤ cells.size) :
    Instr.fill place cells ((i, v) :: rest) = Instr.fill place (splice cells.toList off v.cells.toList).toArray rest := by
  rw [Instr.fill, h]
  simp only [hs, ne_eq, not_true, decide_false, Bool.false_or, decide_eq_true_eq, gt_iff_lt]
  rw [if_neg (by omega)]
  congr 1
  have := fold_set off v.cells.toList 0 cells (by simp [hs]; omega)
  rw [← Array.foldl_toList, Array.toList_zipIdx]
  apply Array.ext'
  simpa using this

/-- Parts laid over cells. -/
def fillV (place : Nat → Option (Nat × Nat)) : List AV → List (Nat × AV) → Option (List AV)
  | cs, [] => some cs
  | cs, (i, x) :: r => match place i, x.cells with
    | some (o, s), some l => if l.length = s ∧ o + s ≤ cs.length then fillV place (splice cs o l) r else none
    | _, _ => none

theorem fillV_ok {G : Ghost} (place : Nat → Option (Nat × Nat)) : ∀ (ps : List (Nat × AV)) (vs : List (Nat × Value)) (cs r : List AV) (cells : Array Value), ps.length = vs.length →
    (∀ (j : Nat) p v, ps[j]? = some p → vs[j]? = some v → p.1 = v.1 ∧ RV G p.2 v.2) → cells.size = cs.length → (∀ (j : Nat) c v, cs[j]? = some c → cells[j]? = some v → RV G c v) → fillV place cs ps = some r →
    ∃ out, Instr.fill place cells vs = some out ∧ out.size = r.length ∧ ∀ (j : Nat) c v, r[j]? = some c → out[j]? = some v → RV G c v := by
  intro ps
  induction ps with
  | nil =>
    intro vs cs r cells hl _ h1 h2 h
    cases vs with
    | nil => simp only [fillV, Option.some.injEq] at h; subst h; exact ⟨cells, rfl, h1, h2⟩
    | cons => simp at hl
  | cons p ps ih =>
    intro vs cs r cells hl hp h1 h2 h
    cases vs with
    | nil => simp at hl
    | cons v vs =>
      obtain ⟨i, x⟩ := p
      obtain ⟨i', u⟩ := v
      obtain ⟨e, rx⟩ := hp 0 _ _ rfl rfl
      simp only at e rx; subst e
      simp only [fillV] at h
      split at h <;> try (cases h; done)
      rename_i o s l hpl hcl
      split at h <;> try (cases h; done)
      rename_i hc
      obtain ⟨c1, c2, _⟩ := cells_ok rx hcl
      rw [fill_step place cells i o s u vs hpl (by omega) (by omega)]
      refine ih vs _ r _ (by simpa using hl) (fun j p v hj hv => hp (j + 1) p v (by simpa using hj) (by simpa using hv)) ?_ ?_ h
      · simp only [List.size_toArray]
        rw [splice_length _ _ _ (by simp; omega), splice_length _ _ _ (by omega)]; simpa using h1
      · intro j c v hj hv
        rw [splice_get _ _ _ (by omega)] at hj
        simp only [List.getElem?_toArray] at hv
        rw [splice_get _ _ _ (by simp; omega)] at hv
        simp only [Array.length_toList] at hv
        by_cases g : o ≤ j ∧ j < o + l.length
        · rw [if_pos g] at hj; rw [if_pos (by omega)] at hv
          exact c2 _ c v hj (by simpa using hv)
        · rw [if_neg g] at hj; rw [if_neg (by omega)] at hv
          exact h2 j c v hj (by simpa using hv)

theorem run_places {P : Program} (w : World) : ∀ (fs : List Field), (∀ f, f ∈ fs → P.cellsOf f.type ≠ 0) →
    (fs.mapM (m := Sem) fun f => do pure (f.offset, ← sizeOf f.type)).run P w = .ok (fs.map fun f => (f.offset, P.cellsOf f.type)) w := by
  intro fs
  induction fs with
  | nil => intro _; simp
  | cons f fs ih =>
    intro h
    have h1 := run_sizeOf' (P := P) (h f (by simp)) w
    have h2 := ih (fun g hg => h g (by simp [hg]))
    simp only [List.mapM_cons, Sem.run_bind, h1, Result.andThen_ok, Sem.run_pure, h2, List.map_cons]

def buildV (ti : TI) (ps : List (Nat × AV)) : Option AV :=
  match ti.kind with
  | .fields l => if l.all (fun x => x.2.1 != 0) then (fillV (fun i => (l[i]?).map fun x => (x.1, x.2.1)) ti.zero ps).map .agg else none
  | .array _ es _ => if es ≠ 0 then (fillV (fun i => some (i * es, es)) ti.zero ps).map .agg else none
  | _ => none

theorem buildV_ok {P : Program} {t : TypeId} {ti : TI} (k : tinfo P t = some ti) {G : Ghost} (w : World) {ps : List (Nat × AV)} {vs : Array (Nat × Value)} {x : AV} (hl : ps.length = vs.size)
    (hp : ∀ (j : Nat) p v, ps[j]? = some p → vs[j]? = some v → p.1 = v.1 ∧ RV G p.2 v.2) (h : buildV ti ps = some x) : ∃ v, (Instr.build t vs).run P w = .ok v w ∧ RV G x v := by
  obtain ⟨i, d, z, k⟩ := tinfo_ok k
  unfold buildV at h
  split at h <;> try (cases h; done)
  rotate_left 1
  · rename_i n es ag hk
    split at h <;> try (cases h; done)
    rename_i hne
    rw [Option.map_eq_some_iff] at h
    obtain ⟨r, hr, rfl⟩ := h
    have hd := k.kind
    rw [hk] at hd
    cases d <;> simp only [tkind, reduceCtorEq, TK.array.injEq] at hd
    obtain ⟨rfl, rfl, _⟩ := hd
    have hz := k.zero_rv (G := G)
    obtain ⟨out, ho, hs, hv⟩ := fillV_ok _ ps vs.toList ti.zero r z.cells (by simpa using hl) (fun j p v h1 h2 => hp j p v h1 (by simpa using h2)) hz.1 hz.2 hr
    refine ⟨.agg out, ?_, .agg hs hv⟩
    simp only [Instr.build, Sem.run_bind, k.run_zero w, Result.andThen_ok, k.run_und w, run_sizeOf' hne, ho, Sem.run_pure]
  rename_i l hk
  split at h <;> try (cases h; done)
  rename_i hall
  rw [Option.map_eq_some_iff] at h
  obtain ⟨r, hr, rfl⟩ := h
  have hd := k.kind
  rw [hk] at hd
  cases d <;> simp only [tkind, reduceCtorEq, TK.fields.injEq] at hd
  rename_i fs
  subst hd
  have hne : ∀ f, f ∈ fs.toList → P.cellsOf f.type ≠ 0 := by
    intro f hf
    have := List.all_eq_true.1 hall (f.offset, P.cellsOf f.type, isAggB P f.type) (List.mem_map.2 ⟨f, hf, rfl⟩)
    simpa using this
  have hpl := run_places w fs.toList hne
  have hz := k.zero_rv (G := G)
  have hplace : (fun (i : Nat) => Option.map (fun (x : Nat × Nat × Bool) => (x.1, x.2.1)) ((fs.toList.map fun f => (f.offset, P.cellsOf f.type, isAggB P f.type))[i]?)) = fun (i : Nat) => ((fs.toList.map fun f => (f.offset, P.cellsOf f.type)).toArray)[i]? := by
    funext i
    simp only [List.getElem?_map, Option.map_map, List.getElem?_toArray]
    rfl
  rw [hplace] at hr
  obtain ⟨out, ho, hs, hv⟩ := fillV_ok _ ps vs.toList ti.zero r z.cells (by simpa using hl) (fun j p v h1 h2 => hp j p v h1 (by simpa using h2)) hz.1 hz.2 hr
  refine ⟨.agg out, ?_, .agg hs hv⟩
  have hm : (fs.mapM (m := Sem) fun f => do pure (f.offset, ← sizeOf f.type)).run P w = .ok (fs.toList.map fun f => (f.offset, P.cellsOf f.type)).toArray w := by
    rw [Array.mapM_eq_mapM_toList]
    simp only [Sem.run_map, hpl, Result.andThen_ok]
  simp only [Instr.build, Sem.run_bind, k.run_zero w, Result.andThen_ok, k.run_und w, hm, ho, Sem.run_pure]

end Go.Proofs.Ytaaocppaepnhbaa
