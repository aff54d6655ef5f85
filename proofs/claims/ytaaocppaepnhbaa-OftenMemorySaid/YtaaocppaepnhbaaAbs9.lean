/- append on the relation: a list that the function owns, or that is full, with elements behind it. Own work; no condition. -/
import Derived.Test.YtaaocppaepnhbaaAbs8
namespace Go.Proofs.Ytaaocppaepnhbaa
open Go Go.RowKit

/-- The heap with one object turned or one more. -/
structure Upd (H H' : List AObj) (id : Nat) (x : AObj) : Prop where
  at_ : H'[id]? = some x
  other : ∀ j, j ≠ id → H'[j]? = H[j]?
  dom : ∀ j, H'.length ≤ j → H.length ≤ j ∧ j ≠ id

theorem Upd.set {H : List AObj} {id : Nat} {y : AObj} (h : H[id]? = some y) (x : AObj) : Upd H (H.set id x) id x := by
  have hlt := (List.getElem?_eq_some_iff.1 h).1
  exact ⟨List.getElem?_set_self hlt, fun j hj => getElem?_set_ne' (fun e => hj e.symm), fun j hj => by simp at hj; omega⟩

theorem Upd.push (H : List AObj) (x : AObj) : Upd H (H ++ [x]) H.length x := by
  refine ⟨by simp, fun j hj => ?_, fun j hj => by simp at hj; omega⟩
  rcases Nat.lt_or_ge j H.length with g | g
  · rw [List.getElem?_append_left g]
  · rw [List.getElem?_append_right g, List.getElem?_eq_none (by simp; omega), List.getElem?_eq_none g]

def Ghost.tok (G : Ghost) (id c : Nat) (u : Value) (own : Option Nat) (mem : Mem) : Ghost :=
  { mem := mem, obj := fun i => if i = id then some (.tok c u own) else G.obj i }

theorem Ghost.tok_obj (G : Ghost) (id c : Nat) (u : Value) (own : Option Nat) (mem : Mem) : (G.tok id c u own mem).obj id = some (.tok c u own) := by simp [Ghost.tok]

def Older (G : Ghost) (id c : Nat) (u : Value) : Prop := G.obj id = none ∨ ∃ c' u' o', G.obj id = some (.tok c' u' o') ∧ c' ≤ c ∧ (c' = c → u' = u)

theorem Older.ext {G : Ghost} {id c : Nat} {u : Value} (h : Older G id c u) (own : Option Nat) {mem : Mem} (hm : ∀ b o v, G.mem b o = some v → mem b o = some v) : GExt G (G.tok id c u own mem) := by
  refine ⟨hm, fun j b hb => ?_, fun j c1 u1 o1 hj => ?_, fun j c1 u1 o1 k1 v1 s1 hj => ?_⟩
  · simp only [Ghost.tok]
    by_cases e : j = id
    · subst e
      rcases h with h | ⟨c', u', o', h, _⟩ <;> rw [h] at hb <;> cases hb
    · rw [if_neg e]; exact hb
  · simp only [Ghost.tok]
    by_cases e : j = id
    · subst e
      rcases h with h | ⟨c', u', o', h, h1, h2⟩
      · rw [h] at hj; cases hj
      · rw [h] at hj; simp only [Option.some.injEq, GO.tok.injEq] at hj
        obtain ⟨rfl, rfl, rfl⟩ := hj
        exact ⟨c, u, own, by simp, h1, fun e => (h2 e.symm).symm⟩
    · exact ⟨c1, u1, o1, by rw [if_neg e]; exact hj, Nat.le_refl _, fun _ => rfl⟩
  · simp only [Ghost.tok]
    by_cases e : j = id
    · subst e
      rcases h with h | ⟨c', u', o', h, _⟩ <;> rw [h] at hj <;> cases hj
    · exact ⟨c1, u1, o1, k1, v1, s1, by rw [if_neg e]; exact hj, Nat.le_refl _, fun _ => rfl, Nat.le_refl _, fun _ => rfl⟩

theorem WR.upd {B : Base} {G G' : Ghost} {H H' : List AObj} {w w' : World} {id c : Nat} {u : Value} {own : Option Nat} {x : AObj} (h : WR B G H w) (hup : Upd H H' id x) (ext : GExt G G') (hG : G'.obj = fun i => if i = id then some (.tok c u own) else G.obj i)
    (hbelow : Below B.w.heap.size B.w w') (hmem : ∀ b o v, G'.mem b o = some v → w'.cell? ⟨b, o, none⟩ = some v) (hnews : ∀ b o v, G'.mem b o = some v → B.m b o = some v ∨ B.w.heap.size ≤ b)
    (hx : ObjR G' w' id x) (hblk : ∀ i g b, i ≠ id → G.obj i = some g → g.has b → w'.heap[b]? = w.heap[b]? ∧ (∀ o, G'.mem b o = G.mem b o) ∧ own ≠ some b)
    (hsz : w.heap.size ≤ w'.heap.size) (hown : ∀ b, own = some b → B.w.heap.size ≤ b ∧ b < w'.heap.size) (hkeep : ∀ b y, B.pr b = some y → w'.heap[b]? = w.heap[b]? ∧ ∀ o, G'.mem b o = G.mem b o) (hap : ∀ b, own = some b → B.pr b = none) : WR B G' H' w' := by
  refine ⟨hbelow, hmem, hnews, fun b o v hv => ext.mem _ _ _ (h.olds b o v hv), fun j y hy => ?_, fun i j a b k hi hj ha hb => ?_, fun i a b hi ha => ?_, fun j hj => ?_, fun b y f hb => ?_, fun i a b hi ha => ?_⟩
  · by_cases e : j = id
    · subst e; rw [hup.at_] at hy; simp only [Option.some.injEq] at hy; subst hy; exact hx
    · rw [hup.other j e] at hy
      refine (h.objs j y hy).keep ext (by rw [hG]; simp [e]) (fun g b hg hb => (hblk j g b e hg hb).1) (fun g b o hg hb => (hblk j g b e hg hb).2.1 o)
  · rw [hG] at hi hj
    simp only at hi hj
    split at hi <;> split at hj
    · omega
    · rename_i e1 e2
      simp only [Option.some.injEq] at hi; subst hi
      exact absurd ha (hblk j b k e2 hj hb).2.2
    · rename_i e1 e2
      simp only [Option.some.injEq] at hj; subst hj
      exact absurd hb (hblk i a k e1 hi ha).2.2
    · exact h.sep i j a b k hi hj ha hb
  · rw [hG] at hi
    simp only at hi
    split at hi
    · simp only [Option.some.injEq] at hi; subst hi
      exact hown b ha
    · have := h.fresh i a b hi ha
      exact ⟨this.1, by omega⟩
  · obtain ⟨h1, h2⟩ := hup.dom j hj
    rw [hG]; simp only [h2, if_false]; exact h.dom j h1
  · obtain ⟨h1, h2⟩ := h.keep b y f hb
    obtain ⟨k1, k2⟩ := hkeep b _ hb
    exact ⟨by rw [k1]; exact h1, by rw [← h2]; funext o; exact k2 o⟩
  · rw [hG] at hi
    simp only at hi
    split at hi
    · simp only [Option.some.injEq] at hi; subst hi
      exact hap b ha
    · exact h.apart i a b hi ha

/-- The way on which nothing is appended and nothing is written. -/
theorem WR.tokSame {B : Base} {G : Ghost} {H H' : List AObj} {w : World} (h : WR B G H w) {id n size : Nat} {a : Option Addr} (hup : Upd H H' id (.spare n size)) (hold : Older G id n (.slice a n n)) :
    WR B (G.tok id n (.slice a n n) none G.mem) H' w ∧ GExt G (G.tok id n (.slice a n n) none G.mem) := by
  have ext := hold.ext none (mem := G.mem) (fun _ _ _ h => h)
  exact ⟨h.upd hup ext rfl h.below h.mem h.news ⟨_, none, by simp [Ghost.tok], .inl ⟨rfl, a, rfl⟩⟩ (fun i g b hi hg hb => ⟨rfl, fun _ => rfl, by simp⟩) (Nat.le_refl _) (fun b hb => by cases hb) (fun _ _ _ => ⟨rfl, fun _ => rfl⟩) (fun b hb => by cases hb), ext⟩

/-- The way on which a new row is made. -/
theorem WR.tokGrow {B : Base} {G : Ghost} {H H' : List AObj} {w : World} (h : WR B G H w) {id n size cap : Nat} (hup : Upd H H' id (.spare n size)) {arr : Array Value} (e : TypeId) (hold : Older G id n (.slice (some ⟨w.heap.size, 0, none⟩) n cap))
    (hcap : n ≤ cap) (hmax : cap ≤ maxLen) (hsz : arr.size = cap * size) :
    let mem : Mem := fun b o => if b = w.heap.size then (if o < n * size then arr[o]? else none) else G.mem b o
    WR B (G.tok id n (.slice (some ⟨w.heap.size, 0, none⟩) n cap) (some w.heap.size) mem) H' (w.alloc (.cells arr e)) ∧ GExt G (G.tok id n (.slice (some ⟨w.heap.size, 0, none⟩) n cap) (some w.heap.size) mem) := by
  intro mem
  have hlt : ∀ b o v, G.mem b o = some v → b < w.heap.size := fun b o v hv => cell?_lt (h.mem b o v hv)
  have hm : ∀ b o v, G.mem b o = some v → mem b o = some v := by
    intro b o v hv
    have := hlt b o v hv
    simp only [mem]; rw [if_neg (by omega)]; exact hv
  have ext := hold.ext (some w.heap.size) hm
  have hle := h.below.size
  refine ⟨h.upd hup ext rfl (h.below.alloc hle _) (fun b o v hv => ?_) (fun b o v hv => ?_) ?_ (fun i g b hi hg hb => ?_) (by simp) (fun b hb => by simp only [Option.some.injEq] at hb; subst hb; exact ⟨hle, by simp⟩) (fun b y hb => ⟨Below.heap_alloc w _ b (h.pr_lt hb), fun o => by have := h.pr_lt hb; simp only [Ghost.tok, mem]; rw [if_neg (by omega)]⟩) (fun b hb => by simp only [Option.some.injEq] at hb; subst hb; exact h.pr_new), ext⟩
  · simp only [Ghost.tok, mem] at hv
    split at hv
    · rename_i e'; subst e'
      split at hv
      · rw [World.cell?_alloc_at _ _ _ _ rfl]; exact hv
      · cases hv
    · exact cell?_alloc (h.mem b o v hv)
  · simp only [Ghost.tok, mem] at hv
    split at hv
    · rename_i e'; subst e'; exact .inr hle
    · exact h.news b o v hv
  · refine ⟨_, some w.heap.size, by simp [Ghost.tok], .inr ⟨w.heap.size, arr, e, cap, rfl, rfl, heap_alloc_new w _, hcap, hmax, hsz, fun o ho => ?_⟩⟩
    simp only [Ghost.tok, mem, if_true]
    rw [if_neg (by omega)]
  · have := (h.fresh i g b hg hb).2
    refine ⟨Below.heap_alloc w _ b this, fun o => ?_, fun e' => by simp only [Option.some.injEq] at e'; omega⟩
    simp only [Ghost.tok, mem]; rw [if_neg (by omega)]

/-- The way on which there is room. -/
theorem WR.tokRoom {B : Base} {G : Ghost} {H H' : List AObj} {w : World} (h : WR B G H w) {id n n' size cap b : Nat} (hup : Upd H H' id (.spare n' size)) {old arr : Array Value} {e : TypeId} {u : Value} (hobj : G.obj id = some (.tok n u (some b)))
    (hh : w.heap[b]? = some (.cells old e (0, 0))) (hu : u = .slice (some ⟨b, 0, none⟩) n cap) (hn : n ≤ n') (hcap : n' ≤ cap) (hmax : cap ≤ maxLen) (hsz : arr.size = cap * size)
    (hno : ∀ o, n * size ≤ o → G.mem b o = none) (hsame : ∀ o, o < n * size → arr[o]? = old[o]?) :
    let mem : Mem := fun b' o => if b' = b ∧ n * size ≤ o then (if o < n' * size then arr[o]? else none) else G.mem b' o
    WR B (G.tok id n' (.slice (some ⟨b, 0, none⟩) n' cap) (some b) mem) H' (w.setRow b arr) ∧ GExt G (G.tok id n' (.slice (some ⟨b, 0, none⟩) n' cap) (some b) mem) := by
  intro mem
  have hfr := h.fresh id _ b hobj rfl
  have hm : ∀ b' o v, G.mem b' o = some v → mem b' o = some v := by
    intro b' o v hv
    simp only [mem]
    rw [if_neg]
    · exact hv
    · rintro ⟨rfl, ho⟩
      rw [hno o ho] at hv; cases hv
  have hold : Older G id n' (.slice (some ⟨b, 0, none⟩) n' cap) := .inr ⟨n, u, some b, hobj, hn, fun e => by subst e; exact hu⟩
  have ext := hold.ext (some b) hm
  refine ⟨h.upd hup ext rfl (below_setRow h.below hfr.1 _) (fun b' o v hv => ?_) (fun b' o v hv => ?_) ?_ (fun i g b' hi hg hb => ?_) (by simp) (fun b' hb => by simp only [Option.some.injEq] at hb; subst hb; exact ⟨hfr.1, by simpa using hfr.2⟩) (fun c y hc => by
    have hne : c ≠ b := fun e => by subst e; rw [h.apart id _ c hobj rfl] at hc; cases hc
    refine ⟨setRow_other w b c arr hne, fun o => ?_⟩
    simp only [Ghost.tok, mem]; rw [if_neg (fun hc => hne hc.1)]) (fun b' hb => by simp only [Option.some.injEq] at hb; subst hb; exact h.apart id _ _ hobj rfl), ext⟩
  · simp only [Ghost.tok, mem] at hv
    split at hv
    · rename_i hc; obtain ⟨rfl, ho⟩ := hc
      split at hv
      · rw [cell_setRow_same w b' o old arr e _ hh]; exact hv
      · cases hv
    · rename_i hc
      have h1 := h.mem b' o v hv
      by_cases e' : b' = b
      · subst e'
        have ho : o < n * size := by
          rcases Nat.lt_or_ge o (n * size) with g | g
          · exact g
          · exact absurd ⟨rfl, g⟩ hc
        rw [cell_setRow_same w b' o old arr e _ hh, hsame o ho]
        rw [cell_of_row w b' o old e _ hh] at h1; exact h1
      · rw [cell_setRow_other w b arr _ e']; exact h1
  · simp only [Ghost.tok, mem] at hv
    split at hv
    · rename_i hc; obtain ⟨rfl, ho⟩ := hc; exact .inr hfr.1
    · exact h.news b' o v hv
  · refine ⟨_, some b, by simp [Ghost.tok], .inr ⟨b, arr, e, cap, rfl, rfl, setRow_heap w b old arr e _ hh, hcap, hmax, hsz, fun o ho => ?_⟩⟩
    have : n * size ≤ n' * size := Nat.mul_le_mul_right _ hn
    simp only [Ghost.tok, mem]
    rw [if_pos (by refine ⟨?_, by omega⟩; first | rfl | trivial), if_neg (by omega)]
  · have hne : b' ≠ b := fun e' => by subst e'; exact hi (h.sep i id g _ b' hg hobj hb rfl)
    refine ⟨setRow_other w b b' arr hne, fun o => ?_, fun e' => hne (by simpa using e'.symm)⟩
    simp only [Ghost.tok, mem]; rw [if_neg (fun hc => hne hc.1)]

end Go.Proofs.Ytaaocppaepnhbaa
