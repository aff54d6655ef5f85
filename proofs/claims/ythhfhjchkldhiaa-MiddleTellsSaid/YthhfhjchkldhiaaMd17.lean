/- MiddleTells: three sketches beside their lists: how they lie. Own work; no condition. -/
import Derived.Test.YthhfhjchkldhiaaMd16
namespace Go.Proofs.Ythhfhjchkldhiaa
open Go Go.RowKit Go.Deep
set_option linter.unusedSimpArgs false
set_option linter.unusedVariables false

/-- A sketch and the list of all that came to it. -/
structure Sk where
  b : Nat
  tot : Nat
  sh : Int
  rv : Value
  vs : List Value
  ls : List (List Int)
  ml : List Int
  mv : Value
abbrev Sk.foot (x : Sk) (q : Nat) : Prop := Go.Proofs.Ythhfhjchkldhiaa.foot x.b x.rv x.vs q
structure One (w : World) (c : Nat) (x : Sk) : Prop where
  mid : MidAt w x.b c x.tot x.sh x.rv x.vs x.ls
  inv : Inv c x.tot x.sh x.ls x.ml
  rng : ∀ z, z ∈ x.ml → z ≤ 9223372036854775807
  row : w.ownsRow 0 2 1 x.mv x.ml.length (i64v x.ml)
def upd (s : Nat → Sk) (k : Nat) (x : Sk) : Nat → Sk := fun i => if i = k then x else s i
theorem upd_same (s : Nat → Sk) (k : Nat) (x : Sk) : upd s k x k = x := by simp [upd]
theorem upd_ne (s : Nat → Sk) {k i : Nat} (x : Sk) (h : i ≠ k) : upd s k x i = s i := by simp [upd, h]
def skPtr (x : Sk) : Value := .pointer (some ⟨x.b, 0, none⟩)

/-- n of the three are there. -/
structure St (H n : Nat) (w : World) (c A B : Nat) (s : Nat → Sk) : Prop where
  one : ∀ i, i < n → One w c (s i)
  cA : ∃ arr t, w.heap[A]? = some (.cells arr t (0, 0)) ∧ arr.size = 3 ∧ ∀ i, i < n → arr[i]? = some (skPtr (s i))
  cB : ∃ arr t, w.heap[B]? = some (.cells arr t (0, 0)) ∧ arr.size = 3 ∧ ∀ i, i < 3 → arr[i]? = some (s i).mv
  ab : A ≠ B
  dis : ∀ i j q, i < n → j < n → i ≠ j → (s i).foot q → ¬ (s j).foot q
  off : ∀ i, i < n → ¬ (s i).foot A ∧ ¬ (s i).foot B
  mvo : ∀ i j q, i < 3 → j < n → (s i).mv.ownBlock = some q → ¬ (s j).foot q ∧ q ≠ A ∧ q ≠ B
  old : H ≤ A ∧ H ≤ B ∧ ∀ i q, i < n → (s i).foot q → H ≤ q

theorem One.lt {w : World} {c : Nat} {x : Sk} (h : One w c x) {q : Nat} (hq : x.foot q) : q < w.heap.size := h.mid.lt hq
theorem St.ltA {H n : Nat} {w : World} {c A B : Nat} {s : Nat → Sk} (h : St H n w c A B s) : A < w.heap.size ∧ B < w.heap.size := by
  obtain ⟨_, _, h1, _⟩ := h.cA
  obtain ⟨_, _, h2, _⟩ := h.cB
  exact ⟨(Array.getElem?_eq_some_iff.1 h1).1, (Array.getElem?_eq_some_iff.1 h2).1⟩
/-- Nothing of it is touched. -/
theorem St.keep {H n : Nat} {w w' : World} {c A B : Nat} {s : Nat → Sk} (h : St H n w c A B s) (T : Turn w w' (fun _ => False)) : St H n w' c A B s := by
  obtain ⟨hA, hB⟩ := h.ltA
  refine ⟨fun i hi => ?_, ?_, ?_, h.ab, h.dis, h.off, h.mvo, h.old⟩
  · have o := h.one i hi
    exact ⟨o.mid.keep fun q hq => T.block q (o.lt hq) id, o.inv, o.rng, ownsRow_keep o.row fun q e => T.block q (o.row.lt q e).2 id⟩
  · obtain ⟨arr, t, h1, h2⟩ := h.cA
    exact ⟨arr, t, by rw [T.block A hA id]; exact h1, h2⟩
  · obtain ⟨arr, t, h1, h2⟩ := h.cB
    exact ⟨arr, t, by rw [T.block B hB id]; exact h1, h2⟩

theorem St.ptr {H n : Nat} {w : World} {c A B : Nat} {s : Nat → Sk} (h : St H n w c A B s) {i : Nat} (hi : i < n) : w.cell? ⟨A, i, none⟩ = some (.pointer (some ⟨(s i).b, 0, none⟩)) := by
  obtain ⟨arr, t, h1, _, h2⟩ := h.cA
  exact cell_of_heap h1 (h2 i hi)
theorem St.lst {H n : Nat} {w : World} {c A B : Nat} {s : Nat → Sk} (h : St H n w c A B s) {i : Nat} (hi : i < 3) : w.cell? ⟨B, i, none⟩ = some (s i).mv ∧ w.frozen? ⟨B, i, none⟩ = false := by
  obtain ⟨arr, t, h1, _, h2⟩ := h.cB
  exact ⟨cell_of_heap h1 (h2 i hi), by simp [World.frozen?, h1]⟩

theorem St.slot {H n : Nat} {w : World} {c A B : Nat} {s : Nat → Sk} (h : St H n w c A B s) {i : Nat} (hi : i < 3) : ∃ u, w.cell? ⟨A, i, none⟩ = some u ∧ w.frozen? ⟨A, i, none⟩ = false := by
  obtain ⟨arr, t, h1, h2, _⟩ := h.cA
  exact ⟨arr[i], cell_of_heap h1 (Array.getElem?_eq_getElem (by omega)), by simp [World.frozen?, h1]⟩

/-- A new one. -/
theorem St.grow {H n : Nat} {w w1 : World} {c A B : Nat} {s : Nat → Sk} (h : St H n w c A B s) (hn : n < 3) (hH : H ≤ w.heap.size) (hc : okC c = true) {b : Nat} (hb : w.heap.size ≤ b) (M : MidAt w1 b c (0 : Nat) 0 (.slice none 0 0) [] []) (T : Turn w w1 (fun _ => False)) (hm : ∀ i, n ≤ i → (s i).mv = .slice none 0 0) :
    St H (n + 1) (w1.setCell ⟨A, n, none⟩ (.pointer (some ⟨b, 0, none⟩))) c A B (upd s n ⟨b, 0, 0, .slice none 0 0, [], [], [], .slice none 0 0⟩) := by
  obtain ⟨hA, hB⟩ := h.ltA
  have hT := T.size
  have hsame : ∀ q, q ≠ A → (w1.setCell ⟨A, n, none⟩ (.pointer (some ⟨b, 0, none⟩))).heap[q]? = w1.heap[q]? := fun q hq => blk_setCell_other _ _ _ _ hq
  have hu : ∀ i, i < n → upd s n ⟨b, 0, 0, .slice none 0 0, [], [], [], .slice none 0 0⟩ i = s i := fun i hi => upd_ne _ _ (by omega)
  have hfb : ∀ q, Go.Proofs.Ythhfhjchkldhiaa.foot b (.slice none 0 0) [] q → q = b := by
    rintro q (e | e | ⟨v, hv, _⟩)
    · exact e
    · simp [Value.ownBlock] at e
    · simp at hv
  have hmv : ∀ i, (upd s n ⟨b, 0, 0, .slice none 0 0, [], [], [], .slice none 0 0⟩ i).mv = (s i).mv := by
    intro i
    unfold upd
    split
    · rename_i e; subst e; exact (hm _ (Nat.le_refl _)).symm
    · rfl
  refine ⟨fun i hi => ?_, ?_, ?_, h.ab, fun i j q hi hj hij hq hq' => ?_, fun i hi => ?_, fun i j q hi hj e => ?_, h.old.1, h.old.2.1, fun i q hi hq => ?_⟩
  · rcases Nat.lt_or_ge i n with g | g
    · rw [hu i g]
      have o := h.one i g
      have ho := h.off i g
      exact ⟨o.mid.keep fun q hq => by rw [hsame q (fun e => ho.1 (e ▸ hq)), T.block q (o.lt hq) id], o.inv, o.rng, ownsRow_keep o.row fun q e => by
        rw [hsame q (h.mvo i i q (by omega) g e).2.1, T.block q (o.row.lt q e).2 id]⟩
    · have e : i = n := by omega
      subst e
      rw [upd_same]
      refine ⟨M.keep fun q hq => hsame q ?_, Inv.start hc, fun z hz => by simp at hz, World.ownsRow_nil _ _ _ _⟩
      have := hfb q hq
      omega
  · obtain ⟨arr, t, h1, h2, h3⟩ := h.cA
    have h1' : w1.heap[A]? = some (.cells arr t (0, 0)) := by rw [T.block A hA id]; exact h1
    refine ⟨arr.setIfInBounds n (.pointer (some ⟨b, 0, none⟩)), t, setCell_heap h1' _, by simpa using h2, fun i hi => ?_⟩
    rw [Array.getElem?_setIfInBounds]
    rcases Nat.lt_or_ge i n with g | g
    · rw [if_neg (by omega), hu i g]; exact h3 i g
    · have e : i = n := by omega
      subst e
      rw [if_pos rfl, if_pos (by omega), upd_same]; rfl
  · obtain ⟨arr, t, h1, h2, h3⟩ := h.cB
    refine ⟨arr, t, by rw [hsame B (Ne.symm h.ab), T.block B hB id]; exact h1, h2, fun i hi => ?_⟩
    rw [hmv]; exact h3 i hi
  · rcases Nat.lt_or_ge i n with g | g
    · rcases Nat.lt_or_ge j n with g' | g'
      · rw [hu i g] at hq; rw [hu j g'] at hq'; exact h.dis i j q g g' hij hq hq'
      · have e : j = n := by omega
        subst e
        rw [hu i g] at hq; rw [upd_same] at hq'
        have := (h.one i g).lt hq
        have := hfb q hq'; omega
    · have e : i = n := by omega
      subst e
      rw [upd_same] at hq
      rw [hu j (by omega)] at hq'
      have := (h.one j (by omega)).lt hq'
      have := hfb q hq; omega
  · rcases Nat.lt_or_ge i n with g | g
    · rw [hu i g]; exact h.off i g
    · have e : i = n := by omega
      subst e
      rw [upd_same]
      constructor
      · intro hq; have := hfb _ hq; omega
      · intro hq; have := hfb _ hq; omega
  · rw [hmv] at e
    rcases Nat.lt_or_ge j n with g | g
    · rw [hu j g]; exact h.mvo i j q hi g e
    · have e' : j = n := by omega
      subst e'
      rw [upd_same]
      rcases Nat.lt_or_ge i j with g' | g'
      · have o := (h.one i g').row.lt q e
        refine ⟨fun hq => ?_, ?_⟩
        · have := hfb q hq; omega
        · exact (h.mvo i i q hi g' e).2
      · rw [hm i g'] at e; simp [Value.ownBlock] at e
  · rcases Nat.lt_or_ge i n with g | g
    · rw [hu i g] at hq; exact h.old.2.2 i q g hq
    · have e : i = n := by omega
      subst e
      rw [upd_same] at hq
      have := hfb q hq; omega

/-- One of them has been turned, and its list with it. -/
theorem St.next {H : Nat} {w w1 w2 : World} {c A B : Nat} {s : Nat → Sk} (h : St H 3 w c A B s) (hH : H ≤ w.heap.size) {k : Nat} (hk : k < 3) {x : Sk} (hb : x.b = (s k).b) (M : MidAt w1 x.b c x.tot x.sh x.rv x.vs x.ls) (T : Turn w w1 (s k).foot) (ho : ∀ q, x.foot q → (s k).foot q ∨ w.heap.size ≤ q)
    (I : Inv c x.tot x.sh x.ls x.ml) (hr : ∀ z, z ∈ x.ml → z ≤ 9223372036854775807) (T2 : Turn w1 w2 (fun _ => False)) (R : w2.ownsRow w1.heap.size 2 1 x.mv x.ml.length (i64v x.ml)) :
    St H 3 (w2.setCell ⟨B, k, none⟩ x.mv) c A B (upd s k x) := by
  obtain ⟨hA, hB⟩ := h.ltA
  have hT := T.size
  have hT2 := T2.size
  have hoff := h.off k hk
  have hsame : ∀ q, q ≠ B → (w2.setCell ⟨B, k, none⟩ x.mv).heap[q]? = w2.heap[q]? := fun q hq => blk_setCell_other _ _ _ _ hq
  have hkeep : ∀ q, q < w.heap.size → ¬ (s k).foot q → q ≠ B → (w2.setCell ⟨B, k, none⟩ x.mv).heap[q]? = w.heap[q]? := fun q h1 h2 h3 => by
    rw [hsame q h3, T2.block q (by omega) id, T.block q h1 h2]
  have hmb : ∀ q, x.mv.ownBlock = some q → w1.heap.size ≤ q := fun q e => (R.lt q e).1
  have hxl : ∀ q, x.foot q → q < w1.heap.size := fun q hq => M.lt hq
  have hxA : ¬ x.foot A ∧ ¬ x.foot B := ⟨fun hq => (ho A hq).elim hoff.1 fun h => by omega, fun hq => (ho B hq).elim hoff.2 fun h => by omega⟩
  refine ⟨fun i hi => ?_, ?_, ?_, h.ab, fun i j q hi hj hij hq hq' => ?_, fun i hi => ?_, fun i j q hi hj e => ?_, h.old.1, h.old.2.1, fun i q hi hq => ?_⟩
  · by_cases e : i = k
    · subst e
      rw [upd_same]
      refine ⟨M.keep fun q hq => ?_, I, hr, ownsRow_keep (ownsRow_base R (Nat.zero_le _)) fun q e => hsame q (by have := hmb q e; omega)⟩
      rw [hsame q (fun e => hxA.2 (e ▸ hq)), T2.block q (hxl q hq) id]
    · rw [upd_ne _ _ e]
      have o := h.one i hi
      exact ⟨o.mid.keep fun q hq => hkeep q (o.lt hq) (h.dis i k q hi hk e hq) fun e' => (h.off i hi).2 (e' ▸ hq), o.inv, o.rng, ownsRow_keep o.row fun q e => hkeep q (o.row.lt q e).2 (h.mvo i k q hi hk e).1 (h.mvo i k q hi hk e).2.2⟩
  · obtain ⟨arr, t, h1, h2, h3⟩ := h.cA
    refine ⟨arr, t, by rw [hkeep A hA hoff.1 h.ab]; exact h1, h2, fun i hi => ?_⟩
    rw [h3 i hi]
    by_cases e : i = k
    · subst e; rw [upd_same]; simp [skPtr, hb]
    · rw [upd_ne _ _ e]
  · obtain ⟨arr, t, h1, h2, h3⟩ := h.cB
    have h1' : w2.heap[B]? = some (.cells arr t (0, 0)) := by rw [T2.block B (by omega) id, T.block B hB hoff.2]; exact h1
    refine ⟨arr.setIfInBounds k x.mv, t, setCell_heap h1' _, by simpa using h2, fun i hi => ?_⟩
    rw [Array.getElem?_setIfInBounds]
    by_cases e : i = k
    · subst e; rw [if_pos rfl, if_pos (by omega), upd_same]
    · rw [if_neg (fun h => e h.symm), upd_ne _ _ e]; exact h3 i hi
  · by_cases e : i = k
    · subst e
      rw [upd_same] at hq
      rw [upd_ne _ _ (Ne.symm hij)] at hq'
      rcases ho q hq with g | g
      · exact h.dis i j q hi hj hij g hq'
      · have := (h.one j hj).lt hq'; omega
    · rw [upd_ne _ _ e] at hq
      by_cases e' : j = k
      · subst e'
        rw [upd_same] at hq'
        rcases ho q hq' with g | g
        · exact h.dis i j q hi hj hij hq g
        · have := (h.one i hi).lt hq; omega
      · rw [upd_ne _ _ e'] at hq'
        exact h.dis i j q hi hj hij hq hq'
  · by_cases e : i = k
    · subst e; rw [upd_same]; exact hxA
    · rw [upd_ne _ _ e]; exact h.off i hi
  · by_cases e' : i = k
    · subst e'
      rw [upd_same] at e
      have h1 := hmb q e
      refine ⟨fun hq => ?_, by omega, by omega⟩
      by_cases e2 : j = i
      · subst e2; rw [upd_same] at hq; have := hxl q hq; omega
      · rw [upd_ne _ _ e2] at hq; have := (h.one j hj).lt hq; omega
    · rw [upd_ne _ _ e'] at e
      have h2 := h.mvo i j q hi hj e
      refine ⟨fun hq => ?_, h2.2⟩
      by_cases e2 : j = k
      · subst e2
        rw [upd_same] at hq
        rcases ho q hq with g | g
        · exact (h.mvo i j q hi hj e).1 g
        · have := ((h.one i hi).row.lt q e).2; omega
      · rw [upd_ne _ _ e2] at hq; exact h2.1 hq
  · by_cases e : i = k
    · subst e
      rw [upd_same] at hq
      rcases ho q hq with g | g
      · exact h.old.2.2 i q hi g
      · omega
    · rw [upd_ne _ _ e] at hq; exact h.old.2.2 i q hi hq

theorem St.add {H : Nat} {w w1 w2 : World} {c A B : Nat} {s : Nat → Sk} (h : St H 3 w c A B s) (hH : H ≤ w.heap.size) {k : Nat} (hk : k < 3) {x sh' : Int} {rv' : Value} {vs' : List Value} {ls' : List (List Int)} (hb : (s k).tot + 1 ≤ 2 ^ 41) (hx : x ≤ 9223372036854775807)
    (AF : After w (s k).b c ((s k).tot + 1) (s k).sh (putM (s k).ls 0 [x]) (s k).rv (s k).vs w1 sh' rv' vs' ls') (hs : w1.Since w1.heap.size w2) {v : Value} {n : Nat} (hn : n = (s k).ml.length) (R : w2.ownsRow w1.heap.size 2 1 v (n + 1) (i64v (s k).ml ++ [.int .i64 x])) :
    St H 3 (w2.setCell ⟨B, k, none⟩ v) c A B (upd s k ⟨(s k).b, (s k).tot + 1, sh', rv', vs', ls', (s k).ml ++ [x], v⟩) := by
  have o := h.one k hk
  have I0 := (o.inv.add x hb).steps AF.steps
  refine h.next hH hk (x := ⟨(s k).b, (s k).tot + 1, sh', rv', vs', ls', (s k).ml ++ [x], v⟩) rfl AF.mid AF.turn AF.own ⟨I0, AF.low⟩ (fun z hz => ?_) ⟨hs.os, hs.tape, hs.output, hs.size, fun q hq _ => hs.block q hq⟩ ?_
  · rcases List.mem_append.1 hz with hz | hz
    · exact o.rng z hz
    · simp at hz; subst hz; exact hx
  · subst hn
    simpa [i64v] using R
theorem St.merge {H : Nat} {w w1 w2 : World} {c A B : Nat} {s : Nat → Sk} (h : St H 3 w c A B s) (hH : H ≤ w.heap.size) {k j : Nat} (hk : k < 3) (hj : j < 3) {sh' : Int} {rv' : Value} {vs' : List Value} {ls' : List (List Int)} (hb : (s k).tot + (s j).tot ≤ 2 ^ 41)
    (AF : After w (s k).b c ((s k).tot + (s j).tot) ((s k).sh + (s j).sh) (mergeL (s k).ls (s j).ls) (s k).rv (s k).vs w1 sh' rv' vs' ls') (hs : w1.Since w1.heap.size w2) {v : Value} {n m : Nat} (hn : n = (s k).ml.length) (hm : m = (s j).ml.length) (R : w2.ownsRow w1.heap.size 2 1 v (n + m) (i64v (s k).ml ++ i64v (s j).ml)) :
    St H 3 (w2.setCell ⟨B, k, none⟩ v) c A B (upd s k ⟨(s k).b, (s k).tot + (s j).tot, sh', rv', vs', ls', (s k).ml ++ (s j).ml, v⟩) := by
  have o := h.one k hk
  have o2 := h.one j hj
  have I0 := (o.inv.merge o2.inv hb).steps AF.steps
  refine h.next hH hk (x := ⟨(s k).b, (s k).tot + (s j).tot, sh', rv', vs', ls', (s k).ml ++ (s j).ml, v⟩) rfl AF.mid AF.turn AF.own ⟨I0, AF.low⟩ (fun z hz => ?_) ⟨hs.os, hs.tape, hs.output, hs.size, fun q hq _ => hs.block q hq⟩ ?_
  · rcases List.mem_append.1 hz with hz | hz
    · exact o.rng z hz
    · exact o2.rng z hz
  · subst hn hm
    simpa [i64v] using R
end Go.Proofs.Ythhfhjchkldhiaa
