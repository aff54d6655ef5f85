/- OftenTells: three sketches and what came to them, how they lie. Own work; no condition. -/
import Derived.Test.YtaaocppaepnhbaaOf21
import Derived.Below
namespace Go.Proofs.Ytaaocppaepnhbaa
open Go Go.RowKit Go.Deep
set_option linter.unusedVariables false
set_option linter.unusedSimpArgs false

theorem mod_eq (n m : Int) : (n.tmod m + m) % m = n % m := by
  rw [Int.add_emod_right, Int.tmod_def, Int.sub_mul_emod_self_left]
set_option maxRecDepth 100000 in
theorem mod_w (n m : Int) (hm : 0 < m) (hb : m < 4611686018427387904) (hn : -9223372036854775808 ≤ n) (hn' : n ≤ 9223372036854775807) (w : World) : Calls Try.prog 6 #[.int .i64 n, .int .i64 m] w fun e w' => e = .returned (.int .i64 (n % m)) ∧ w' = w := by
  have h1 := mod_eq n m
  have h2 : n.tmod m < m := Int.tmod_lt_of_pos n hm
  have h3 : -m < n.tmod m := by
    rw [Int.tmod_eq_emod]
    have := Int.emod_nonneg n (by omega : m ≠ 0)
    split <;> omega
  have h4 : (m == 0) = false := by simp; omega
  have H : Hid ((n.tmod m + m) % m = n % m) := h1
  clear h1
  go_enter Try.func6, Try.ntmps6
  go_wp2_with fail
  go_ret
  have h : (n.tmod m + m) % m = n % m := H
  exact ⟨by rw [← h]; rfl, rfl⟩

structure Sk where
  o : Nat
  b : Nat
  c : Nat
  tot : Int
  lost : Int
  E : Ents
  N : Ents
abbrev Sk.foot (x : Sk) (q : Nat) : Prop := q = x.o ∨ q = x.b ∨ q = x.c
structure One (w : World) (k : Nat) (x : Sk) : Prop where
  sk : OftAt w x.o x.b k x.tot x.lost x.E
  cn : MapAt w x.c x.N
  inv : Inv k x.tot x.lost x.E x.N
  bc : x.b ≠ x.c
def upd (s : Nat → Sk) (k : Nat) (x : Sk) : Nat → Sk := fun i => if i = k then x else s i
theorem upd_same (s : Nat → Sk) (k : Nat) (x : Sk) : upd s k x k = x := by simp [upd]
theorem upd_ne (s : Nat → Sk) {k i : Nat} (x : Sk) (h : i ≠ k) : upd s k x i = s i := by simp [upd, h]
def skPtr (x : Sk) : Value := .pointer (some ⟨x.o, 0, none⟩)

/-- n of the three are there. -/
structure St (H n : Nat) (w : World) (k A B : Nat) (s : Nat → Sk) : Prop where
  one : ∀ i, i < n → One w k (s i)
  cA : ∃ arr t, w.heap[A]? = some (.cells arr t (0, 0)) ∧ arr.size = 3 ∧ ∀ i, i < n → arr[i]? = some (skPtr (s i))
  cB : ∃ arr t, w.heap[B]? = some (.cells arr t (0, 0)) ∧ arr.size = 6 ∧ (∀ i, i < n → arr[i * 2]? = some (.map (some (s i).c)) ∧ arr[i * 2 + 1]? = some (.int .i64 (s i).tot)) ∧ ∀ i, n ≤ i → i < 3 → arr[i * 2 + 1]? = some (.int .i64 0)
  ab : A ≠ B
  dis : ∀ i j q, i < n → j < n → i ≠ j → (s i).foot q → ¬ (s j).foot q
  off : ∀ i, i < n → ¬ (s i).foot A ∧ ¬ (s i).foot B
  old : H ≤ A ∧ H ≤ B ∧ ∀ i q, i < n → (s i).foot q → H ≤ q
theorem One.lt {w : World} {k : Nat} {x : Sk} (h : One w k x) {q : Nat} (hq : x.foot q) : q < w.heap.size := by
  rcases hq with rfl | rfl | rfl
  · exact h.sk.lt
  · exact h.sk.map.lt
  · exact h.cn.lt
theorem One.keep {w w' : World} {k : Nat} {x : Sk} (h : One w k x) (hk : ∀ q, x.foot q → w'.heap[q]? = w.heap[q]?) : One w' k x :=
  ⟨h.sk.keep (hk _ (.inl rfl)) (hk _ (.inr (.inl rfl))), h.cn.keep (hk _ (.inr (.inr rfl))), h.inv, h.bc⟩
theorem St.ltA {H n : Nat} {w : World} {k A B : Nat} {s : Nat → Sk} (h : St H n w k A B s) : A < w.heap.size ∧ B < w.heap.size := by
  obtain ⟨_, _, h1, _⟩ := h.cA
  obtain ⟨_, _, h2, _⟩ := h.cB
  exact ⟨(Array.getElem?_eq_some_iff.1 h1).1, (Array.getElem?_eq_some_iff.1 h2).1⟩
/-- Nothing of it is touched. -/
theorem St.keep {H n : Nat} {w w' : World} {k A B : Nat} {s : Nat → Sk} (h : St H n w k A B s) (T : Turn w w' (fun _ => False)) : St H n w' k A B s := by
  obtain ⟨hA, hB⟩ := h.ltA
  refine ⟨fun i hi => (h.one i hi).keep fun q hq => T.block q ((h.one i hi).lt hq) id, ?_, ?_, h.ab, h.dis, h.off, h.old⟩
  · obtain ⟨arr, t, h1, h2⟩ := h.cA
    exact ⟨arr, t, by rw [T.block A hA id]; exact h1, h2⟩
  · obtain ⟨arr, t, h1, h2⟩ := h.cB
    exact ⟨arr, t, by rw [T.block B hB id]; exact h1, h2⟩
theorem St.ptr {H n : Nat} {w : World} {k A B : Nat} {s : Nat → Sk} (h : St H n w k A B s) {i : Nat} (hi : i < n) : w.cell? ⟨A, i, none⟩ = some (.pointer (some ⟨(s i).o, 0, none⟩)) := by
  obtain ⟨arr, t, h1, _, h2⟩ := h.cA
  exact cell_of_heap h1 (h2 i hi)
theorem St.cnt {H n : Nat} {w : World} {k A B : Nat} {s : Nat → Sk} (h : St H n w k A B s) {i : Nat} (hi : i < n) : w.cell? ⟨B, i * 2, none⟩ = some (.map (some (s i).c)) ∧ w.cell? ⟨B, i * 2 + 1, none⟩ = some (.int .i64 (s i).tot) ∧ ∀ j, w.frozen? ⟨B, j, none⟩ = false := by
  obtain ⟨arr, t, h1, _, h2, _⟩ := h.cB
  exact ⟨cell_of_heap h1 (h2 i hi).1, cell_of_heap h1 (h2 i hi).2, fun j => by simp [World.frozen?, h1]⟩
theorem St.slot {H n : Nat} {w : World} {k A B : Nat} {s : Nat → Sk} (h : St H n w k A B s) {i : Nat} (hi : i < 3) : (∃ u, w.cell? ⟨A, i, none⟩ = some u ∧ w.frozen? ⟨A, i, none⟩ = false) ∧ ∃ u, w.cell? ⟨B, i * 2, none⟩ = some u ∧ w.frozen? ⟨B, i * 2, none⟩ = false := by
  obtain ⟨arr, t, h1, h2, _⟩ := h.cA
  obtain ⟨arr', t', h1', h2', _⟩ := h.cB
  exact ⟨⟨arr[i], cell_of_heap h1 (Array.getElem?_eq_getElem (by omega)), by simp [World.frozen?, h1]⟩, ⟨arr'[i * 2], cell_of_heap h1' (Array.getElem?_eq_getElem (by omega)), by simp [World.frozen?, h1']⟩⟩

theorem set_other {w : World} {a : Addr} {v : Value} {q : Nat} (h : q ≠ a.block) : (w.setCell a v).heap[q]? = w.heap[q]? := blk_setCell_other _ _ _ _ h
/-- A new one. -/
theorem St.grow {H n : Nat} {w w1 : World} {k A B : Nat} {s : Nat → Sk} (h : St H n w k A B s) (hn : n < 3) (hH : H ≤ w.heap.size) (hk : 1 ≤ k ∧ k ≤ 1024) {o b c : Nat} (ho : w.heap.size ≤ o) (hb : w.heap.size ≤ b) (hc : w.heap.size ≤ c) (hbc : b ≠ c) (M : OftAt w1 o b k 0 0 []) (C : MapAt w1 c []) (T : Turn w w1 (fun _ => False)) :
    St H (n + 1) ((w1.setCell ⟨A, n, none⟩ (.pointer (some ⟨o, 0, none⟩))).setCell ⟨B, n * 2, none⟩ (.map (some c))) k A B (upd s n ⟨o, b, c, 0, 0, [], []⟩) := by
  obtain ⟨hA, hB⟩ := h.ltA
  have hT := T.size
  have hsame : ∀ q, q ≠ A → q ≠ B → ((w1.setCell ⟨A, n, none⟩ (.pointer (some ⟨o, 0, none⟩))).setCell ⟨B, n * 2, none⟩ (.map (some c))).heap[q]? = w1.heap[q]? := fun q hq hq' => (set_other hq').trans (set_other hq)
  have hu : ∀ i, i < n → upd s n ⟨o, b, c, 0, 0, [], []⟩ i = s i := fun i hi => upd_ne _ _ (by omega)
  have hnew : ∀ q, (⟨o, b, c, 0, 0, [], []⟩ : Sk).foot q → w.heap.size ≤ q := by
    rintro q (rfl | rfl | rfl) <;> assumption
  refine ⟨fun i hi => ?_, ?_, ?_, h.ab, fun i j q hi hj hij hq hq' => ?_, fun i hi => ?_, h.old.1, h.old.2.1, fun i q hi hq => ?_⟩
  · rcases Nat.lt_or_ge i n with g | g
    · rw [hu i g]
      have o' := h.one i g
      have hoff := h.off i g
      exact o'.keep fun q hq => (hsame q (fun e => hoff.1 (e ▸ hq)) (fun e => hoff.2 (e ▸ hq))).trans (T.block q (o'.lt hq) id)
    · have e : i = n := by omega
      subst e
      rw [upd_same]
      have hx : One w1 k ⟨o, b, c, 0, 0, [], []⟩ := ⟨M, C, Inv.start hk, hbc⟩
      exact hx.keep fun q hq => hsame q (by have := hnew q hq; omega) (by have := hnew q hq; omega)
  · obtain ⟨arr, t, h1, h2, h3⟩ := h.cA
    have h1' : w1.heap[A]? = some (.cells arr t (0, 0)) := by rw [T.block A hA id]; exact h1
    refine ⟨arr.setIfInBounds n (.pointer (some ⟨o, 0, none⟩)), t, (set_other h.ab).trans (setCell_heap h1' _), by simpa using h2, fun i hi => ?_⟩
    rw [Array.getElem?_setIfInBounds]
    rcases Nat.lt_or_ge i n with g | g
    · rw [if_neg (by omega), hu i g]; exact h3 i g
    · have e : i = n := by omega
      subst e
      rw [if_pos rfl, if_pos (by omega), upd_same]; rfl
  · obtain ⟨arr, t, h1, h2, h3, h4⟩ := h.cB
    have h1' : (w1.setCell ⟨A, n, none⟩ (.pointer (some ⟨o, 0, none⟩))).heap[B]? = some (.cells arr t (0, 0)) := (set_other (Ne.symm h.ab)).trans (by rw [T.block B hB id]; exact h1)
    refine ⟨arr.setIfInBounds (n * 2) (.map (some c)), t, setCell_heap h1' _, by simpa using h2, fun i hi => ?_, fun i hi hi' => ?_⟩
    · rw [Array.getElem?_setIfInBounds, Array.getElem?_setIfInBounds]
      rcases Nat.lt_or_ge i n with g | g
      · rw [if_neg (by omega), if_neg (by omega), hu i g]; exact h3 i g
      · have e : i = n := by omega
        subst e
        rw [if_pos rfl, if_pos (by omega), if_neg (by omega), upd_same]
        exact ⟨rfl, h4 i (Nat.le_refl _) hn⟩
    · rw [Array.getElem?_setIfInBounds, if_neg (by omega)]; exact h4 i (by omega) hi'
  · rcases Nat.lt_or_ge i n with g | g
    · rcases Nat.lt_or_ge j n with g' | g'
      · rw [hu i g] at hq; rw [hu j g'] at hq'; exact h.dis i j q g g' hij hq hq'
      · have e : j = n := by omega
        subst e
        rw [hu i g] at hq; rw [upd_same] at hq'
        have := (h.one i g).lt hq
        have := hnew q hq'; omega
    · have e : i = n := by omega
      subst e
      rw [upd_same] at hq
      rw [hu j (by omega)] at hq'
      have := (h.one j (by omega)).lt hq'
      have := hnew q hq; omega
  · rcases Nat.lt_or_ge i n with g | g
    · rw [hu i g]; exact h.off i g
    · have e : i = n := by omega
      subst e
      rw [upd_same]
      exact ⟨fun hq => by have := hnew _ hq; omega, fun hq => by have := hnew _ hq; omega⟩
  · rcases Nat.lt_or_ge i n with g | g
    · rw [hu i g] at hq; exact h.old.2.2 i q g hq
    · have e : i = n := by omega
      subst e
      rw [upd_same] at hq
      have := hnew q hq; omega
/-- One of them is another one now; its total in the second row is not told yet. -/
theorem St.upd {H n : Nat} {w w1 : World} {k A B : Nat} {s : Nat → Sk} (h : St H n w k A B s) (hH : H ≤ w.heap.size) {j : Nat} (hj : j < n) (hn : n ≤ 3) {x : Sk} (X : One w1 k x) (hf : ∀ q, x.foot q → (s j).foot q ∨ w.heap.size ≤ q) (hc : x.c = (s j).c) (ho : x.o = (s j).o) (T : Turn w w1 (s j).foot) :
    St H n (w1.setCell ⟨B, j * 2 + 1, none⟩ (.int .i64 x.tot)) k A B (upd s j x) := by
  obtain ⟨hA, hB⟩ := h.ltA
  have hT := T.size
  have hoff := h.off j hj
  have hsame : ∀ q, q ≠ B → (w1.setCell ⟨B, j * 2 + 1, none⟩ (.int .i64 x.tot)).heap[q]? = w1.heap[q]? := fun q hq => set_other hq
  have hu : ∀ i, i ≠ j → Go.Proofs.Ytaaocppaepnhbaa.upd s j x i = s i := fun i hi => upd_ne _ _ hi
  refine ⟨fun i hi => ?_, ?_, ?_, h.ab, fun i i' q hi hi' hij hq hq' => ?_, fun i hi => ?_, h.old.1, h.old.2.1, fun i q hi hq => ?_⟩
  · by_cases e : i = j
    · subst e
      rw [upd_same]
      refine X.keep fun q hq => hsame q fun e => ?_
      rcases hf q hq with g | g
      · exact hoff.2 (e ▸ g)
      · omega
    · rw [hu i e]
      have o' := h.one i hi
      exact o'.keep fun q hq => (hsame q (fun e => (h.off i hi).2 (e ▸ hq))).trans (T.block q (o'.lt hq) (h.dis i j q hi hj e hq))
  · obtain ⟨arr, t, h1, h2, h3⟩ := h.cA
    refine ⟨arr, t, by rw [hsame A h.ab, T.block A hA hoff.1]; exact h1, h2, fun i hi => ?_⟩
    by_cases e : i = j
    · subst e; rw [upd_same, skPtr, ho]; exact h3 i hi
    · rw [hu i e]; exact h3 i hi
  · obtain ⟨arr, t, h1, h2, h3, h4⟩ := h.cB
    have h1' : w1.heap[B]? = some (.cells arr t (0, 0)) := by rw [T.block B hB hoff.2]; exact h1
    refine ⟨arr.setIfInBounds (j * 2 + 1) (.int .i64 x.tot), t, setCell_heap h1' _, by simpa using h2, fun i hi => ?_, fun i hi hi' => ?_⟩
    · rw [Array.getElem?_setIfInBounds, Array.getElem?_setIfInBounds, if_neg (by omega)]
      by_cases e : i = j
      · subst e
        rw [if_pos rfl, if_pos (by omega), upd_same, hc]; exact ⟨(h3 i hi).1, rfl⟩
      · rw [if_neg (by omega), hu i e]; exact h3 i hi
    · rw [Array.getElem?_setIfInBounds, if_neg (by omega)]; exact h4 i hi hi'
  · by_cases e : i = j
    · subst e
      rw [upd_same] at hq; rw [hu i' (Ne.symm hij)] at hq'
      rcases hf q hq with g | g
      · exact h.dis i i' q hi hi' hij g hq'
      · have := (h.one i' hi').lt hq'; omega
    · rw [hu i e] at hq
      by_cases e' : i' = j
      · subst e'
        rw [upd_same] at hq'
        rcases hf q hq' with g | g
        · exact h.dis i i' q hi hi' hij hq g
        · have := (h.one i hi).lt hq; omega
      · rw [hu i' e'] at hq'; exact h.dis i i' q hi hi' hij hq hq'
  · by_cases e : i = j
    · subst e
      rw [upd_same]
      refine ⟨fun hq => ?_, fun hq => ?_⟩
      · rcases hf _ hq with g | g
        · exact hoff.1 g
        · omega
      · rcases hf _ hq with g | g
        · exact hoff.2 g
        · omega
    · rw [hu i e]; exact h.off i hi
  · by_cases e : i = j
    · subst e
      rw [upd_same] at hq
      rcases hf q hq with g | g
      · exact h.old.2.2 i q hi g
      · omega
    · rw [hu i e] at hq; exact h.old.2.2 i q hi hq

/-- What is known of the list of all that comes. -/
structure Script (w : World) (v : Value) (n : Nat) : Prop where
  ex : ∃ a cap, v = .slice a n cap ∧ n ≤ cap ∧ cap ≤ maxLen ∧ ∀ i, i < n → ∃ (b o : Nat) (q : VK) (x : Int) (mg : Bool) (p r : Int), a = some ⟨b, o, none⟩ ∧ w.cell? ⟨b, o + i * 7, none⟩ = some (.int .i64 q.k) ∧ w.cell? ⟨b, o + i * 7 + 1, none⟩ = some (.int .i64 q.n) ∧ w.cell? ⟨b, o + i * 7 + 2, none⟩ = some (.string q.s) ∧
    w.cell? ⟨b, o + i * 7 + 3, none⟩ = some (.int .i64 x) ∧ w.cell? ⟨b, o + i * 7 + 4, none⟩ = some (.bool mg) ∧ w.cell? ⟨b, o + i * 7 + 5, none⟩ = some (.int .i64 p) ∧ w.cell? ⟨b, o + i * 7 + 6, none⟩ = some (.int .i64 r) ∧ q.Ok ∧
    (-9223372036854775808 ≤ x ∧ x ≤ 9223372036854775807) ∧ (-9223372036854775808 ≤ p ∧ p ≤ 9223372036854775807) ∧ -9223372036854775808 ≤ r ∧ r ≤ 9223372036854775807
theorem below_turn {H : Nat} {w w1 w2 : World} {own : Nat → Prop} (h : Below H w w1) (T : Turn w1 w2 own) (hH : H ≤ w1.heap.size) (ho : ∀ q, own q → H ≤ q) : Below H w w2 :=
  ⟨T.os.trans h.os, T.tape.trans h.tape, T.output.trans h.output, Nat.le_trans h.size T.size, fun k hk => (T.block k (by omega) (fun e => by have := ho k e; omega)).trans (h.block k hk)⟩
set_option maxRecDepth 100000 in
set_option maxHeartbeats 2000000 in
theorem tells_bad (c : Int) (h : okK c = false) (v1 : Value) (w : World) : Calls Try.prog 4 #[.int .i64 c, v1] w fun e w' => e = .returned (.bool true) ∧ Below w.heap.size w w' := by
  have hb : ∀ W, Calls Try.prog 5 #[.int .i64 c] W fun e w' => e = .returned (.tuple #[.pointer none, .int .i64 1]) ∧ w' = W := fun W => new_bad c h W
  by_cases h1 : c < 1
  · go_enter Try.func4, Try.ntmps4
    go_wp2_with fail
    refine wp_loop_rounds 1 ?_
    rw [rounds_succ]
    go_wp2_with (go_at_call 5; refine (hb _).mono ?_; rintro e w5 ⟨rfl, rfl⟩)
    go_ret
    refine ⟨rfl, ?_⟩
    repeat (first | exact Below.refl _ _ | refine Below.alloc ?_ (by simp; try omega) _)
  · have h2 : 1024 < c := by simp [okK] at h; omega
    go_enter Try.func4, Try.ntmps4
    go_wp2_with fail
    refine wp_loop_rounds 1 ?_
    rw [rounds_succ]
    go_wp2_with (go_at_call 5; refine (hb _).mono ?_; rintro e w5 ⟨rfl, rfl⟩)
    go_ret
    refine ⟨rfl, ?_⟩
    repeat (first | exact Below.refl _ _ | refine Below.alloc ?_ (by simp; try omega) _)
end Go.Proofs.Ytaaocppaepnhbaa
