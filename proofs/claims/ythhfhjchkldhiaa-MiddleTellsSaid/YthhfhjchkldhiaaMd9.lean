/- sketch.Middle: Add, walked in the world. Own work; no condition. -/
import Derived.Test.YthhfhjchkldhiaaMd8
namespace Go.Proofs.Ythhfhjchkldhiaa
open Go Go.RowKit Go.Deep

theorem Fit.add {c tot : Nat} {sh : Int} {ls : List (List Int)} (h : Fit c tot sh ls) (x : Int) (hb : tot + 1 ≤ 2 ^ 41) : Fit c (tot + 1) sh (putM ls 0 [x]) := by
  cases ls with
  | nil =>
    have hw : 0 = tot := h.w
    refine ⟨h.even, h.pos, h.cap, by simp [putM, wt]; omega, by rw [h.v]; simp [putM, vt], hb, fun l hl => ?_⟩
    simp [putM] at hl; subst hl; simp
  | cons l r =>
    have e : putM (l :: r) 0 [x] = (l ++ [x]) :: r := by simp [putM]
    have hw := h.w
    have hv := h.v
    rw [e]
    refine ⟨h.even, h.pos, h.cap, ?_, ?_, hb, fun y hy => ?_⟩
    · simp [wt] at hw ⊢; omega
    · rw [hv]; simp [vt]
    · cases r with
      | nil => simp at hy; subst hy; simp
      | cons z r => exact h.top y (by simpa using hy)

theorem MidAt.tots {w : World} {b : Nat} {c tot sh : Int} {rv : Value} {vs : List Value} {ls : List (List Int)} (h : MidAt w b c tot sh rv vs ls) (s : Int) : MidAt (w.setCell ⟨b, 1, none⟩ (.int .i64 s)) b c s sh rv vs ls := by
  have hsame : ∀ k, k ≠ b → (w.setCell ⟨b, 1, none⟩ (.int .i64 s)).heap[k]? = w.heap[k]? := fun k hk => blk_setCell_other _ _ _ _ hk
  refine ⟨?_, ownsRow_keep h.row fun k e => hsame k fun e' => h.d1 (e' ▸ e), fun i v l hv hl => ownsRow_keep (h.inner i v l hv hl) fun k e => hsame k fun e' => (h.d2 v (List.mem_of_getElem? hv)).1 (e' ▸ e), h.d1, h.d2, h.d3⟩
  obtain ⟨t, hb⟩ := h.blk
  exact ⟨t, setCell_heap (i := 1) hb (.int .i64 s)⟩

/-- What a call leaves of a sketch: it has been settled, from these lists on. -/
structure After (w : World) (b c tot : Nat) (sh0 : Int) (ls0 : List (List Int)) (rv : Value) (vs : List Value) (w' : World) (sh' : Int) (rv' : Value) (vs' : List Value) (ls' : List (List Int)) : Prop where
  mid : MidAt w' b c tot sh' rv' vs' ls'
  steps : Steps c sh0 ls0 sh' ls'
  low : ∀ (j : Nat) l, ls'[j]? = some l → l.length < c
  turn : Turn w w' (foot b rv vs)
  own : ∀ q, foot b rv' vs' q → foot b rv vs q ∨ w.heap.size ≤ q

/-- What is settled behind some puts. -/
theorem After.ofSet {w w1 w' : World} {b c tot : Nat} {sh0 sh' : Int} {ls0 ls' : List (List Int)} {rv rv1 rv' : Value} {vs vs1 vs' : List Value} (T : Turn w w1 (fun q => q = b ∨ rv.ownBlock = some q)) (hr : ∀ q, rv1.ownBlock = some q → rv.ownBlock = some q ∨ w.heap.size ≤ q)
    (hv : ∀ v, v ∈ vs1 → v ∈ vs ∨ ∀ q, v.ownBlock = some q → w.heap.size ≤ q) (S : Set w1 b c tot sh0 rv1 vs1 ls0 ls'.length w' sh' rv' vs' ls') : After w b c tot sh0 ls0 rv vs w' sh' rv' vs' ls' := by
  have hf : ∀ q, foot b rv1 vs1 q → foot b rv vs q ∨ w.heap.size ≤ q := by
    rintro q (rfl | h | ⟨v, hm, h⟩)
    · exact .inl (.inl rfl)
    · exact (hr q h).imp (fun h => .inr (.inl h)) id
    · rcases hv v hm with g | g
      · exact .inl (.inr (.inr ⟨v, g, h⟩))
      · exact .inr (g q h)
  refine ⟨S.mid, S.steps, fun j l hl => S.low j l (List.getElem?_eq_some_iff.1 hl).1 hl, T.trans S.turn (fun q e => ?_) (fun q hq e => (hf q e).elim id fun h => absurd h (by omega)), fun q hq => ?_⟩
  · rcases e with rfl | e
    · exact .inl rfl
    · exact .inr (.inl e)
  · rcases S.own q hq with h | h
    · exact hf q h
    · exact .inr (Nat.le_trans T.size h)

set_option maxRecDepth 100000 in
set_option maxHeartbeats 2000000 in
theorem add_w (b c tot : Nat) (sh : Int) (rv : Value) (vs : List Value) (ls : List (List Int)) (x : Int) (w : World) (M : MidAt w b c tot sh rv vs ls) (F : Fit c tot sh ls) (ht : tot < 1099511627776) :
    Calls Try.prog 7 #[.pointer (some ⟨b, 0, none⟩), .int .i64 x] w fun e w' => e = .returned (.int .i64 0) ∧ ∃ sh' rv' vs' ls', After w b c (tot + 1) sh (putM ls 0 [x]) rv vs w' sh' rv' vs' ls' := by
  obtain ⟨t, hbk⟩ := M.blk
  obtain ⟨T, hT⟩ : ∃ T : Int, T = tot := ⟨_, rfl⟩
  have c1 : w.cell? ⟨b, 1, none⟩ = some (.int .i64 T) := by rw [hT]; exact cell_of_heap hbk rfl
  have f1 : w.frozen? ⟨b, 1, none⟩ = false := by simp [World.frozen?, hbk]
  have ht' : T < 1099511627776 := by omega
  have ht0 : 0 ≤ T := by omega
  have HT : Hid (T = tot) := hT
  clear hbk hT ht
  go_enter Try.func7, Try.ntmps7
  go_wp2_with fail
  have hlb : b < w.heap.size := M.lt (.inl rfl)
  have M1 : MidAt ((w.setCell ⟨b, 1, none⟩ (.int .i64 (T + 1))).alloc (.cells #[.int .i64 x] 2)) b c (T + 1) sh rv vs ls := by
    have h := M.tots (T + 1)
    exact h.keep fun k hk => blk_alloc_lt _ _ _ (h.lt hk)
  have R1 : Rd ((w.setCell ⟨b, 1, none⟩ (.int .i64 (T + 1))).alloc (.cells #[.int .i64 x] 2)) (.slice (some ⟨w.heap.size, 0, none⟩) 1 1) (i64v [x]) := by
    refine .inr ⟨_, 1, 1, rfl, rfl, Nat.le_refl _, by simp [maxLen], ?_⟩
    have h := cell_one_new (w.setCell ⟨b, 1, none⟩ (.int .i64 (T + 1))) (.int .i64 x) 2
    rw [nblk_setCell] at h
    exact h
  have T1 : Turn w ((w.setCell ⟨b, 1, none⟩ (.int .i64 (T + 1))).alloc (.cells #[.int .i64 x] 2)) (fun q => q = b) := by
    refine (Turn.cell (w := w) ⟨b, 1, none⟩ (.int .i64 (T + 1)) (own := fun q => q = b) rfl).trans (o' := fun _ => False) (Turn.since ((World.Since.refl _ _).alloc (Nat.le_refl _) _) (Nat.le_refl _)) (fun _ e => e) fun _ _ h => h.elim
  have hrow : ∀ q, rv.ownBlock = some q → q < w.heap.size := fun q e => M.lt (.inr (.inl e))
  have F1 := F.add x (by have : (T : Int) = tot := HT; omega)
  have hz := T1.size
  generalize ((w.setCell ⟨b, 1, none⟩ (.int .i64 (T + 1))).alloc (.cells #[.int .i64 x] 2)) = W1 at *
  have hp := put_w b c (T + 1) sh rv vs ls 0 (.slice (some ⟨w.heap.size, 0, none⟩) 1 1) [x] W1 M1 R1 (Nat.zero_le _) (fun q e => by
    simp [Value.ownBlock] at e; subst e
    rintro (h | h)
    · omega
    · have := hrow _ h; omega) (by have := F.len; omega) (fun l' h => by have := F.each h; omega) (by simp)
  rw [show ((0 : Nat) : Int) = 0 from rfl] at hp
  refine hp.mono ?_
  rintro e W2 ⟨rfl, rv2, vs2, M2, T2, hr2, hv2⟩
  have M2' : MidAt W2 b c ((tot + 1 : Nat) : Int) sh rv2 vs2 (putM ls 0 [x]) := by
    have e : T + 1 = ((tot + 1 : Nat) : Int) := by have : (T : Int) = tot := HT; omega
    rw [← e]; exact M2
  have hs := settle_w b c (tot + 1) sh rv2 vs2 (putM ls 0 [x]) W2 M2' F1
  have H : Hid (Turn w W2 (fun q => q = b ∨ rv.ownBlock = some q) ∧ (∀ q, rv2.ownBlock = some q → rv.ownBlock = some q ∨ w.heap.size ≤ q) ∧ ∀ v, v ∈ vs2 → v ∈ vs ∨ ∀ q, v.ownBlock = some q → w.heap.size ≤ q) :=
    ⟨T1.trans T2 (fun _ e => .inl e) (fun _ _ e => e), fun q e => (hr2 q e).imp id fun h => by omega, fun v h => (hv2 v h).imp id fun h q e => by have := h q e; omega⟩
  clear hp c1 f1 M1 R1 T1 hrow F1 M2 M2' T2 hr2 hv2 M F
  go_wp2_with (go_at_call 11; refine hs.mono ?_; rintro e w5 ⟨rfl, sh', rv', vs', ls', S⟩)
  go_ret
  obtain ⟨h1, h2, h3⟩ := H
  exact ⟨rfl, sh', rv', vs', ls', After.ofSet h1 h2 h3 S⟩
end Go.Proofs.Ythhfhjchkldhiaa
