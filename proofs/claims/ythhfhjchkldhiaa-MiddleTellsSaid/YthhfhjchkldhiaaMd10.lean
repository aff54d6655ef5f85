/- sketch.Middle: Merge, walked in the world. Own work; no condition. -/
import Derived.Test.YthhfhjchkldhiaaMd9
namespace Go.Proofs.Ythhfhjchkldhiaa
open Go Go.RowKit Go.Deep

def mergeL : List (List Int) → List (List Int) → List (List Int)
  | [], b => b
  | x :: a, [] => x :: a
  | x :: a, y :: b => (x ++ y) :: mergeL a b
theorem mergeL_nil (a : List (List Int)) : mergeL a [] = a := by cases a <;> rfl
theorem mergeL_len : ∀ a b : List (List Int), (mergeL a b).length = max a.length b.length
  | [], b => by simp [mergeL]
  | x :: a, [] => by simp [mergeL]
  | x :: a, y :: b => by simp [mergeL, mergeL_len a b]
theorem mergeL_past : ∀ (a b : List (List Int)) (k : Nat), b.length ≤ k → (mergeL a b)[k]? = a[k]?
  | [], b, k, h => by simp [mergeL]; omega
  | x :: a, [], k, h => rfl
  | x :: a, y :: b, 0, h => by simp at h
  | x :: a, y :: b, k + 1, h => by simpa [mergeL] using mergeL_past a b k (by simpa using h)
theorem mergeL_wt : ∀ (a b : List (List Int)) (j : Nat), wt j (mergeL a b) = wt j a + wt j b
  | [], b, j => by simp [mergeL, wt]
  | x :: a, [], j => by simp [mergeL, wt]
  | x :: a, y :: b, j => by simp [mergeL, wt, mergeL_wt a b, Nat.add_mul]; omega
theorem mergeL_vt : ∀ (a b : List (List Int)) (j : Nat), vt j (mergeL a b) = vt j a + vt j b
  | [], b, j => by simp [mergeL, vt]
  | x :: a, [], j => by simp [mergeL, vt]
  | x :: a, y :: b, j => by simp [mergeL, vt, mergeL_vt a b, Nat.add_mul, Nat.mul_add]; omega
theorem mergeL_top : ∀ (a b : List (List Int)), (∀ l, a.getLast? = some l → l ≠ []) → (∀ l, b.getLast? = some l → l ≠ []) → ∀ l, (mergeL a b).getLast? = some l → l ≠ []
  | [], b, _, hb, l, hl => hb l (by simpa [mergeL] using hl)
  | x :: a, [], ha, _, l, hl => ha l (by simpa [mergeL] using hl)
  | x :: a, y :: b, ha, hb, l, hl => by
    have ih := mergeL_top a b (fun l h => ha l (by cases a with
      | nil => simp at h
      | cons z a => simpa using h)) (fun l h => hb l (by cases b with
      | nil => simp at h
      | cons z b => simpa using h)) l
    simp only [mergeL] at hl
    rcases hm : mergeL a b with _ | ⟨z, r⟩
    · rw [hm] at hl
      simp at hl
      have hlen := mergeL_len a b
      rw [hm] at hlen
      have ha0 : a = [] := List.length_eq_zero_iff.1 (by simp at hlen; omega)
      subst ha0
      have := ha x rfl
      subst hl
      intro e
      exact this (List.append_eq_nil_iff.1 e).1
    · rw [hm] at hl ih
      exact ih (by simpa using hl)
theorem mergeL_put : ∀ (a b : List (List Int)) (k : Nat) (l : List Int), b[k]? = some l → putM (mergeL a (b.take k)) k l = mergeL a (b.take (k + 1))
  | [], b, k, l, h => by
    have hk : k < b.length := (List.getElem?_eq_some_iff.1 h).1
    have e : (b.take k).length = k := by simp; omega
    simp only [mergeL]
    rw [putM, if_neg (by omega), List.take_add_one, h]; rfl
  | x :: a, [], k, l, h => by simp at h
  | x :: a, y :: b, 0, l, h => by simp at h; subst h; simp [mergeL, putM, mergeL_nil]
  | x :: a, y :: b, k + 1, l, h => by
    have ih := mergeL_put a b k l (by simpa using h)
    simp only [List.take_succ_cons, mergeL]
    rw [← ih]
    simp only [putM, List.length_cons, Nat.add_lt_add_iff_right, List.getElem?_cons_succ, List.set_cons_succ]
    split <;> simp
theorem Fit.merge {c tot tot2 : Nat} {sh sh2 : Int} {ls ls2 : List (List Int)} (h : Fit c tot sh ls) (h2 : Fit c tot2 sh2 ls2) (hb : tot + tot2 ≤ 2 ^ 41) : Fit c (tot + tot2) (sh + sh2) (mergeL ls ls2) :=
  ⟨h.even, h.pos, h.cap, by rw [mergeL_wt, h.w, h2.w], by rw [Int.mul_add, h.v, h2.v, mergeL_vt]; simp, hb, mergeL_top ls ls2 h.top h2.top⟩

theorem MidAt.facts {w : World} {b : Nat} {c tot sh : Int} {rv : Value} {vs : List Value} {ls : List (List Int)} (h : MidAt w b c tot sh rv vs ls) : w.cell? ⟨b, 0, none⟩ = some (.int .i64 c) ∧ w.cell? ⟨b, 1, none⟩ = some (.int .i64 tot) ∧ w.cell? ⟨b, 2, none⟩ = some (.int .i64 sh) ∧ w.cell? ⟨b, 3, none⟩ = some rv ∧
    w.frozen? ⟨b, 1, none⟩ = false ∧ w.frozen? ⟨b, 2, none⟩ = false := by
  obtain ⟨t, hb⟩ := h.blk
  exact ⟨cell_of_heap hb rfl, cell_of_heap hb rfl, cell_of_heap hb rfl, cell_of_heap hb rfl, by simp [World.frozen?, hb], by simp [World.frozen?, hb]⟩

set_option maxRecDepth 100000 in
theorem merge_nil (p : Option Addr) (w : World) : Calls Try.prog 5 #[.pointer p, .pointer none] w fun e w' => e = .returned (.int .i64 1) ∧ Turn w w' (fun _ => False) ∧ w'.heap.size = w.heap.size := by
  go_enter Try.func5, Try.ntmps5
  go_wp2_with fail
  go_quiet (fail)
  go_wp2_with fail
  go_ret
  exact ⟨rfl, ⟨rfl, rfl, rfl, Nat.le_refl _, fun _ _ _ => rfl⟩, rfl⟩

set_option maxRecDepth 100000 in
set_option maxHeartbeats 4000000 in
theorem merge_w (b b2 c tot tot2 : Nat) (sh sh2 : Int) (rv rv2 : Value) (vs vs2 : List Value) (ls ls2 : List (List Int)) (w : World) (M : MidAt w b c tot sh rv vs ls) (P : MidAt w b2 c tot2 sh2 rv2 vs2 ls2) (F : Fit c tot sh ls) (F2 : Fit c tot2 sh2 ls2)
    (hd : ∀ v, v ∈ vs2 → v.ownBlock ≠ some b ∧ (v.ownBlock = none ∨ v.ownBlock ≠ rv.ownBlock)) (ht : tot + tot2 ≤ 1099511627776) :
    Calls Try.prog 5 #[.pointer (some ⟨b, 0, none⟩), .pointer (some ⟨b2, 0, none⟩)] w fun e w' => e = .returned (.int .i64 0) ∧ ∃ sh' rv' vs' ls', After w b c (tot + tot2) (sh + sh2) (mergeL ls ls2) rv vs w' sh' rv' vs' ls' := by
  obtain ⟨t, hbk⟩ := M.blk
  obtain ⟨t2, hbk2⟩ := P.blk
  obtain ⟨T, hT⟩ : ∃ T : Int, T = tot := ⟨_, rfl⟩
  obtain ⟨T2, hT2⟩ : ∃ T : Int, T = tot2 := ⟨_, rfl⟩
  have c0 : w.cell? ⟨b, 0, none⟩ = some (.int .i64 c) := cell_of_heap hbk rfl
  have c1 : w.cell? ⟨b, 1, none⟩ = some (.int .i64 T) := by rw [hT]; exact cell_of_heap hbk rfl
  have c2 : w.cell? ⟨b, 2, none⟩ = some (.int .i64 sh) := cell_of_heap hbk rfl
  have f1 : w.frozen? ⟨b, 1, none⟩ = false := by simp [World.frozen?, hbk]
  have f2 : w.frozen? ⟨b, 2, none⟩ = false := by simp [World.frozen?, hbk]
  have p0 : w.cell? ⟨b2, 0, none⟩ = some (.int .i64 c) := cell_of_heap hbk2 rfl
  have p1 : w.cell? ⟨b2, 1, none⟩ = some (.int .i64 T2) := by rw [hT2]; exact cell_of_heap hbk2 rfl
  have p2 : w.cell? ⟨b2, 2, none⟩ = some (.int .i64 sh2) := cell_of_heap hbk2 rfl
  have p3 : w.cell? ⟨b2, 3, none⟩ = some rv2 := cell_of_heap hbk2 rfl
  have ht1 : ¬ 1099511627776 - T < T2 := by omega
  have ht0 : 0 ≤ T := by omega
  have ht2 : 0 ≤ T2 := by omega
  have ht3 : T ≤ 1099511627776 := by omega
  have HT : Hid (T = tot ∧ T2 = tot2 ∧ tot + tot2 ≤ 1099511627776) := ⟨hT, hT2, ht⟩
  clear hbk hbk2 hT hT2 ht
  go_enter Try.func5, Try.ntmps5
  go_wp2_with fail
  go_quiet (fail)
  go_wp2_with fail
  go_quiet (fail)
  go_wp2_with fail
  generalize hWa : (w.drewN _).drewN _ = Wa
  have TA : Turn w Wa (fun _ => False) := by subst hWa; exact ⟨rfl, rfl, rfl, Nat.le_refl _, fun _ _ _ => rfl⟩
  have MA : MidAt Wa b c tot sh rv vs ls := M.keep fun q hq => TA.block q (M.lt hq) id
  have PA : MidAt Wa b2 c tot2 sh2 rv2 vs2 ls2 := P.keep fun q hq => TA.block q (P.lt hq) id
  clear hWa c0 c1 c2 f1 f2 p0 p1 p2 p3
  obtain ⟨_, _, p2, p3, _, _⟩ := PA.facts
  have hR : Rd Wa.drew rv2 vs2 := ownsRow_rd PA.row
  have hv2 : ∀ u ∈ vs2, u.oneCell' = true := by
    intro u hu
    obtain ⟨i, hi⟩ := List.getElem?_of_mem hu
    have hil := (List.getElem?_eq_some_iff.1 hi).1
    rw [PA.vlen] at hil
    obtain ⟨a, cc, rfl⟩ := ownsRow_slice (PA.inner i u _ hi (List.getElem?_eq_getElem hil))
    rfl
  have hl2 := F2.len
  have hvl := PA.vlen
  have hbs : vs2.length * 24 ≤ 140737488355328 := by omega
  have lb2 : b2 < Wa.drew.heap.size := PA.lt (.inl rfl)
  obtain ⟨ra, rc, hrv2⟩ := ownsRow_slice PA.row
  subst hrv2
  go_region_held3 (fun w' => w'.cell? ⟨b2, 3, none⟩ = some (.slice ra ls2.length rc) ∧ w'.cell? ⟨b2, 2, none⟩ = some (.int .i64 sh2))
    (first
      | go_keep
      | (go_split_ands; refine ⟨?_, ?_⟩ <;> (rw [hs1.cell lb2]; assumption)))
    (first
      | (go_at_call 9; refine (clone9_w _ vs2 Wa.drew hR hv2 hbs).mono ?_; rintro e w1 ⟨v1, rfl, hown1, hs1⟩))
  have TB : Turn Wa w1 (fun _ => False) := ⟨hs1.os, hs1.tape, hs1.output, hs1.size, fun q hq _ => hs1.block q hq⟩
  have MB : MidAt w1 b c tot sh rv vs ls := MA.keep fun q hq => TB.block q (MA.lt hq) id
  have PB : MidAt w1 b2 c tot2 sh2 (.slice ra ls2.length rc) vs2 ls2 := PA.keep fun q hq => TB.block q (PA.lt hq) id
  obtain ⟨a1, k1, rfl⟩ := ownsRow_slice hown1
  clear hs1 hR p2 p3 lb2
  have fB := MB.facts
  have gB := PB.facts
  have hHT : T = tot ∧ T2 = tot2 ∧ tot + tot2 ≤ 1099511627776 := HT
  rw [← hHT.1] at fB
  rw [← hHT.2.1] at gB
  obtain ⟨c0, c1, c2, c3, f1, f2⟩ := fB
  obtain ⟨p0, p1, p2, p3, q1, q2⟩ := gB
  clear hHT
  go_wp2_with fail
  go_still_tail 9, (by kernel_rfl)
  change wpList _ _ _ _ _ w1.drew
  go_wp2_with fail
  have hs1 := F.short
  have hs2 := F2.short
  have MC : MidAt ((w1.setCell ⟨b, 1, none⟩ (.int .i64 (T + T2))).setCell ⟨b, 2, none⟩ (.int .i64 (wrap64 (sh + sh2)))).drew b c ((tot + tot2 : Nat) : Int) (sh + sh2) rv vs ls := by
    have hHT : T = tot ∧ T2 = tot2 ∧ tot + tot2 ≤ 1099511627776 := HT
    have e : ((tot + tot2 : Nat) : Int) = T + T2 := by omega
    rw [e]
    have := (MB.tots (T + T2)).shorts (wrap64 (sh + sh2))
    rw [wrap_small (x := sh + sh2) (by omega) (by omega)] at this ⊢
    exact this
  have TC : Turn w1 ((w1.setCell ⟨b, 1, none⟩ (.int .i64 (T + T2))).setCell ⟨b, 2, none⟩ (.int .i64 (wrap64 (sh + sh2)))).drew (fun q => q = b) := by
    have h := (Turn.cell (w := w1) ⟨b, 1, none⟩ (.int .i64 (T + T2)) (own := fun q => q = b) rfl).trans (Turn.cell (w := w1.setCell ⟨b, 1, none⟩ (.int .i64 (T + T2))) ⟨b, 2, none⟩ (.int .i64 (wrap64 (sh + sh2))) (own := fun q => q = b) rfl) (own := fun q => q = b) (fun _ e => e) fun _ _ e => e
    exact ⟨h.os, h.tape, h.output, h.size, h.block⟩
  have hzA : Wa.heap.size ≤ w1.heap.size := TB.size
  have hbA : b < Wa.heap.size := MA.lt (.inl rfl)
  have hrA : ∀ q, rv.ownBlock = some q → q < Wa.heap.size := fun q e => MA.lt (.inr (.inl e))
  have hvA : ∀ v, v ∈ vs2 → ∀ q, v.ownBlock = some q → q < Wa.heap.size := fun v h q e => PA.lt (.inr (.inr ⟨v, h, e⟩))
  have hown2 : ((w1.setCell ⟨b, 1, none⟩ (.int .i64 (T + T2))).setCell ⟨b, 2, none⟩ (.int .i64 (wrap64 (sh + sh2)))).drew.ownsRow Wa.heap.size 23 1 (.slice a1 ls2.length k1) ls2.length vs2 := by
    rw [hvl] at hown1
    exact ownsRow_keep hown1 fun q e => TC.block q (hown1.lt q e).2 fun e' => by have : Wa.heap.size ≤ q := (hown1.lt q e).1; omega
  have PI : ∀ (i : Nat) v l, vs2[i]? = some v → ls2[i]? = some l → ((w1.setCell ⟨b, 1, none⟩ (.int .i64 (T + T2))).setCell ⟨b, 2, none⟩ (.int .i64 (wrap64 (sh + sh2)))).drew.ownsRow 0 2 1 v l.length (i64v l) := fun i v l hv hl =>
    ownsRow_keep (PB.inner i v l hv hl) fun q e => TC.block q (PB.lt (.inr (.inr ⟨v, List.mem_of_getElem? hv, e⟩))) fun e' => (hd v (List.mem_of_getElem? hv)).1 (e' ▸ e)
  have TD : Turn w ((w1.setCell ⟨b, 1, none⟩ (.int .i64 (T + T2))).setCell ⟨b, 2, none⟩ (.int .i64 (wrap64 (sh + sh2)))).drew (fun q => q = b) := (TA.trans TB (own := fun _ => False) (fun _ h => h) fun _ _ h => h).trans TC (fun _ h => h.elim) fun _ _ e => e
  clear c0 c1 c2 c3 f1 f2 p0 p1 p2 p3 q1 q2 hown1 MB PB MA PA TA TB ht0 ht1 ht2 ht3
  generalize ((w1.setCell ⟨b, 1, none⟩ (.int .i64 (T + T2))).setCell ⟨b, 2, none⟩ (.int .i64 (wrap64 (sh + sh2)))).drew = W1 at *
  clear TC
  go_loopg [62] 100 (fun g t wr => ∃ (k : Nat) (rv' : Value) (vs' : List Value), t = .int .i64 k ∧ g + k = 100 ∧ k ≤ ls2.length ∧ MidAt wr b c ((tot + tot2 : Nat) : Int) (sh + sh2) rv' vs' (mergeL ls (ls2.take k)) ∧ Turn W1 wr (fun q => q = b ∨ rv.ownBlock = some q) ∧
    (∀ q, rv'.ownBlock = some q → rv.ownBlock = some q ∨ W1.heap.size ≤ q) ∧ ∀ v, v ∈ vs' → v ∈ vs ∨ ∀ q, v.ownBlock = some q → W1.heap.size ≤ q)
  case atStart => exact ⟨0, rv, vs, rfl, rfl, Nat.zero_le _, by rw [List.take_zero, mergeL_nil]; exact MC, Turn.refl _ _, fun q e => .inl e, fun v h => .inl h⟩
  case round =>
    obtain ⟨k, rv', vs', rfl, hgk, hk, M', T', hr', hv'⟩ := hrel
    by_cases hlt : k < ls2.length
    · obtain ⟨g, cap, hform, hg1, hg2⟩ := hown2.form (by omega)
      simp only [Value.slice.injEq, true_and] at hform
      obtain ⟨rfl, rfl⟩ := hform
      obtain ⟨v, hv⟩ : ∃ v, vs2[k]? = some v := ⟨_, List.getElem?_eq_getElem (by omega)⟩
      obtain ⟨l, hl⟩ : ∃ l, ls2[k]? = some l := ⟨_, List.getElem?_eq_getElem hlt⟩
      have hm := List.mem_of_getElem? hv
      have cg : wr.cell? ⟨g, k, none⟩ = some v := by
        have h1 := hown2.cells (g := g) rfl k v hv
        rw [add0] at h1
        rw [World.cell?_of_block (w := W1) (T'.block g hg2 (by
          rintro (e | e)
          · omega
          · have := hrA g e; omega))]
        exact h1
      have hin := PI k v l hv hl
      have R' : Rd wr v (i64v l) := (ownsRow_rd hin).turn T' fun q e => by
        rintro (e' | e')
        · exact (hd v hm).1 (e' ▸ e)
        · rcases (hd v hm).2 with h | h
          · rw [e] at h; cases h
          · exact h (by rw [e, e'])
      obtain ⟨va, vc, rfl⟩ := ownsRow_slice hin
      have hTD := TD.size
      have hTs := T'.size
      have hput := put_w b c ((tot + tot2 : Nat) : Int) (sh + sh2) rv' vs' (mergeL ls (ls2.take k)) k _ l wr M' R' (by rw [mergeL_len, List.length_take]; omega) (fun q e => by
        have hq := hvA _ hm q e
        rintro (h | h)
        · exact (hd _ hm).1 (h ▸ e)
        · rcases hr' q h with h | h
          · rcases (hd _ hm).2 with h2 | h2
            · rw [e] at h2; cases h2
            · exact h2 (by rw [e, h])
          · omega) (by rw [mergeL_len, List.length_take]; have := F.len; omega) (fun l' h => by
          rw [mergeL_past _ _ _ (by rw [List.length_take]; omega)] at h
          have := F.each h; omega) (by have := F2.each hl; omega)
      rw [mergeL_put _ _ _ _ hl] at hput
      have hk0 : (0 : Int) ≤ (k : Int) := Int.natCast_nonneg _
      have hk1 : (k : Int) < (ls2.length : Int) := by omega
      have Hr : Hid (∀ q, rv'.ownBlock = some q → _) := hr'
      have Hv : Hid (∀ v, v ∈ vs' → _) := hv'
      clear hr' hv' hin R' M' hv hl PI F F2 hd hrA hvA hown2
      go_wp2_with (go_at_call 10; refine hput.mono ?_; rintro e w5 ⟨rfl, rv5, vs5, M5, T5, hr5, hv5⟩; clear hput; have Hr5 : Hid (∀ q, rv5.ownBlock = some q → _) := hr5; have Hv5 : Hid (∀ v, v ∈ vs5 → _) := hv5; clear hr5 hv5)
      go_roundg (99 - k)
      case measure => omega
      case rel =>
        have hr' := Hr
        have hv' := Hv
        have hr5 := Hr5
        have hv5 := Hv5
        refine ⟨k + 1, rv5, vs5, by simp, by omega, by omega, M5, T'.trans T5 (fun _ e => e) (fun q hq e => ?_), fun q e => ?_, fun v h => ?_⟩
        · rcases e with rfl | e
          · exact .inl rfl
          · rcases hr' q e with h | h
            · exact .inr h
            · omega
        · rcases hr5 q e with h | h
          · exact hr' q h
          · exact .inr (by omega)
        · rcases hv5 v h with h | h
          · exact hv' v h
          · exact .inr fun q e => by have := h q e; omega
    · have hk1 : ¬ (k : Int) < (ls2.length : Int) := by omega
      have ek : k = ls2.length := by omega
      subst ek
      rw [List.take_length] at M'
      have hHT : T = tot ∧ T2 = tot2 ∧ tot + tot2 ≤ 1099511627776 := HT
      have hs := settle_w b c (tot + tot2) (sh + sh2) rv' vs' (mergeL ls ls2) wr M' (F.merge F2 (by omega))
      have hTD := TD.size
      have H : Hid (Turn w wr (fun q => q = b ∨ rv.ownBlock = some q) ∧ (∀ q, rv'.ownBlock = some q → rv.ownBlock = some q ∨ w.heap.size ≤ q) ∧ ∀ v, v ∈ vs' → v ∈ vs ∨ ∀ q, v.ownBlock = some q → w.heap.size ≤ q) :=
        ⟨TD.trans T' (fun _ e => .inl e) (fun _ _ e => e), fun q e => (hr' q e).imp id fun h => by omega, fun v h => (hv' v h).imp id fun h q e => by have := h q e; omega⟩
      clear hHT M' T' hr' hv' PI F F2 hd hrA hvA hown2
      go_wp2_with (go_at_call 11; refine hs.mono ?_; rintro e w5 ⟨rfl, sh', rv5, vs5, ls', S⟩)
      go_ret
      obtain ⟨h1, h2, h3⟩ := H
      exact ⟨rfl, sh', rv5, vs5, ls', After.ofSet h1 h2 h3 S⟩
end Go.Proofs.Ythhfhjchkldhiaa
