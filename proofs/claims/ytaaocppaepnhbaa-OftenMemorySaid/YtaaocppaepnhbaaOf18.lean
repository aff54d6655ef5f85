/- sketch.Often: Merge, walked in the world. Own work; no condition. -/
import Derived.Test.YtaaocppaepnhbaaOf17
import Derived.StillTailTactics
import Derived.BigQuiet
namespace Go.Proofs.Ytaaocppaepnhbaa
open Go Go.RowKit Go.Deep Go.Sort Go.Shelf
set_option linter.unusedVariables false
set_option linter.unusedSimpArgs false

def both (E E2 : Ents) (q : VK) : Option Int := match lkE E2 q with
  | none => lkE E q
  | some x => some ((lkE E q).getD 0 + x)
theorem Uniq.nodup {E : Ents} (h : Uniq E) : (E.map (·.1)).Nodup := by rw [List.nodup_iff_pairwise_ne, List.pairwise_map]; exact h
theorem Part.put {E D : Ents} {L : List VK} (hu : Uniq E) (h : Part E D L) {q : VK} {x : Int} (hq : q ∈ L) (hx : lkE E q = some x) : Part E (put D q x) (L.erase q) := by
  have hn : ∀ p ∈ D, p.1 ≠ q := fun p hp e => by
    have hnd : (D.map (·.1) ++ L).Nodup := h.keys.nodup_iff.2 hu.nodup
    exact (List.nodup_append.1 hnd).2.2 _ (List.mem_map.2 ⟨p, hp, rfl⟩) _ hq e
  rw [put_new hn]; exact h.next hq hx
theorem Part.lkE {E D : Ents} (hE : Uniq E) (hD : Uniq D) (h : Part E D []) (q : VK) : lkE D q = lkE E q := by
  have hk : (D.map (·.1)).Perm (E.map (·.1)) := by simpa using h.keys
  cases hx : Go.Proofs.Ytaaocppaepnhbaa.lkE D q with
  | some x =>
    have := h.val _ ((look_mem hD).1 hx)
    exact this.symm
  | none =>
    symm
    rw [look_none] at hx ⊢
    intro p hp e
    have : p.1 ∈ D.map (·.1) := hk.mem_iff.2 (List.mem_map.2 ⟨p, hp, rfl⟩)
    obtain ⟨d, hd, e2⟩ := List.mem_map.1 this
    exact hx d hd (e2.trans e)
/-- What lies so far: of the second map the keys of L are still to come. -/
def Add2 (E E2 D : Ents) (L : List VK) : Prop := ∀ q, lkE D q = if q ∈ L then lkE E q else both E E2 q
theorem Add2.start {E E2 D : Ents} (h : ∀ q, lkE D q = lkE E q) : Add2 E E2 D (E2.map (·.1)) := fun q => by
  split
  · exact h q
  · rename_i hn
    have : lkE E2 q = none := look_none.2 fun p hp e => hn (List.mem_map.2 ⟨p, hp, e⟩)
    rw [h q]; unfold both; rw [this]
theorem Add2.next {E E2 D : Ents} {L : List VK} (h : Add2 E E2 D L) (hn : L.Nodup) {q : VK} {x : Int} (hq : q ∈ L) (hx : lkE E2 q = some x) : Add2 E E2 (put D q ((lkE D q).getD 0 + x)) (L.erase q) := fun r => by
  rw [look_put]
  by_cases e : r = q
  · subst e
    rw [if_pos rfl, if_neg (fun h' => (hn.mem_erase_iff.1 h').1 rfl), h r, if_pos hq]
    unfold both; rw [hx]
  · rw [if_neg e, h r]
    simp only [List.mem_erase_of_ne e]

theorem both_bound {E E2 : Ents} {tot lost tot2 lost2 : Int} (hu : Uniq E) (hu2 : Uniq E2) (hb : ∀ p ∈ E, 0 ≤ p.2 ∧ p.2 + lost ≤ tot) (hb2 : ∀ p ∈ E2, 0 ≤ p.2 ∧ p.2 + lost2 ≤ tot2) (hl : 0 ≤ lost ∧ lost ≤ tot) (hl2 : 0 ≤ lost2 ∧ lost2 ≤ tot2) {q : VK} {x : Int} (h : both E E2 q = some x) : 0 ≤ x ∧ x + (lost + lost2) ≤ tot + tot2 := by
  unfold both at h
  cases h2 : lkE E2 q with
  | none =>
    rw [h2] at h
    have := hb _ ((look_mem hu).1 h)
    simp at this; omega
  | some y =>
    rw [h2] at h
    have h3 := hb2 _ ((look_mem hu2).1 h2)
    simp at h h3
    cases h1 : lkE E q with
    | none => rw [h1] at h; simp at h; omega
    | some z => rw [h1] at h; have := hb _ ((look_mem hu).1 h1); simp at h this; omega
theorem look_bound {E : Ents} {tot lost : Int} (hu : Uniq E) (hb : ∀ p ∈ E, 0 ≤ p.2 ∧ p.2 + lost ≤ tot) (hl : 0 ≤ lost ∧ lost ≤ tot) (q : VK) : 0 ≤ (lkE E q).getD 0 ∧ (lkE E q).getD 0 + lost ≤ tot := by
  cases h1 : lkE E q with
  | none => simp; omega
  | some z => have := hb _ ((look_mem hu).1 h1); simpa using this
set_option maxRecDepth 100000 in
theorem merge_nil (p : Option Addr) (w : World) : Calls Try.prog 8 #[.pointer p, .pointer none] w fun e w' => e = .returned (.int .i64 1) ∧ Turn w w' (fun _ => False) ∧ w'.heap.size = w.heap.size := by
  go_enter Try.func8, Try.ntmps8
  go_wp2_with fail
  go_quiet (fail)
  go_wp2_with fail
  go_ret
  exact ⟨rfl, ⟨rfl, rfl, rfl, Nat.le_refl _, fun _ _ _ => rfl⟩, rfl⟩

theorem OftAt.facts {w : World} {o b : Nat} {k tot lost : Int} {E : Ents} (h : OftAt w o b k tot lost E) : w.cell? ⟨o, 0, none⟩ = some (.int .i64 k) ∧ w.cell? ⟨o, 1, none⟩ = some (.int .i64 tot) ∧ w.cell? ⟨o, 2, none⟩ = some (.int .i64 lost) ∧ w.cell? ⟨o, 3, none⟩ = some (.map (some b)) ∧ ∀ i, w.frozen? ⟨o, i, none⟩ = false := by
  obtain ⟨t, hb⟩ := h.blk
  exact ⟨cell_of_heap hb rfl, cell_of_heap hb rfl, cell_of_heap hb rfl, cell_of_heap hb rfl, fun i => by simp [World.frozen?, hb]⟩

set_option maxRecDepth 100000 in
set_option maxHeartbeats 1000000 in
theorem merge_large (o b o2 b2 : Nat) (k tot lost tot2 lost2 : Int) (E E2 : Ents) (w : World) (M : OftAt w o b k tot lost E) (P : OftAt w o2 b2 k tot2 lost2 E2) (ht : 0 ≤ tot ∧ tot ≤ 4611686018427387904) (hn : 4611686018427387904 - tot < tot2) :
    Calls Try.prog 8 #[.pointer (some ⟨o, 0, none⟩), .pointer (some ⟨o2, 0, none⟩)] w fun e w' => e = .returned (.int .i64 3) ∧ Turn w w' (fun _ => False) := by
  obtain ⟨c0, c1, c2, c3, cf⟩ := M.facts
  obtain ⟨p0, p1, p2, p3, pf⟩ := P.facts
  clear M P
  go_enter Try.func8, Try.ntmps8
  go_wp2_with fail
  go_quiet (fail)
  go_wp2_with fail
  go_quiet (fail)
  go_wp2_with fail
  go_ret
  exact ⟨rfl, rfl, rfl, rfl, Nat.le_refl _, fun _ _ _ => rfl⟩

set_option maxRecDepth 100000 in
set_option maxHeartbeats 4000000 in
theorem merge_w (o b o2 b2 k : Nat) (tot lost tot2 lost2 : Int) (E E2 : Ents) (w : World) (M : OftAt w o b k tot lost E) (P : OftAt w o2 b2 k tot2 lost2 E2) (hk : 1 ≤ k ∧ k ≤ 1024) (hE : E.length ≤ 2000) (hE2 : E2.length ≤ 2000)
    (hn : tot + tot2 ≤ 4611686018427387904) (hb : ∀ p ∈ E, 0 ≤ p.2 ∧ p.2 + lost ≤ tot) (hb2 : ∀ p ∈ E2, 0 ≤ p.2 ∧ p.2 + lost2 ≤ tot2) (hl : 0 ≤ lost ∧ lost ≤ tot) (hl2 : 0 ≤ lost2 ∧ lost2 ≤ tot2) :
    Calls Try.prog 8 #[.pointer (some ⟨o, 0, none⟩), .pointer (some ⟨o2, 0, none⟩)] w fun e w' => e = .returned (.int .i64 0) ∧ ∃ m D lost' E', w.heap.size ≤ m ∧ OftAt w' o m k (tot + tot2) lost' E' ∧ Turn w w' (fun q => q = o) ∧
      (∀ q, lkE D q = both E E2 q) ∧ Uniq D ∧ (∀ p ∈ D, p.1.Ok) ∧ Low k (lost + lost2) D lost' E' := by
  obtain ⟨c0, c1, c2, c3, cf⟩ := M.facts
  obtain ⟨p0, p1, p2, p3, pf⟩ := P.facts
  have n1 : ¬ 4611686018427387904 - tot < tot2 := by omega
  have n2 : 0 ≤ tot ∧ tot ≤ 4611686018427387904 := by omega
  have n3 : 0 ≤ tot2 ∧ tot2 ≤ 4611686018427387904 := by omega
  have n4 : 0 ≤ lost + lost2 ∧ lost + lost2 ≤ 4611686018427387904 := by omega
  have HH : Hid (OftAt w o b k tot lost E ∧ OftAt w o2 b2 k tot2 lost2 E2 ∧ (1 ≤ k ∧ k ≤ 1024)) := ⟨M, P, hk⟩
  obtain ⟨K, hK⟩ : ∃ K : Int, K = k := ⟨_, rfl⟩
  rw [← hK] at c0 p0
  have HK : Hid (K = k) := hK
  clear M P hk hK
  go_enter Try.func8, Try.ntmps8
  go_wp2_with fail
  go_quiet (fail)
  go_wp2_with fail
  go_quiet (fail)
  go_wp2_with fail
  generalize hWa : (w.drewN _).drewN _ = Wa
  have TA : Turn w Wa (fun _ => False) := by subst hWa; exact ⟨rfl, rfl, rfl, Nat.le_refl _, fun _ _ _ => rfl⟩
  have hca : ∀ a, Wa.cell? a = w.cell? a := by subst hWa; exact fun _ => rfl
  have hfa : ∀ a, Wa.frozen? a = w.frozen? a := by subst hWa; exact fun _ => rfl
  rw [← hca] at c0 c1 c2 c3 p0 p1 p2 p3
  have cf := fun i => (hfa ⟨o, i, none⟩).trans (cf i)
  have TA' : Hid (Turn w Wa (fun _ => False)) := TA
  clear hWa TA hca hfa pf p0
  go_still_tail 9, (by kernel_rfl)
  change wpList _ _ _ _ _ Wa.drew
  go_wp2_with fail
  obtain ⟨M, P, hk⟩ := (show _ ∧ _ from HH)
  rw [← (show K = k from HK)] at M P
  have hob := M.ne
  have hob2 : o ≠ b2 := by
    obtain ⟨t, ht⟩ := M.blk
    obtain ⟨es, clk, hb, _⟩ := P.map
    intro e; rw [e, hb] at ht; cases ht
  have hlo := M.lt
  have hlb := M.map.lt
  have hlo2 := P.lt
  have hlb2 := P.map.lt
  have TAw := (show Turn w Wa (fun _ => False) from TA')
  have hza := TAw.size
  have MA : OftAt Wa o b K tot lost E := M.keep (TAw.block o hlo id) (TAw.block b hlb id)
  have PA : MapAt Wa b2 E2 := P.map.keep (TAw.block b2 hlb2 id)
  have M5 : OftAt (Wa.setCell ⟨o, 1, none⟩ (.int .i64 (tot + tot2))).drew o b K (tot + tot2) lost E := by
    obtain ⟨t, hbk⟩ := MA.blk
    refine ⟨⟨t, ?_⟩, MA.map.keep (blk_setCell_other _ _ _ _ (fun e => hob e.symm))⟩
    exact setCell_heap (i := 1) hbk _
  have P5 : MapAt (Wa.setCell ⟨o, 1, none⟩ (.int .i64 (tot + tot2))).drew b2 E2 := PA.keep (blk_setCell_other _ _ _ _ (fun e => hob2 e.symm))
  have q2 : (Wa.setCell ⟨o, 1, none⟩ (.int .i64 (tot + tot2))).drew.cell? ⟨o2, 2, none⟩ = some (.int .i64 lost2) := (World.cell?_setCell_other _ _ _ _ (by simp)).trans p2
  have q3 : (Wa.setCell ⟨o, 1, none⟩ (.int .i64 (tot + tot2))).drew.cell? ⟨o2, 3, none⟩ = some (.map (some b2)) := (World.cell?_setCell_other _ _ _ _ (by simp)).trans p3
  have T5 : Turn w (Wa.setCell ⟨o, 1, none⟩ (.int .i64 (tot + tot2))).drew (fun q => q = o) := by
    have h := TAw.trans (Turn.cell (w := Wa) ⟨o, 1, none⟩ (.int .i64 (tot + tot2)) (own := fun q => q = o) rfl) (own := fun q => q = o) (fun _ h => h.elim) fun _ _ h => h
    exact ⟨h.os, h.tape, h.output, h.size, h.block⟩
  clear c0 c1 c2 c3 p1 p2 p3 MA PA M P TAw hza cf n1 n2 n3
  generalize (Wa.setCell ⟨o, 1, none⟩ (.int .i64 (tot + tot2))).drew = W5 at *
  obtain ⟨c0, c1, c2, c3, cf⟩ := M5.facts
  have HM : Hid (OftAt W5 o b K (tot + tot2) lost E ∧ MapAt W5 b2 E2 ∧ Turn w W5 (fun q => q = o) ∧ (1 ≤ k ∧ k ≤ 1024) ∧ o ≠ b ∧ o ≠ b2 ∧ o < w.heap.size ∧ b < w.heap.size ∧ o2 < w.heap.size ∧ b2 < w.heap.size) := ⟨M5, P5, T5, hk, hob, hob2, hlo, hlb, hlo2, hlb2⟩
  obtain ⟨W6, hW6⟩ : ∃ W6, W6 = (W5.setCell ⟨o, 2, none⟩ (.int .i64 (lost + lost2))).drew := ⟨_, rfl⟩
  have hz6 : W6.heap.size = W5.heap.size := by rw [hW6]; simp
  have M6 : OftAt W6 o b K (tot + tot2) (lost + lost2) E := by
    obtain ⟨t, hbk⟩ := M5.blk
    rw [hW6]
    refine ⟨⟨t, ?_⟩, M5.map.keep (blk_setCell_other _ _ _ _ (fun e => hob e.symm))⟩
    exact setCell_heap (i := 2) hbk _
  have P6 : MapAt W6 b2 E2 := by rw [hW6]; exact P5.keep (blk_setCell_other _ _ _ _ (fun e => hob2 e.symm))
  have q6 : W6.cell? ⟨o2, 3, none⟩ = some (.map (some b2)) := by rw [hW6]; exact (World.cell?_setCell_other _ _ _ _ (by simp)).trans q3
  have T6 : Turn w W6 (fun q => q = o) := by
    have h := T5.trans (Turn.cell (w := W5) ⟨o, 2, none⟩ (.int .i64 (lost + lost2)) (own := fun q => q = o) rfl) (own := fun q => q = o) (fun _ h => h) fun _ _ h => h
    rw [hW6]
    exact ⟨h.os, h.tape, h.output, h.size, h.block⟩
  have hmk : (Instr.makeMap 44 none).run Try.prog W6 = .ok (.map (some W6.heap.size)) (W6.alloc (.map #[] 0)) := by simp [@run_makeMap Try.prog]
  have ho7 : (W6.alloc (.map #[] 0)).cell? ⟨o, 3, none⟩ = some (.map (some b)) := cell_alloc _ (M6.facts).2.2.2.1
  have hz5 := T5.size
  have M7 : MapAt (W6.alloc (.map #[] 0)) b E := M6.map.keep (blk_alloc_lt _ _ _ M6.map.lt)
  have P7 : MapAt (W6.alloc (.map #[] 0)) b2 E2 := P6.keep (blk_alloc_lt _ _ _ P6.lt)
  have D7 : MapAt (W6.alloc (.map #[] 0)) W6.heap.size [] := MapAt.made W6
  obtain ⟨W8, hrg, hit8, hg8, hz8⟩ := M7.range mt44
  have hz7 : (W6.alloc (.map #[] 0)).heap.size = W6.heap.size + 1 := by simp
  have S8 : W6.Since W6.heap.size W8 := ((World.Since.refl _ W6).alloc (Nat.le_refl _) _).grown hg8 (by omega) (by simp)
  have D8 : MapAt W8 W6.heap.size [] := D7.keep (hg8.block _ (by omega) (by simp))
  have HM : Hid (OftAt W6 o b K (tot + tot2) (lost + lost2) E ∧ MapAt W6 b2 E2 ∧ Turn w W6 (fun q => q = o) ∧ (1 ≤ k ∧ k ≤ 1024) ∧ o ≠ b ∧ o ≠ b2 ∧ o < w.heap.size ∧ b < w.heap.size ∧ o2 < w.heap.size ∧ b2 < w.heap.size) := ⟨M6, P6, T6, hk, hob, hob2, hlo, hlb, hlo2, hlb2⟩
  have HW : Hid (W6 = (W5.setCell ⟨o, 2, none⟩ (.int .i64 (lost + lost2))).drew) := hW6
  clear M5 P5 T5 hk hob hob2 hlo hlb hlo2 hlb2 c0 c1 M6 P6 T6 hW6 M7 P7 D7 hg8 hz5
  go_still_tail 9, (by kernel_rfl)
  change wpList _ _ _ _ _ W5.drew
  rw [hz7] at hrg hit8 hz8
  rw [hz6] at hmk hrg hit8 hz8 D8 S8
  clear hz6 hz7
  rw [(show _ = _ from HW)] at hmk hrg ho7
  have hmk' : (Instr.makeMap 44 none).run Try.prog (W5.setCell ⟨o, 2, none⟩ (.int .i64 (lost + lost2))).drew = .ok (.map (some W5.heap.size)) ((W5.setCell ⟨o, 2, none⟩ (.int .i64 (lost + lost2))).alloc (.map #[] 0)).drew := hmk
  have ho7' : ((W5.setCell ⟨o, 2, none⟩ (.int .i64 (lost + lost2))).alloc (.map #[] 0)).drew.cell? ⟨o, 3, none⟩ = some (.map (some b)) := ho7
  have hrg' : (Instr.range 44 (.map (some b))).run Try.prog ((W5.setCell ⟨o, 2, none⟩ (.int .i64 (lost + lost2))).alloc (.map #[] 0)).drew = .ok (.pointer (some ⟨W5.heap.size + 1, 0, none⟩)) W8 := hrg
  clear hmk ho7 hrg
  go_wp2_with fail
  have hb6 : b < W5.heap.size ∧ b2 < W5.heap.size ∧ o < W5.heap.size ∧ o2 < W5.heap.size ∧ w.heap.size ≤ W5.heap.size := by
    have h := (show _ ∧ _ from HM)
    have := h.2.2.1.size
    have e : W6.heap.size = W5.heap.size := by rw [(show _ = _ from HW)]; simp
    omega
  generalize W5.heap.size = m at *
  clear hmk' ho7' hrg' q2 q3 c2 c3 cf
  have hEu : Uniq E := (show _ ∧ _ from HM).1.map.uniq
  have P0 : Part E [] (E.map (·.1)) := ⟨by simp, by simp⟩
  go_loopg [6] E.length (fun g _ wr => ∃ (D : Ents) (L : List VK), MapAt wr m D ∧ ItAt wr b (m + 1) E L ∧ Part E D L ∧ g = L.length ∧ W6.Since m wr ∧ m + 1 < wr.heap.size)
  case atStart => exact ⟨[], _, D8, hit8, P0, by simp, S8, by omega⟩
  case round =>
    clear D8 hit8 S8 hz8 P0
    obtain ⟨D, L, hD, hit, hP, hg, hS, hlt⟩ := hrel
    have hnx := hit.next 0
    rcases hnx with ⟨rfl, hn⟩ | ⟨q, x, w2, hqL, hqx, hqo, hn, hit2, hen, hg2, hz2⟩
    · obtain ⟨M6, P6, T6, hk, hob, hob2, hlo, hlb, hlo2, hlb2⟩ := (show _ ∧ _ from HM)
      have hlen := hP.len
      simp only [List.length_nil, Nat.add_zero] at hlen
      have hlook : ∀ q, lkE D q = lkE E q := Part.lkE hEu hD.uniq hP
      have hz6 : W6.heap.size = m ∨ True := .inr trivial
      have hT6z := T6.size
      have P9 : MapAt wr b2 E2 := P6.keep (hS.block b2 hb6.2.1)
      have r9 : wr.cell? ⟨o2, 3, none⟩ = some (.map (some b2)) := since_cell hS (by omega) q6
      obtain ⟨W10, hrg, hit10, hg10, hz10⟩ := P9.range mt44
      have D10 : MapAt W10 m D := hD.keep (hg10.block m (by omega) (by simp))
      have S10 : W6.Since m W10 := hS.grown hg10 (by omega) (by simp)
      have hE2u := P6.uniq
      clear M6 P6 T6 hk hob hob2 hlo hlb hlo2 hlb2 P9 hD hit hP hS hg10 hz6 hT6z q6
      generalize hr2 : wr.heap.size = r2 at *
      go_wp2_with fail
      go_loopg [8] E2.length (fun g _ wu => ∃ (D : Ents) (L : List VK), MapAt wu m D ∧ ItAt wu b2 r2 E2 L ∧ Add2 E E2 D L ∧ D.length + L.length ≤ E.length + E2.length ∧ g = L.length ∧ W6.Since m wu ∧ r2 < wu.heap.size)
      case atStart => exact ⟨D, _, D10, hit10, Add2.start hlook, by simp; omega, by simp, S10, by omega⟩
      case round =>
        clear D10 hit10 S10 hz10 hrg r9 hlen hlook
        obtain ⟨D, L, hD, hit, hA, hDL, hg, hS, hlt⟩ := hrel
        have hnx := hit.next 0
        rcases hnx with ⟨rfl, hn⟩ | ⟨q, x, w2, hqL, hqx, hqo, hn, hit2, hen, hg2, hz2⟩
        · obtain ⟨M6, P6, T6, hk, hob, hob2, hlo, hlb, hlo2, hlb2⟩ := (show _ ∧ _ from HM)
          have hKk : K = k := (show _ = _ from HK)
          obtain ⟨t, hbk⟩ := M6.blk
          have hbk9 : wr.heap[o]? = some (.cells #[.int .i64 K, .int .i64 (tot + tot2), .int .i64 (lost + lost2), .map (some b)] t (0, 0)) := (hS.block o (by omega)).trans hbk
          have r3 : wr.cell? ⟨o, 3, none⟩ = some (.map (some b)) := cell_of_heap hbk9 rfl
          have rf : wr.frozen? ⟨o, 3, none⟩ = false := by simp [World.frozen?, hbk9]
          have hom : o ≠ m := by omega
          have M10 : OftAt (wr.setCell ⟨o, 3, none⟩ (.map (some m))) o m k (tot + tot2) (lost + lost2) D := by
            refine ⟨⟨t, ?_⟩, hD.keep (blk_setCell_other _ _ _ _ (fun e => hom e.symm))⟩
            rw [← hKk]; exact setCell_heap (i := 3) hbk9 _
          have hlk : ∀ q', lkE D q' = both E E2 q' := fun q' => by rw [hA q']; simp
          have hDb : ∀ p ∈ D, 0 ≤ p.2 ∧ 0 ≤ lost + lost2 ∧ p.2 + (lost + lost2) ≤ 4611686018427387904 := fun p hp => by
            have h1 := (look_mem hD.uniq (q := p.1) (x := p.2)).2 hp
            rw [hlk] at h1
            have := both_bound hEu hE2u hb hb2 hl hl2 h1
            omega
          have hlw := lower_w o m k (tot + tot2) (lost + lost2) D _ M10 hk (by simp at hDL; omega) hDb
          have HF : Hid (Turn w (wr.setCell ⟨o, 3, none⟩ (.map (some m))) (fun q => q = o) ∧ Uniq D ∧ (∀ p ∈ D, p.1.Ok) ∧ (∀ q', lkE D q' = both E E2 q') ∧ w.heap.size ≤ m) := by
            refine ⟨?_, hD.uniq, hD.ok, hlk, hb6.2.2.2.2⟩
            refine (T6.trans (o' := fun q => m ≤ q) (own := fun q => q = o) ⟨hS.os, hS.tape, hS.output, hS.size, fun j hj hn => hS.block j (by omega)⟩ (fun _ h => h) fun q hq h => by omega).trans (Turn.cell _ _ rfl) (fun _ h => h) fun q _ h => h.symm
          clear M6 P6 T6 hk hob hob2 hlo hlb hlo2 hlb2 hKk hbk hbk9 hom M10 hlk hDb hD hit hA hDL hS
          go_wp2_with (go_at_call 19; (with_reducible refine hlw.mono ?_); rintro e w5 ⟨rfl, lost', E', M5, T5, hL5⟩)
          go_ret
          obtain ⟨f1, f2, f3, f4, f5⟩ := (show _ ∧ _ from HF)
          refine ⟨rfl, m, D, lost', E', f5, M5, f1.trans T5 (fun _ e => e) fun q hq e => ?_, f4, f2, f3, hL5⟩
          omega
        · have hLq := erase_len hqL
          obtain ⟨y, hy⟩ : ∃ y, y = (lkE D q).getD 0 := ⟨_, rfl⟩
          have hyE : y = (lkE E q).getD 0 := by rw [hy, hA q, if_pos hqL]
          have hyb := look_bound hEu hb hl q
          rw [← hyE] at hyb
          have hxb := hb2 _ ((look_mem hE2u).1 hqx)
          simp only at hxb
          obtain ⟨X, hX⟩ : ∃ X, X = y + x := ⟨_, rfl⟩
          have hw : IntKind.i64.wrap (y + x) = X := (IntWalk.i64_in (y + x) ⟨by omega, by omega⟩).trans hX.symm
          have hmr : m ≠ r2 := fun e => by have := hit.ne; have h3 := hit.lt; obtain ⟨_, _, h1, _⟩ := hD; obtain ⟨_, _, _, _, _, _, _, h2, _⟩ := hit; rw [← e, h1] at h2; cases h2
          have hmlt := hD.lt
          have hD2 : MapAt (w2.alloc (.cells #[.int .i64 q.k, .int .i64 q.n, .string q.s] 28)).drew m D := hD.keep ((blk_alloc_lt _ _ _ (by omega)).trans (hg2.block m hmlt (fun e => hmr (by simpa using e))))
          have hit3 : ItAt (w2.alloc (.cells #[.int .i64 q.k, .int .i64 q.n, .string q.s] 28)).drew b2 r2 E2 (L.erase q) := hit2.keep (blk_alloc_lt _ _ _ (by omega)) (blk_alloc_lt _ _ _ (by omega))
          have hlk := hD2.lookup hqo mt44
          obtain ⟨st, w4, hme, hD4, hst, hm4⟩ := hD2.entry hqo mt44
          have hlk4 := hD4.lookup hqo mt44
          rw [look_put, if_pos rfl, Option.getD_some] at hlk4
          obtain ⟨w5, hes, hD5, hm5⟩ := hD4.stamped hst X (mt := 44)
          rw [put_put] at hD5
          rw [← hy] at hlk hme hlk4
          have hes2 : (Instr.entryStore 44 (.map (some m)) (.int .i64 (st : Int)) (.int .i64 X)).run Try.prog w4 = .ok () w5 := hes
          have T5 := (Turn.mapT hm4).trans (Turn.mapT hm5) (own := fun q => q = m) (fun _ h => h) fun _ _ h => h
          have hz5 := T5.size
          have hz5' : w2.heap.size + 1 ≤ w5.heap.size := by simpa using hz5
          have hit5 : ItAt w5 b2 r2 E2 (L.erase q) := hit3.keep (T5.block b2 (by show b2 < (w2.alloc _).heap.size; simp; omega) (by omega)) (T5.block r2 (by show r2 < (w2.alloc _).heap.size; simp; omega) (fun e => hmr e.symm))
          have hS2 : W6.Since m w2 := hS.grown hg2 (by omega) (fun k e => by simp at e; omega)
          have hS5 : W6.Since m w5 := ⟨T5.os.trans hS2.os, T5.tape.trans hS2.tape, T5.output.trans hS2.output, by have := hS2.size; omega, fun j hj => (T5.block j (by show j < (w2.alloc _).heap.size; simp; omega) (by omega)).trans ((blk_alloc_lt _ _ _ (by omega)).trans (hS2.block j hj))⟩
          have hDl2 := put_len (E := D) (q := q) (x := X)
          have HR : Hid (MapAt w5 m (put D q X) ∧ ItAt w5 b2 r2 E2 (L.erase q) ∧ Add2 E E2 (put D q X) (L.erase q) ∧ (put D q X).length + (L.erase q).length ≤ E.length + E2.length ∧ (L.erase q).length + 1 = L.length ∧ W6.Since m w5 ∧ r2 < w5.heap.size) := ⟨hD5, hit5, by rw [hX, hy]; exact hA.next hit.nodup hqL hqx, by omega, hLq, hS5, by omega⟩
          have hqv : q.val = .agg #[.int .i64 q.k, .int .i64 q.n, .string q.s] := rfl
          rw [hqv] at hn hen hlk hme hlk4
          clear hLq hD2 hit3 hD4 hm4 T5 hz5 hz5' hit5 hS2 hS5 hqv hit2 hg2 hD hit hA hS hqL hqx hqo hz2 hes hst hD5 hm5 hX hy hyE hyb hxb hmr hmlt hDl2 hDL
          generalize q.k = k1 at *
          generalize q.n = n1 at *
          generalize q.s = s1 at *
          have hbx : (w2.alloc (.cells #[.int .i64 k1, .int .i64 n1, .string s1] 28)).heap[w2.heap.size]? = some (.cells #[.int .i64 k1, .int .i64 n1, .string s1] 28 (0, 0)) := heap_alloc_new _ _
          go_wp2_with fail
          go_region
          all_goals (
            go_wp2_with fail
            go_roundg (gk - 1)
            case measure => have := (show _ ∧ _ from HR).2.2.2.2.1; omega
            case rel =>
              obtain ⟨f1, f2, f3, f4, f5, f6, f7⟩ := (show _ ∧ _ from HR)
              exact ⟨_, L.erase q, f1, f2, f3, f4, by omega, f6, f7⟩)
    · have hLq := erase_len hqL
      have hD2 : MapAt (w2.alloc (.cells #[.int .i64 q.k, .int .i64 q.n, .string q.s] 28)) m D := hD.keep ((blk_alloc_lt _ _ _ (by omega)).trans (hg2.block m (by omega) (by simp)))
      have hit3 : ItAt (w2.alloc (.cells #[.int .i64 q.k, .int .i64 q.n, .string q.s] 28)) b (m + 1) E (L.erase q) := hit2.keep (blk_alloc_lt _ _ _ (by omega)) (blk_alloc_lt _ _ _ (by omega))
      obtain ⟨w4, hup, hD4, hm4⟩ := hD2.store hqo x mt44
      have T4 := Turn.mapT hm4
      have hz4 := T4.size
      have hit4 : ItAt w4 b (m + 1) E (L.erase q) := hit3.keep (T4.block b (by simp; omega) (by omega)) (T4.block (m + 1) (by simp; omega) (by omega))
      have hS2 : W6.Since m w2 := hS.grown hg2 (by omega) (fun k e => by simp at e; omega)
      have hS4 : W6.Since m w4 := ⟨T4.os.trans hS2.os, T4.tape.trans hS2.tape, T4.output.trans hS2.output, by have := hS2.size; simp at hz4; omega, fun j hj => (T4.block j (by simp; omega) (by omega)).trans ((blk_alloc_lt _ _ _ (by omega)).trans (hS2.block j hj))⟩
      have HR : Hid (MapAt w4 m (put D q x) ∧ ItAt w4 b (m + 1) E (L.erase q) ∧ Part E (put D q x) (L.erase q) ∧ (L.erase q).length + 1 = L.length ∧ W6.Since m w4 ∧ m + 1 < w4.heap.size) := ⟨hD4, hit4, hP.put hEu hqL hqx, hLq, hS4, by simp at hz4; omega⟩
      have hqv : q.val = .agg #[.int .i64 q.k, .int .i64 q.n, .string q.s] := rfl
      rw [hqv] at hn hen hup
      clear hLq hD2 hit3 hD4 hm4 T4 hz4 hit4 hS2 hS4 hqv hit2 hg2 hD hit hP hS hqL hqx hqo hz2
      generalize q.k = k1 at *
      generalize q.n = n1 at *
      generalize q.s = s1 at *
      go_wp2_with fail
      go_roundg (gk - 1)
      case measure => have := (show _ ∧ _ from HR).2.2.2.1; omega
      case rel =>
        obtain ⟨f1, f2, f3, f4, f5, f6⟩ := (show _ ∧ _ from HR)
        exact ⟨_, L.erase q, f1, f2, f3, by omega, f5, f6⟩
end Go.Proofs.Ytaaocppaepnhbaa
