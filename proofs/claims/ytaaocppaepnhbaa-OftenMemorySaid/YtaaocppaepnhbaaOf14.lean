/- sketch.Often: All, walked in the world. Own work; no condition. -/
import Derived.Test.YtaaocppaepnhbaaOf13
import Derived.Deep.LoopGhost
namespace Go.Proofs.Ytaaocppaepnhbaa
open Go Go.RowKit Go.Deep Go.Sort Go.Shelf
set_option linter.unusedVariables false
set_option linter.unusedSimpArgs false

structure Told (E : Ents) (lost : Int) (F : List FV) : Prop where
  keys : (F.map (·.v)).Perm (E.map (·.1))
  val : ∀ f ∈ F, lkE E f.v = some f.low ∧ f.high = f.low + lost
structure Some_ (E : Ents) (lost : Int) (F : List FV) (L : List VK) : Prop where
  keys : (F.map (·.v) ++ L).Perm (E.map (·.1))
  val : ∀ f ∈ F, lkE E f.v = some f.low ∧ f.high = f.low + lost
theorem Some_.next {E : Ents} {lost : Int} {F : List FV} {L : List VK} (h : Some_ E lost F L) {q : VK} {x : Int} (hq : q ∈ L) (hx : lkE E q = some x) : Some_ E lost (F ++ [⟨q, x, x + lost⟩]) (L.erase q) := by
  refine ⟨?_, fun f hf => ?_⟩
  · refine List.Perm.trans ?_ h.keys
    simp only [List.map_append, List.map_cons, List.map_nil, List.append_assoc, List.singleton_append]
    exact List.Perm.append_left _ (List.perm_cons_erase hq).symm
  · rcases List.mem_append.1 hf with hf | hf
    · exact h.val f hf
    · simp at hf; subst hf; exact ⟨hx, rfl⟩
theorem Some_.len {E : Ents} {lost : Int} {F : List FV} {L : List VK} (h : Some_ E lost F L) : F.length + L.length = E.length := by
  have := h.keys.length_eq; simpa using this
theorem Told.perm {E : Ents} {lost : Int} {F F' : List FV} (h : Told E lost F) (hp : F'.Perm F) : Told E lost F' := ⟨(hp.map _).trans h.keys, fun f hf => h.val f (hp.mem_iff.1 hf)⟩
theorem permIn_all {F : List FV} {d' : Array FV} (h : PermIn 0 F.toArray.size F.toArray d') : d'.toList.Perm F ∧ d'.size = F.length := by
  obtain ⟨h1, _, h3⟩ := h
  have e1 : d'.extract 0 F.toArray.size = d' := by rw [← h1]; simp
  have e2 : F.toArray.extract 0 F.toArray.size = F.toArray := by simp
  rw [e1, e2] at h3
  exact ⟨h3, by simpa using h1⟩

theorem ownsRow_keep {w w' : World} {base : Nat} {e : TypeId} {size : Nat} {v : Value} {n : Nat} {xs : List Value} (h : w.ownsRow base e size v n xs) (hk : ∀ k, v.ownBlock = some k → w'.heap[k]? = w.heap[k]?) : w'.ownsRow base e size v n xs := by
  refine ⟨h.1, ?_⟩
  rcases h.2 with h2 | ⟨g, cap, cur, rfl, h3, h4, h5⟩
  · exact .inl h2
  · exact .inr ⟨g, cap, cur, rfl, h3, (hk g rfl).trans h4, h5⟩
theorem ownsRow_mono {w : World} {base base' : Nat} {e : TypeId} {size : Nat} {v : Value} {n : Nat} {xs : List Value} (h : w.ownsRow base e size v n xs) (hb : base' ≤ base) : w.ownsRow base' e size v n xs := by
  refine ⟨h.1, ?_⟩
  rcases h.2 with h2 | ⟨g, cap, cur, rfl, h3, h4, h5⟩
  · exact .inl h2
  · exact .inr ⟨g, cap, cur, rfl, by omega, h4, h5⟩
set_option maxRecDepth 100000 in
set_option maxHeartbeats 4000000 in
theorem all_w (o b : Nat) (k tot lost : Int) (E : Ents) (w : World) (M : OftAt w o b k tot lost E) (hE : E.length ≤ 1024) (hv : ∀ p ∈ E, 0 ≤ p.2 ∧ 0 ≤ lost ∧ p.2 + lost ≤ 4611686018427387904) :
    Calls Try.prog 7 #[.pointer (some ⟨o, 0, none⟩)] w fun e w' => ∃ t F, e = .returned t ∧ w'.ownsRow w.heap.size 39 5 t F.length (flatF F) ∧ w.Since w.heap.size w' ∧ Told E lost F ∧ SortedIn (ltOf ordF) 0 F.length F.toArray := by
  obtain ⟨t, hbk⟩ := M.blk
  have c3 : w.cell? ⟨o, 3, none⟩ = some (.map (some b)) := cell_of_heap hbk rfl
  have c2 : w.cell? ⟨o, 2, none⟩ = some (.int .i64 lost) := cell_of_heap hbk rfl
  have hlo := M.lt
  have hlb := M.map.lt
  obtain ⟨w1, hrun, hit, hg1, hz1⟩ := M.map.range mt44
  have hs0 : w.Since w.heap.size w1 := (World.Since.refl _ w).grown hg1 (Nat.le_refl _) (by simp)
  have hu := M.map.uniq
  have S0 : Some_ E lost [] (E.map (·.1)) := ⟨by simp, by simp⟩
  have hrun' : (Instr.range 44 (.map (some b))).run Try.prog w = .ok (.pointer (some ⟨w.heap.size, 0, none⟩)) w1 := hrun
  clear hrun hbk M hg1
  obtain ⟨i0, hi0', hz0, hzs, hzb⟩ := info_parts info39
  generalize hr : w.heap.size = r at *
  go_enter Try.func7, Try.ntmps7
  go_wp2_with fail
  go_loopg [3] E.length (fun g t wr => ∃ (F : List FV) (L : List VK), wr.ownsRow (r + 1) 39 5 t F.length (flatF F) ∧ ItAt wr b r E L ∧ Some_ E lost F L ∧ g = L.length ∧ w.Since r wr ∧ r < wr.heap.size)
  case atStart => exact ⟨[], _, World.ownsRow_nil _ _ _ _, hit, S0, by simp, hs0, by omega⟩
  case round =>
    obtain ⟨F, L, hown, hit, S, hg, hs, hlt⟩ := hrel
    have hnx := hit.next 0
    clear hrun' S0
    have hlen := S.len
    rcases hnx with ⟨rfl, hn⟩ | ⟨q, x, w2, hqL, hqx, hqo, hn, hit2, hen, hg2, hz2⟩
    · have HH : Hid (ItAt wr b r E [] ∧ w.Since r wr) := ⟨hit, hs⟩
      have HT : Told E lost F := ⟨by have := S.keys; simpa using this, S.val⟩
      clear hit hs S
      obtain ⟨a, c, rfl⟩ : ∃ a c, u3 = .slice a F.length c := by
        rcases hown.2 with ⟨e, e0⟩ | ⟨g, cap, cur, e, _⟩
        · exact ⟨none, 0, by rw [e, e0]⟩
        · exact ⟨_, _, e⟩
      go_wp2_with fail
      by_cases hF : F = []
      · subst hF
        refine (sortF_none a c _ wr).mono ?_
        rintro e w5 ⟨rfl, rfl⟩
        go_wp2_with fail
        go_ret
        obtain ⟨_, h2⟩ := (show _ ∧ _ from HH)
        refine ⟨_, [], rfl, ownsRow_mono hown (by omega), h2, HT, fun i j _ _ h => by simp at h⟩
      · have hpos : 0 < F.length := List.length_pos_iff.2 hF
        obtain ⟨g, c', e, hg1, hg2⟩ := hown.form hpos
        cases e
        refine (sortF_w g 0 c F.toArray wr (holdsF hown) hg2 (by simp; omega)).mono ?_
        rintro e w5 ⟨rfl, d', n, os, hp, hsd, rfl⟩
        obtain ⟨hp1, hp2⟩ := permIn_all hp
        obtain ⟨_, h2⟩ := (show _ ∧ _ from HH)
        have hsX : w.Since r (sortWorldK encF 5 wr g 0 n d' os) := sortK_since h2 (by omega) (by omega)
        have howX : (sortWorldK encF 5 wr g 0 n d' os).ownsRow (r + 1) 39 5 (.slice (some ⟨g, 0, none⟩) F.length c) F.length (flatF d'.toList) := ownsF_sorted (F' := d'.toList) hown (by simpa using hp2) n os
        have hsd' : SortedIn (ltOf ordF) 0 d'.toList.length d'.toList.toArray := by simpa [hp2] using hsd
        have HH : Hid (w.Since r (sortWorldK encF 5 wr g 0 n d' os) ∧ (sortWorldK encF 5 wr g 0 n d' os).ownsRow (r + 1) 39 5 (.slice (some ⟨g, 0, none⟩) F.length c) F.length (flatF d'.toList) ∧ SortedIn (ltOf ordF) 0 d'.toList.length d'.toList.toArray ∧ d'.toList.Perm F ∧ d'.toList.length = F.length) := ⟨hsX, howX, hsd', hp1, by simpa using hp2⟩
        clear hsX howX hsd' hown hp hsd h2
        generalize sortWorldK encF 5 wr g 0 n d' os = w6 at *
        go_wp2_with fail
        go_ret
        obtain ⟨h2, h3, h4, h5, h6⟩ := (show _ ∧ _ from HH)
        exact ⟨_, d'.toList, rfl, by rw [h6]; exact ownsRow_mono h3 (by omega), h2, HT.perm h5, h4⟩
    · have hs2 : w.Since r w2 := hs.grown hg2 (by omega) (fun k e => by simp at e; omega)
      have HH : Hid (ItAt w2 b r E (L.erase q) ∧ w.Since r w2 ∧ Some_ E lost (F ++ [⟨q, x, x + lost⟩]) (L.erase q)) := ⟨hit2, hs2, S.next hqL hqx⟩
      have hown2 : w2.ownsRow (r + 1) 39 5 u3 F.length (flatF F) := ownsRow_keep hown fun k e => hg2.block k (hown.lt k e).2 (fun e' => by have := (hown.lt k e).1; simp at e'; omega)
      have c2' : w2.cell? ⟨o, 2, none⟩ = some (.int .i64 lost) := (hs2.cell hlo).trans c2
      clear hit hs S hit2 hs2 hown c2 c3
      obtain ⟨k1, n1, s1⟩ := q
      simp only [VK.val] at hn hen
      go_wp2_with fail
      have hxm : 0 ≤ x ∧ 0 ≤ lost ∧ x + lost ≤ 4611686018427387904 := hv _ ((look_mem hu).1 hqx)
      have hloc : o < w2.heap.size := Nat.lt_of_lt_of_le hlo (by have := (show _ ∧ _ from HH).2.1.size; omega)
      have hB : (w2.alloc (.cells #[.int .i64 k1, .int .i64 n1, .string s1] 28)).heap[wr.heap.size]? = some (.cells #[.int .i64 k1, .int .i64 n1, .string s1] 28 (0, 0)) := by rw [← hz2]; exact heap_alloc_new _ _
      have hown3 := hown2.alloc (.cells #[.int .i64 k1, .int .i64 n1, .string s1] 28)
      have z0 : (w2.alloc (.cells #[.int .i64 k1, .int .i64 n1, .string s1] 28)).cell? ⟨o, 2, none⟩ = some (.int .i64 lost) := cell_alloc _ c2'
      have hg3 : w2.Since w2.heap.size (w2.alloc (.cells #[.int .i64 k1, .int .i64 n1, .string s1] 28)) := (World.Since.refl _ _).alloc (Nat.le_refl _) _
      have hz3 : (w2.alloc (.cells #[.int .i64 k1, .int .i64 n1, .string s1] 28)).heap.size = w2.heap.size + 1 := by simp
      generalize w2.alloc (.cells #[.int .i64 k1, .int .i64 n1, .string s1] 28) = w3 at *
      have y0 : w3.cell? ⟨wr.heap.size, 0, none⟩ = some (.int .i64 k1) := cell_of_heap hB rfl
      have y1 : w3.cell? ⟨wr.heap.size, 1, none⟩ = some (.int .i64 n1) := cell_of_heap hB rfl
      have y2 : w3.cell? ⟨wr.heap.size, 2, none⟩ = some (.string s1) := cell_of_heap hB rfl
      generalize wr.heap.size = B at *
      obtain ⟨X, hX⟩ : ∃ X, X = x + lost := ⟨_, rfl⟩
      have hw : IntKind.i64.wrap (x + lost) = X := (IntWalk.i64_in (x + lost) ⟨by omega, by omega⟩).trans hX.symm
      have hrs : r + 1 ≤ w3.heap.size := by omega
      have HH2 : Hid (X = x + lost ∧ w2.Since w2.heap.size w3 ∧ B = w2.heap.size ∧ w3.heap.size = w2.heap.size + 1) := ⟨hX, hg3, hz2.symm, hz3⟩
      clear hB hown2 hn hen hqx hqL hqo c2' hg3 hX hg2 hxm hz2 hz3 hloc hit
      go_region_law (first
        | (refine step_append_lies _ (by rfl) _ _ _ (by rfl) (r + 1) 39 i0 _ 5 48 Try.underlying32 hi0' hz0 hzs hzb (by rfl) (by decide) u3 F.length (flatF F) (by rfl) (hown3.alloc _) ⟨w3.heap.size, 0, none⟩ 1 1 [.int .i64 k1, .int .i64 n1, .string s1, .int .i64 x, .int .i64 X] (by rfl) (by rfl) (World.news_of_block (heap_alloc_new _ _)) (by simp [Value.oneCell']) (by decide) (by simp [maxLen]; omega) (by omega) (by simp; omega) _ rfl ?_; intro g cap w5 hown5 hg5 hat5 hlt5))
      all_goals (
        go_wp2_with fail
        go_roundg (gk - 1)
        case measure =>
          clear hu
          have : L ≠ [] := by
            intro e
            have h3 := (show _ ∧ _ from HH).2.2.len
            simp [e] at h3 hlen
            omega
          have := List.length_pos_iff.2 this
          omega
        case rel =>
          obtain ⟨h1, h2, h3⟩ := (show _ ∧ _ from HH)
          obtain ⟨e1, h4, e2, e3⟩ := (show _ ∧ _ from HH2)
          have hq : (F ++ [⟨⟨k1, n1, s1⟩, x, x + lost⟩] : List FV).length = F.length + 1 := by simp
          have hin := h3.len
          have hsz2 := h2.size
          have hsz5 := hg5.size
          have hsz6 : w3.heap.size < w5.heap.size := by
            have := hg5.size
            simp at this; omega
          have hk5 : ∀ j, j ≤ r → w5.heap[j]? = w2.heap[j]? := fun j hj => (hg5.block j (by simp; omega) (fun e => by have := (hown3.lt j e.symm).1; omega)).trans ((blk_alloc_lt _ _ _ (by omega)).trans (h4.block j (by omega)))
          have hlb' : b ≤ r := by omega
          refine ⟨F ++ [⟨⟨k1, n1, s1⟩, x, x + lost⟩], L.erase ⟨k1, n1, s1⟩, ?_, ?_, h3, ?_, ?_, ?_⟩
          · rw [hq]
            have : flatF (F ++ [⟨⟨k1, n1, s1⟩, x, x + lost⟩]) = flatF F ++ [.int .i64 k1, .int .i64 n1, .string s1, .int .i64 x, .int .i64 X] := by simp [flatF, encF, e1]
            rw [this]; exact hown5
          · exact h1.keep (hk5 b hlb') (hk5 r (Nat.le_refl _))
          · omega
          · exact ⟨(hg5.os.trans h4.os).trans h2.os, (hg5.tape.trans h4.tape).trans h2.tape, (hg5.output.trans h4.output).trans h2.output, by omega, fun j hj => (hk5 j (by omega)).trans (h2.block j hj)⟩
          · omega)
end Go.Proofs.Ytaaocppaepnhbaa
