/- sort; sort. Own work; no condition. -/
import Derived.Test.YtcajncmjlmpkgaaPa18
import Derived.Sort.LotA
namespace Go.Proofs.Ytcajncmjlmpkgaa
open Go Go.RowKit Go.Sort Go.Shelf
set_option linter.unusedVariables false
set_option linter.unusedSimpArgs false
set_option maxRecDepth 100000
section
variable {α : Type} [Inhabited α] {enc : α → List Value} {k : Nat} {w W W' : World} {blk size : Nat} {d dk d' : Array α} {lt : α → α → Bool}
theorem sym_w (hO : SWO lt) {g : Nat} {lb : Array Value} {sf : Nat} {sb : Array Value} : ∀ (N a m b : Nat) (d : Array α) (w : World), b - a ≤ N → a < m → m < b → b ≤ d.size → Ask g lb sf sb enc k lt blk d w → SortedIn lt a m d → SortedIn lt m b d → SymSays g lb sf sb enc k lt blk a m b d w := by
 intro N
 induction N with
 | zero => intro a m b d w h; omega
 | succ N ih =>
   intro a m b d w hN ham hmb hb A hl hr
   by_cases h1 : m = a + 1
   · exact sym_left_w hO A a m b h1 (by omega) hb hr
   · by_cases h2 : b = m + 1
     · exact sym_right_w hO A a m b (by omega) h2 hb hl
     · exact sym_step_w hO A a m b (by omega) (by omega) hb hl hr fun a' m' b' d' w' h => ih a' m' b' d' w' (by omega)
set_option maxHeartbeats 4000000 in
theorem insertion_w (hO : SWO lt) {g : Nat} {lb : Array Value} {sf : Nat} {sb : Array Value} (A : Ask g lb sf sb enc k lt blk d w) (a b : Nat) (hab : a ≤ b) (hb : b ≤ d.size) :
   Calls Try.prog 111 #[.agg #[.func (.func g) #[] lb, .func (.func sf) #[] sb], .int .i64 a, .int .i64 b] w fun e w' => e = .returned (.tuple #[]) ∧ ∃ d', PermIn a b d d' ∧ SortedIn lt a b d' ∧ SWK enc k w blk 0 d' w' := by
 have I := A.enter
 have hsm := A.small
 have eg := A.eg
 have hblt := A.blt
 clear A
 go_enter Try.func111, Try.ntmps111
 go_wp2
 unfold pairO at I
 generalize w.alloc (.cells #[.func (.func g) #[] lb, .func (.func sf) #[] sb] 139 (0, 0)) = w1 at *
 obtain ⟨B, hB⟩ : ∃ B, B = w.heap.size := ⟨_, rfl⟩
 rw [← hB] at I ⊢
 have HB : Hid (blk < w.heap.size) := hblt
 have HI : Hid (In g lb sf sb enc k lt blk B d w w1) := I
 clear hB hblt
 go_loopg [6, 7] (b + 1 - (a + 1)) (fun gg s6 s7 wr => ∃ (i : Nat) (dk : Array α), s6 = .int .i64 i ∧ b + 1 - i ≤ gg ∧ a + 1 ≤ i ∧ i ≤ b + 1 ∧ dk.size = d.size ∧ Hid (insOuter lt a b i dk = insOuter lt a b (a + 1) d) ∧ SWK enc k w1 blk 0 dk wr)
 case atStart => exact ⟨a + 1, d, by go_num, by omega, by omega, by omega, rfl, rfl, SWK.start I.ask.holds⟩
 case round =>
   obtain ⟨i, dk, rfl, hig, hai, hib, hds, hO1, hS⟩ := hrel
   by_cases hlt : i < b
   · go_wp2
     obtain ⟨wq, rfl⟩ : ∃ W, W = wr := ⟨wr, rfl⟩
     go_loopg [7] i (fun gg s7 wr => ∃ (j : Nat) (dj : Array α), s7 = .int .i64 j ∧ j ≤ gg ∧ a ≤ j ∧ j ≤ i ∧ dj.size = d.size ∧ Hid (insInner lt a j dj = insInner lt a i dk) ∧ SWK enc k w1 blk 0 dj wr)
     case atStart => exact ⟨i, dk, rfl, Nat.le_refl _, by omega, Nat.le_refl _, hds, rfl, hS⟩
     case round =>
       obtain ⟨j, dj, rfl, hjg, haj, hji, hdj, hI1, hS2⟩ := hrel
       obtain ⟨c0, c1⟩ := Now.at_ hS2 I
       have out : Hid (∀ (W : World), (j ≤ a ∨ lt dj[j]! dj[j - 1]! = false) → SWK enc k w1 blk 0 dj W → ∃ (i' : Nat) (dk' : Array α), Value.int .i64 ((i : Int) + 1) = .int .i64 (i' : Nat) ∧ b + 1 - i' ≤ b + 1 - (i + 1) ∧ a + 1 ≤ i' ∧ i' ≤ b + 1 ∧ dk'.size = d.size ∧ Hid (insOuter lt a b i' dk' = insOuter lt a b (a + 1) d) ∧ SWK enc k w1 blk 0 dk' W) := by
         intro W hs hW
         refine ⟨i + 1, dj, by go_num, by omega, by omega, by omega, hdj, ?_, hW⟩
         have h1 : insOuter lt a b i dk = insOuter lt a b (a + 1) d := hO1
         have h2 : insInner lt a j dj = insInner lt a i dk := hI1
         show insOuter lt a b (i + 1) dj = insOuter lt a b (a + 1) d
         rw [← h1, insOuter_go _ _ _ _ _ hlt, ← h2, insInner_stop _ _ _ _ hs]
       by_cases hja : a < j
       · have hl := I.less hS2 hdj (i := j) (j := j - 1) (by omega) (by omega)
         rw [show (((j - 1 : Nat) : Int)) = (j : Int) - 1 by omega] at hl
         cases hlv : lt dj[j]! dj[j - 1]! with
         | true =>
           rw [hlv] at hl
           have HLV : Hid (lt dj[j]! dj[j - 1]! = true) := hlv
           clear hlv hS hS2
           go_wp2_with (go_at_fn g; refine hl.mono ?_; rintro e w' ⟨rfl, hS3⟩; obtain ⟨c0, c1⟩ := Now.at_ hS3 I; obtain ⟨w2, hs, hS4⟩ := I.swap hS3 hdj (i := j) (j := j - 1) (by omega) (by omega); rw [show ((j - 1 : Nat) : Int) = (j : Int) - 1 by omega] at hs)
           go_roundg (j - 1)
           case measure => omega
           case rel =>
             refine ⟨j - 1, swp dj j (j - 1), by go_num, Nat.le_refl _, by omega, by omega, by rw [size_swp]; exact hdj, ?_, hS4⟩
             have h2 : insInner lt a j dj = insInner lt a i dk := hI1
             show insInner lt a (j - 1) (swp dj j (j - 1)) = insInner lt a i dk
             rw [← h2, insInner_go lt a j dj hja HLV]
         | false =>
           rw [hlv] at hl
           have HLV : Hid (lt dj[j]! dj[j - 1]! = false) := hlv
           clear hlv hS hS2
           go_wp2_with (go_at_fn g; refine hl.mono ?_; rintro e w' ⟨rfl, hS3⟩)
           go_roundg (b + 1 - (i + 1))
           case measure => omega
           case rel => exact out _ (Or.inr HLV) hS3
       · clear hS
         have HS2 : Hid (SWK enc k w1 blk 0 dj wr) := hS2
         clear hS2
         go_wp2
         go_roundg (b + 1 - (i + 1))
         case measure => omega
         case rel => exact out _ (Or.inl (by omega)) HS2
   · have HS : Hid (SWK enc k w1 blk 0 dk wr) := hS
     clear hS I
     go_wp2
     go_end0
     have I : In g lb sf sb enc k lt blk B d w w1 := HI
     have h1 : insOuter lt a b i dk = insOuter lt a b (a + 1) d := hO1
     rw [insOuter_stop _ _ _ _ _ hlt] at h1
     have h2 : dk = Sort.insertionSort lt d a b := h1
     obtain ⟨h3, h4⟩ := insertionSort_holds hO d a b hab hb
     rw [← h2] at h3 h4
     exact ⟨rfl, dk, h3, h4, swk_trans I.s1 HS HB hds⟩
end
end Go.Proofs.Ytcajncmjlmpkgaa

namespace Go.Proofs.Ytcajncmjlmpkgaa
open Go Go.RowKit Go.Sort Go.Shelf
set_option linter.unusedVariables false
set_option linter.unusedSimpArgs false
set_option maxRecDepth 100000
section
variable {α : Type} [Inhabited α] {enc : α → List Value} {k : Nat} {w W W' : World} {blk size : Nat} {d dk d' : Array α} {lt : α → α → Bool}
inductive RunsFrom (lt : α → α → Bool) (bs n : Nat) (d : Array α) : Nat → Prop
 | stop {a : Nat} (h : n ≤ a) : RunsFrom lt bs n d a
 | cons {a : Nat} (h : SortedIn lt a (min (a + bs) n) d) (r : RunsFrom lt bs n d (a + bs)) : RunsFrom lt bs n d a
inductive RunsTo (lt : α → α → Bool) (bs : Nat) (d : Array α) : Nat → Prop
 | zero : RunsTo lt bs d 0
 | snoc {a : Nat} (r : RunsTo lt bs d a) (h : SortedIn lt a (a + bs) d) : RunsTo lt bs d (a + bs)
theorem RunsTo.join {bs n a : Nat} (h : RunsTo lt bs d a) (ha : a ≤ n) (r : RunsFrom lt bs n d a) : RunsFrom lt bs n d 0 := by
 induction h with
 | zero => exact r
 | snoc h1 h2 ih =>
   refine ih (by omega) (.cons ?_ r)
   rw [Nat.min_eq_left ha]; exact h2
theorem RunsTo.keep {bs a : Nat} {d d1 : Array α} (h : RunsTo lt bs d a) (k : ∀ i, i < a → d1[i]! = d[i]!) : RunsTo lt bs d1 a := by
 induction h with
 | zero => exact .zero
 | snoc h1 h2 ih => exact .snoc (ih fun i hi => k i (by omega)) (sorted_keep h2 fun i _ hi => k i hi)
theorem RunsFrom.keep {bs n a : Nat} {d d1 : Array α} (h : RunsFrom lt bs n d a) (k : ∀ i, a ≤ i → d1[i]! = d[i]!) : RunsFrom lt bs n d1 a := by
 induction h with
 | stop h => exact .stop h
 | cons h r ih => exact .cons (sorted_keep h fun i hi _ => k i hi) (ih fun i hi => k i (by omega))
theorem RunsFrom.head {bs n a : Nat} (h : RunsFrom lt bs n d a) : SortedIn lt a (min (a + bs) n) d := by
 cases h with
 | stop h => intro i j hi hij hj; omega
 | cons h r => exact h
theorem RunsFrom.tail {bs n a : Nat} (h : RunsFrom lt bs n d a) : RunsFrom lt bs n d (a + bs) := by
 cases h with
 | stop h => exact .stop (by omega)
 | cons h r => exact r
theorem sorted_whole {a n : Nat} {bs : Nat} (h : SortedIn lt a n d) (hn : n ≤ a + bs) : RunsFrom lt bs n d a := .cons (by rw [Nat.min_eq_right hn]; exact h) (.stop hn)
set_option maxHeartbeats 8000000 in
theorem stable_w (hO : SWO lt) {g : Nat} {lb : Array Value} {sf : Nat} {sb : Array Value} (A : Ask g lb sf sb enc k lt blk d w) (n : Nat) (hn : n = d.size) (hsm : n ≤ 1000000000) :
   Calls Try.prog 96 #[.agg #[.func (.func g) #[] lb, .func (.func sf) #[] sb], .int .i64 n] w fun e w' => e = .returned (.tuple #[]) ∧ ∃ d', PermIn 0 n d d' ∧ SortedIn lt 0 n d' ∧ SWK enc k w blk 0 d' w' := by
 have I := A.enter
 have eg := A.eg
 have hblt := A.blt
 clear A
 have hnd : n ≤ d.size ∧ d.size ≤ n := by omega
 clear hn
 have e111 : ∀ args w, (callFunc 111 args).run Try.prog w = .ok (.enter 111 args) w := enters_of Try.func111 (by kernel_rfl) rfl
 clear e111
 go_enter Try.func96, Try.ntmps96
 go_wp2
 unfold pairO at I
 generalize w.alloc (.cells #[.func (.func g) #[] lb, .func (.func sf) #[] sb] 139 (0, 0)) = w1 at *
 obtain ⟨B, hB⟩ : ∃ B, B = w.heap.size := ⟨_, rfl⟩
 rw [← hB] at I ⊢
 have HB : Hid (blk < w.heap.size) := hblt
 clear hB hblt
 have hins : Hid (∀ (W : World) (D : Array α) (a b : Nat), a ≤ b → b ≤ n → D.size = d.size → SWK enc k w1 blk 0 D W → Calls Try.prog 111 #[.agg #[.func (.func g) #[] lb, .func (.func sf) #[] sb], .int .i64 a, .int .i64 b] W fun r w' => r = .returned (.tuple #[]) ∧ ∃ d', PermIn a b D d' ∧ SortedIn lt a b d' ∧ SWK enc k w1 blk 0 d' w') := by
   intro W D a b h0 h1 h2 h3
   refine (insertion_w hO (I.ask.next h3 h2) a b h0 (by omega)).mono ?_
   rintro r w' ⟨rfl, d', h6, h7, h8⟩
   exact ⟨rfl, d', h6, h7, swk_trans h3 h8 I.ask.blt h6.1⟩
 have hsym : Hid (∀ (W : World) (D : Array α) (a m b : Nat), a < m → m < b → b ≤ n → D.size = d.size → SWK enc k w1 blk 0 D W → SortedIn lt a m D → SortedIn lt m b D → Calls Try.prog 112 #[.agg #[.func (.func g) #[] lb, .func (.func sf) #[] sb], .int .i64 a, .int .i64 m, .int .i64 b] W fun r w' => r = .returned (.tuple #[]) ∧ ∃ d', PermIn a b D d' ∧ SortedIn lt a b d' ∧ SWK enc k w1 blk 0 d' w') := by
   intro W D a m b h0 h1 hbn h2 h3 h4 h5
   refine (sym_w hO (b - a) a m b D W (Nat.le_refl _) h0 h1 (by omega) (I.ask.next h3 h2) h4 h5).mono ?_
   rintro r w' ⟨rfl, d', h6, h7, h8⟩
   exact ⟨rfl, d', h6, h7, swk_trans h3 h8 I.ask.blt h6.1⟩
 go_loopg [5, 6] n (fun gg s5 s6 wr => ∃ (a b : Nat) (dk : Array α), s5 = .int .i64 a ∧ s6 = .int .i64 b ∧ b ≤ a + 20 ∧ a + 20 ≤ b ∧ a ≤ n ∧ n - a ≤ gg ∧ Hid (RunsTo lt 20 dk a ∧ PermIn 0 n d dk) ∧ SWK enc k w1 blk 0 dk wr)
 case atStart => exact ⟨0, 20, d, rfl, rfl, by omega, by omega, by omega, by omega, ⟨.zero, permIn_refl _ _ _⟩, SWK.start I.ask.holds⟩
 case round =>
   obtain ⟨a, b, dk, rfl, rfl, hab1, hab2, han, hag, hR, hS⟩ := hrel
   obtain ⟨c0, c1⟩ := Now.at_ hS I
   have hds : dk.size = d.size := (show _ ∧ _ from hR).2.1
   by_cases hbn : b ≤ n
   · have hc := hins wr dk a b (by omega) hbn hds hS
     go_wp2_with (go_at_call 111; (with_reducible refine hc.mono ?_); rintro _ w2 ⟨rfl, d1, hP, hs, hS1⟩; obtain ⟨c0, c1⟩ := Now.at_ hS1 I)
     go_roundg (n - b)
     case measure => omega
     case rel =>
       obtain ⟨h1, h2⟩ := (show _ ∧ _ from hR)
       have e : b = a + 20 := by omega
       refine ⟨b, b + 20, d1, rfl, by go_num, by omega, by omega, hbn, Nat.le_refl _, ⟨?_, permIn_trans _ _ _ _ _ h2 (permIn_mono _ _ _ _ _ _ (Nat.zero_le _) hbn (by omega) hP)⟩, hS1⟩
       subst e
       exact .snoc (h1.keep fun i hi => hP.2.1 i (.inl hi)) hs
   · have hc := hins wr dk a n han (Nat.le_refl _) hds hS
     go_wp2_with (go_at_call 111; (with_reducible refine hc.mono ?_); rintro _ w2 ⟨rfl, d1, hP, hs, hS1⟩; obtain ⟨c0, c1⟩ := Now.at_ hS1 I)
     have HF : Hid (RunsFrom lt 20 n d1 0 ∧ PermIn 0 n d d1) := by
       obtain ⟨h1, h2⟩ := (show _ ∧ _ from hR)
       exact ⟨(h1.keep fun i hi => hP.2.1 i (.inl hi)).join han (sorted_whole hs (by omega)), permIn_trans _ _ _ _ _ h2 (permIn_mono _ _ _ _ _ _ (Nat.zero_le _) (Nat.le_refl _) (by omega) hP)⟩
     clear hR hP hs hds hS hc
     go_loopg [4, 5, 6, 7] n (fun gg s4 s5 s6 s7 wr => ∃ (bs : Nat) (dk : Array α), s4 = .int .i64 bs ∧ n - bs ≤ gg ∧ 0 < bs ∧ bs ≤ 2 * n + 20 ∧ Hid (RunsFrom lt bs n dk 0 ∧ PermIn 0 n d dk) ∧ SWK enc k w1 blk 0 dk wr)
     case atStart => exact ⟨20, d1, rfl, by omega, by omega, by omega, HF, hS1⟩
     case round =>
       obtain ⟨bs, dk, rfl, hbg, hb0, hb2, hR, hS⟩ := hrel
       clear hS1 HF c0 c1
       obtain ⟨c0, c1⟩ := Now.at_ hS I
       by_cases hlt : bs < n
       · go_wp2
         obtain ⟨wq, rfl⟩ : ∃ W, W = wr := ⟨wr, rfl⟩
         go_loopg [5, 6] n (fun gg s5 s6 wr => ∃ (a b : Nat) (dk : Array α), s5 = .int .i64 a ∧ s6 = .int .i64 b ∧ b ≤ a + 2 * bs ∧ a + 2 * bs ≤ b ∧ a ≤ n ∧ n - a ≤ gg ∧ Hid (RunsTo lt (2 * bs) dk a ∧ RunsFrom lt bs n dk a ∧ PermIn 0 n d dk) ∧ SWK enc k w1 blk 0 dk wr)
         case atStart =>
           obtain ⟨h1, h2⟩ := (show _ ∧ _ from hR)
           exact ⟨0, 2 * bs, dk, rfl, by go_num, by omega, by omega, by omega, by omega, ⟨.zero, h1, h2⟩, hS⟩
         case round =>
           clear hR hS c0 c1
           obtain ⟨a, b, dk, rfl, rfl, hab1, hab2, han, hag, hR, hS⟩ := hrel
           obtain ⟨c0, c1⟩ := Now.at_ hS I
           have hds : dk.size = d.size := (show _ ∧ _ ∧ _ from hR).2.2.1
           have hh1 : Hid (SortedIn lt a (min (a + bs) n) dk) := (show _ ∧ _ ∧ _ from hR).2.1.head
           have hh2 : Hid (SortedIn lt (a + bs) (min (a + bs + bs) n) dk) := (show _ ∧ _ ∧ _ from hR).2.1.tail.head
           have hh3 : Hid (RunsFrom lt bs n dk (a + bs + bs)) := (show _ ∧ _ ∧ _ from hR).2.1.tail.tail
           by_cases hbn : b ≤ n
           · have hc := hsym wr dk a (a + bs) b (by omega) (by omega) hbn hds hS (by
               have h : SortedIn lt a (min (a + bs) n) dk := hh1
               rwa [Nat.min_eq_left (by omega)] at h) (by
               have h : SortedIn lt (a + bs) (min (a + bs + bs) n) dk := hh2
               rwa [Nat.min_eq_left (by omega), show a + bs + bs = b by omega] at h)
             rw [show ((a + bs : Nat) : Int) = (a : Int) + bs by omega] at hc
             go_wp2_with (go_at_call 112; (with_reducible refine hc.mono ?_); rintro _ w2 ⟨rfl, d1, hP, hs, hS1⟩; obtain ⟨c0, c1⟩ := Now.at_ hS1 I)
             go_roundg (n - b)
             case measure => omega
             case rel =>
               obtain ⟨h1, h2, h3⟩ := (show _ ∧ _ ∧ _ from hR)
               have e : b = a + 2 * bs := by omega
               refine ⟨b, b + 2 * bs, d1, rfl, by go_num, by omega, by omega, hbn, Nat.le_refl _, ⟨?_, ?_, permIn_trans _ _ _ _ _ h3 (permIn_mono _ _ _ _ _ _ (Nat.zero_le _) hbn (by omega) hP)⟩, hS1⟩
               · subst e
                 exact .snoc (h1.keep fun i hi => hP.2.1 i (.inl hi)) hs
               · have h : RunsFrom lt bs n dk (a + bs + bs) := hh3
                 rw [show a + bs + bs = b by omega] at h
                 exact h.keep fun i hi => hP.2.1 i (.inr hi)
           · have hfin : Hid (∀ (W : World) (d1 : Array α), PermIn a n dk d1 → SortedIn lt a n d1 → RunsFrom lt (2 * bs) n d1 0 ∧ PermIn 0 n d d1) := by
               intro W d1 hP hs
               obtain ⟨h1, h2, h3⟩ := (show _ ∧ _ ∧ _ from hR)
               exact ⟨(h1.keep fun i hi => hP.2.1 i (.inl hi)).join han (sorted_whole hs (by omega)), permIn_trans _ _ _ _ _ h3 (permIn_mono _ _ _ _ _ _ (Nat.zero_le _) (Nat.le_refl _) (by omega) hP)⟩
             by_cases hmn : a + bs < n
             · have hc := hsym wr dk a (a + bs) n (by omega) hmn (Nat.le_refl _) hds hS (by
                 have h : SortedIn lt a (min (a + bs) n) dk := hh1
                 rwa [Nat.min_eq_left (by omega)] at h) (by
                 have h : SortedIn lt (a + bs) (min (a + bs + bs) n) dk := hh2
                 rwa [Nat.min_eq_right (by omega)] at h)
               rw [show ((a + bs : Nat) : Int) = (a : Int) + bs by omega] at hc
               go_wp2_with (go_at_call 112; (with_reducible refine hc.mono ?_); rintro _ w2 ⟨rfl, d1, hP, hs, hS1⟩; obtain ⟨c0, c1⟩ := Now.at_ hS1 I)
               go_roundg (n - 2 * bs)
               case measure => omega
               case rel => exact ⟨2 * bs, d1, by go_num, Nat.le_refl _, by omega, by omega, hfin w2 d1 hP hs, hS1⟩
             · have HS : Hid (SWK enc k w1 blk 0 dk wr) := hS
               clear hS
               go_wp2
               go_roundg (n - 2 * bs)
               case measure => omega
               case rel =>
                 refine ⟨2 * bs, dk, by go_num, Nat.le_refl _, by omega, by omega, hfin wr dk (permIn_refl _ _ _) ?_, HS⟩
                 have h : SortedIn lt a (min (a + bs) n) dk := hh1
                 rwa [Nat.min_eq_right (by omega)] at h
       · have HS : Hid (SWK enc k w1 blk 0 dk wr) := hS
         have HI : Hid (SWK enc k w blk 0 d w1) := I.s1
         clear hS
         go_wp2
         go_end0
         obtain ⟨h1, h2⟩ := (show _ ∧ _ from hR)
         have h3 := h1.head
         rw [Nat.zero_add, Nat.min_eq_right (by omega)] at h3
         exact ⟨rfl, dk, h2, h3, swk_trans HI HS HB h2.1⟩
end
end Go.Proofs.Ytcajncmjlmpkgaa
