/- sort; sort; sort. Own work; no condition. -/
import Derived.Test.YtcajncmjlmpkgaaProg
import Derived.Test.YtcajncmjlmpkgaaPa4
import Derived.Shelf.SlSortFuncK.SWK
import Derived.Deep.LoopGhost
import Derived.Below
namespace Go.Proofs.Ytcajncmjlmpkgaa
open Go Go.RowKit Go.Sort Go.Shelf
set_option linter.unusedVariables false
set_option linter.unusedSimpArgs false
set_option maxRecDepth 100000
section
variable {α : Type} [Inhabited α] {enc : α → List Value} {k : Nat} {w W W' : World} {blk size : Nat} {d dk d' : Array α}
theorem cell_lt_sb {w : World} {b o : Nat} {v : Value} (h : w.cell? ⟨b, o, none⟩ = some v) : b < w.heap.size := by
 rcases Nat.lt_or_ge b w.heap.size with g | g
 · exact g
 · simp [World.cell?, Array.getElem?_eq_none g] at h
theorem swk_grow (h : SWK enc k w blk 0 dk W) (q : Nat) (os : Array Obj) : SWK enc k w blk 0 dk (grow (W.drewN q) os) := by
 obtain ⟨n, os', e⟩ := h.drewN q
 rw [e]
 exact ⟨n, os' ++ os, by unfold sortWorldK; rw [grow_grow]⟩
theorem swk_trans (h : SWK enc k w blk 0 dk W) (h' : SWK enc k W blk 0 d' W') (hblk : blk < w.heap.size) (hs : d'.size = dk.size) : SWK enc k w blk 0 d' W' := by
 obtain ⟨n, os, rfl⟩ := h'
 exact h.on hblk n d' os hs
theorem swk_cell (h : SWK enc k w blk 0 dk W) {b o : Nat} {v : Value} (hv : w.cell? ⟨b, o, none⟩ = some v) (hb : b ≠ blk) : W.cell? ⟨b, o, none⟩ = some v := by
 obtain ⟨n, os, rfl⟩ := h
 have hlt := cell_lt_sb hv
 unfold sortWorldK
 rw [cell?_grow _ _ _ (by rw [size_putRowK]; exact hlt), cell?_putRowK_other enc k _ blk 0 _ _ (by exact hb)]
 exact hv
def LessG (P : Program) (g : Nat) (lb : Array Value) (enc : α → List Value) (k : Nat) (lt : α → α → Bool) (blk size : Nat) (w : World) : Prop :=
 ∀ (dk : Array α) (W : World), dk.size = size → SWK enc k w blk 0 dk W → ∀ i j : Nat, i < size → j < size →
   Calls P g (#[.int .i64 i, .int .i64 j] ++ lb) W fun e w' => e = .returned (.bool (lt dk[i]! dk[j]!)) ∧ ∃ q os, w' = grow (W.drewN q) os
theorem LessG.on {P : Program} {g : Nat} {lb : Array Value} {lt : α → α → Bool} (h : LessG P g lb enc k lt blk size w) (hblk : blk < w.heap.size) (hW : SWK enc k w blk 0 dk W) (hs : dk.size = size) : LessG P g lb enc k lt blk size W :=
 fun dk' W' hs' hW' i j hi hj => h dk' W' hs' (swk_trans hW hW' hblk (hs'.trans hs.symm)) i j hi hj
set_option maxHeartbeats 2000000 in
theorem swapRange_w (hk : ∀ x, (enc x).length = k) (lv : Value) (sf : Nat) (sb : Array Value) (a b n : Nat) (hswap : SwapSwapsK Try.prog sf sb enc k blk 0 d.size)
   (hH : HoldsK enc k w blk 0 d) (hblk : blk < w.heap.size) (hab : a + n ≤ b) (hb : b + n ≤ d.size) (hsz : d.size < 4611686018427387904) :
   Calls Try.prog 128 #[.agg #[lv, .func (.func sf) #[] sb], .int .i64 a, .int .i64 b, .int .i64 n] w fun e w' => e = .returned (.tuple #[]) ∧ ∃ d', SwR a b n d d' ∧ SWK enc k w blk 0 d' w' := by
 have hS1 : SWK enc k w blk 0 d (w.alloc (.cells #[lv, .func (.func sf) #[] sb] 139)) := (SWK.start hH).alloc _
 have b1 : (w.alloc (.cells #[lv, .func (.func sf) #[] sb] 139)).cell? ⟨w.heap.size, 1, none⟩ = some (.func (.func sf) #[] sb) := by simp
 have hlt1 : blk < (w.alloc (.cells #[lv, .func (.func sf) #[] sb] 139)).heap.size := hS1.lt hblk
 have hH1 := hS1.holds hblk hH rfl
 have hS0 := SWK.start hH1
 have hne : w.heap.size ≠ blk := by omega
 obtain ⟨hv0, hp0⟩ := SwR.start a b d n
 go_enter Try.func128, Try.ntmps128
 go_wp2
 generalize w.alloc (.cells #[lv, .func (.func sf) #[] sb] 139) = w1 at *
 go_loopg [8] n (fun g s8 wr => ∃ (i : Nat) (dk : Array α), s8 = .int .i64 i ∧ i + g = n ∧ Via d dk (swr a b i) ∧ PermIn a (b + n) d dk ∧ SWK enc k w1 blk 0 dk wr)
 case atStart => exact ⟨0, d, rfl, by omega, hv0, hp0, hS0⟩
 case round =>
   obtain ⟨i, dk, rfl, hig, hv, hp, hS⟩ := hrel
   have c1 := swk_cell hS b1 hne
   by_cases hlt : i < n
   · have hHk := hS.holds hlt1 hH1 hv.size
     have hs := hswap wr dk hHk hv.size (a + i) (b + i) (by omega) (by omega)
     have hSw := hS.swap hk hlt1 (a + i) (b + i) (by have := hv.size; omega) (by have := hv.size; omega)
     simp only [Nat.zero_add] at hs hSw
     have HH : Hid (Via d (swp dk (a + i) (b + i)) (swr a b (i + 1)) ∧ PermIn a (b + n) d (swp dk (a + i) (b + i))) := SwR.step hv hp hlt hab hb
     have HS : Hid (SWK enc k w1 blk 0 (swp dk (a + i) (b + i)) ((wr.setCells blk ((a + i) * k) (enc dk[b + i]!)).setCells blk ((b + i) * k) (enc dk[a + i]!))) := hSw
     clear hSw hHk hS hv hp hS1 hS0 hv0 hp0 hH hH1 hswap
     have e1 : (((a + i : Nat)) : Int) = (a : Int) + i := by omega
     have e2 : (((b + i : Nat)) : Int) = (b : Int) + i := by omega
     rw [e1, e2] at hs
     generalize ((wr.setCells blk ((a + i) * k) (enc dk[b + i]!)).setCells blk ((b + i) * k) (enc dk[a + i]!)) = w2 at *
     go_wp2
     go_roundg (n - (i + 1))
     case measure => omega
     case rel =>
       obtain ⟨h1, h2⟩ := HH
       exact ⟨i + 1, _, by go_num, by omega, h1, h2, HS⟩
   · have hi : i = n := by omega
     subst hi
     have HH : Hid (Via d dk (swr a b i) ∧ PermIn a (b + i) d dk ∧ SWK enc k w1 blk 0 dk wr) := ⟨hv, hp, hS⟩
     clear hS hv hp hS0 hv0 hp0 hH hH1 hswap
     go_wp2
     go_end0
     obtain ⟨h1, h2, h3⟩ := HH
     exact ⟨rfl, dk, ⟨h1, h2⟩, swk_trans hS1 h3 hblk h1.size⟩
set_option maxHeartbeats 4000000 in
theorem rotate_w (hk : ∀ x, (enc x).length = k) (lv : Value) (sf : Nat) (sb : Array Value) (a m b : Nat) (hswap : SwapSwapsK Try.prog sf sb enc k blk 0 d.size)
   (hH : HoldsK enc k w blk 0 d) (hblk : blk < w.heap.size) (ham : a < m) (hmb : m < b) (hb : b ≤ d.size) (hsz : d.size < 4611686018427387904) :
   Calls Try.prog 122 #[.agg #[lv, .func (.func sf) #[] sb], .int .i64 a, .int .i64 m, .int .i64 b] w fun e w' => e = .returned (.tuple #[]) ∧ ∃ d', Rot a m b d d' ∧ SWK enc k w blk 0 d' w' := by
 have hS1 : SWK enc k w blk 0 d (w.alloc (.cells #[lv, .func (.func sf) #[] sb] 139)) := (SWK.start hH).alloc _
 have b0 : (w.alloc (.cells #[lv, .func (.func sf) #[] sb] 139)).cell? ⟨w.heap.size, 0, none⟩ = some lv := by simp
 have b1 : (w.alloc (.cells #[lv, .func (.func sf) #[] sb] 139)).cell? ⟨w.heap.size, 1, none⟩ = some (.func (.func sf) #[] sb) := by simp
 have hlt1 : blk < (w.alloc (.cells #[lv, .func (.func sf) #[] sb] 139)).heap.size := hS1.lt hblk
 have hH1 := hS1.holds hblk hH rfl
 have hS0 := SWK.start hH1
 have hne : w.heap.size ≠ blk := by omega
 have hr0 := RotTo.start d ham hmb
 have hcall : ∀ (wr : World) (dk : Array α) (a b n : Nat), dk.size = d.size → SWK enc k (w.alloc (.cells #[lv, .func (.func sf) #[] sb] 139)) blk 0 dk wr → a + n ≤ b → b + n ≤ d.size →
     Calls Try.prog 128 #[.agg #[lv, .func (.func sf) #[] sb], .int .i64 a, .int .i64 b, .int .i64 n] wr fun e w' => e = .returned (.tuple #[]) ∧ ∃ d', SwR a b n dk d' ∧ SWK enc k (w.alloc (.cells #[lv, .func (.func sf) #[] sb] 139)) blk 0 d' w' := by
   intro wr dk a b n hs hS h1 h2
   refine (swapRange_w (d := dk) hk lv sf sb a b n (hs ▸ hswap) (hS.holds hlt1 hH1 hs) (hS.lt hlt1) h1 (by omega) (by omega)).mono ?_
   rintro e w' ⟨rfl, d', h3, h4⟩
   exact ⟨rfl, d', h3, swk_trans hS h4 hlt1 h3.via.size⟩
 clear hswap hH
 go_enter Try.func122, Try.ntmps122
 go_wp2
 generalize w.alloc (.cells #[lv, .func (.func sf) #[] sb] 139) = w1 at *
 go_loopg [8, 9] (b - a) (fun g s8 s9 wr => ∃ (i j : Nat) (dk : Array α), s8 = .int .i64 i ∧ s9 = .int .i64 j ∧ i + j = g ∧ RotTo a m b d i j dk ∧ SWK enc k w1 blk 0 dk wr)
 case atStart => exact ⟨m - a, b - m, d, by go_num, by go_num, by omega, hr0, hS0⟩
 case round =>
   obtain ⟨i, j, dk, rfl, rfl, hig, hr, hS⟩ := hrel
   have c0 := swk_cell hS b0 hne
   have c1 := swk_cell hS b1 hne
   have hpi := hr.pi; have hpj := hr.pj; have hlo := hr.lo; have hhi := hr.hi; have hrs := hr.size
   have HR : Hid (RotTo a m b d i j dk) := hr
   have HS1 : Hid (SWK enc k w blk 0 d w1) := hS1
   by_cases hij : i = j
   · subst hij
     have hc := hcall wr dk (m - i) m i hrs hS (by omega) (by omega)
     rw [show ((m - i : Nat) : Int) = (m : Int) - i by omega] at hc
     clear hcall hr hS hS1 hS0 hr0 hH1
     go_wp2_with (go_at_call 128; (with_reducible refine hc.mono ?_); rintro e w3 ⟨rfl, d', h3, h4⟩)
     go_end0
     have hr : RotTo a m b d i i dk := HR
     have hR := hr.fin hb h3
     exact ⟨rfl, d', hR, swk_trans HS1 h4 hblk (h3.via.size.trans hrs)⟩
   · by_cases hlt : j < i
     · have hc := hcall wr dk (m - i) m j hrs hS (by omega) (by omega)
       rw [show ((m - i : Nat) : Int) = (m : Int) - i by omega] at hc
       clear hcall hr hS hS1 hS0 hr0 hH1
       go_wp2_with (go_at_call 128; (with_reducible refine hc.mono ?_); rintro e w3 ⟨rfl, d', h3, h4⟩)
       go_roundg (i - j + j)
       case measure => omega
       case rel =>
         have hr : RotTo a m b d i j dk := HR
         exact ⟨i - j, j, d', by go_num, rfl, rfl, hr.left hb hlt h3, h4⟩
     · have hc := hcall wr dk (m - i) (m + j - i) i hrs hS (by omega) (by omega)
       rw [show ((m - i : Nat) : Int) = (m : Int) - i by omega, show ((m + j - i : Nat) : Int) = (m : Int) + j - i by omega] at hc
       clear hcall hr hS hS1 hS0 hr0 hH1
       go_wp2_with (go_at_call 128; (with_reducible refine hc.mono ?_); rintro e w3 ⟨rfl, d', h3, h4⟩)
       go_roundg (i + (j - i))
       case measure => omega
       case rel =>
         have hr : RotTo a m b d i j dk := HR
         exact ⟨i, j - i, d', rfl, by go_num, rfl, hr.right hb (by omega) h3, h4⟩
end
end Go.Proofs.Ytcajncmjlmpkgaa

namespace Go.Proofs.Ytcajncmjlmpkgaa
open Go Go.RowKit Go.Sort Go.Shelf
set_option linter.unusedVariables false
set_option linter.unusedSimpArgs false
set_option maxRecDepth 100000
section
variable {α : Type} [Inhabited α] {enc : α → List Value} {k : Nat} {w W W' : World} {blk size : Nat} {d dk d' : Array α} {lt : α → α → Bool}
theorem LessG.at_ {P : Program} {g : Nat} {lb : Array Value} (h : LessG P g lb enc k lt blk size w) (hs : dk.size = size) (hW : SWK enc k w blk 0 dk W) {i j : Nat} (hi : i < size) (hj : j < size) :
   Calls P g (#[.int .i64 i, .int .i64 j] ++ lb) W fun e w' => e = .returned (.bool (lt dk[i]! dk[j]!)) ∧ SWK enc k w blk 0 dk w' :=
 (h dk W hs hW i j hi hj).mono fun _ _ ⟨e, q, os, h⟩ => ⟨e, h ▸ swk_grow hW q os⟩
abbrev pairO (g : Nat) (lb : Array Value) (sf : Nat) (sb : Array Value) : Obj := .cells #[.func (.func g) #[] lb, .func (.func sf) #[] sb] 139 (0, 0)
structure Ask (g : Nat) (lb : Array Value) (sf : Nat) (sb : Array Value) (enc : α → List Value) (k : Nat) (lt : α → α → Bool) (blk : Nat) (d : Array α) (w : World) : Prop where
 len : ∀ x, (enc x).length = k
 eg : ∀ args w, (callFunc g args).run Try.prog w = .ok (.enter g args) w
 less : LessG Try.prog g lb enc k lt blk d.size w
 swap : SwapSwapsK Try.prog sf sb enc k blk 0 d.size
 holds : HoldsK enc k w blk 0 d
 blt : blk < w.heap.size
 small : d.size < 4611686018427387904
theorem Ask.next {g : Nat} {lb : Array Value} {sf : Nat} {sb : Array Value} (h : Ask g lb sf sb enc k lt blk d w) (hS : SWK enc k w blk 0 dk W) (hs : dk.size = d.size) : Ask g lb sf sb enc k lt blk dk W :=
 ⟨h.len, h.eg, hs ▸ h.less.on h.blt hS hs, hs ▸ h.swap, hS.holds h.blt h.holds hs, hS.lt h.blt, hs ▸ h.small⟩
structure In (g : Nat) (lb : Array Value) (sf : Nat) (sb : Array Value) (enc : α → List Value) (k : Nat) (lt : α → α → Bool) (blk B : Nat) (d : Array α) (w w1 : World) : Prop where
 ask : Ask g lb sf sb enc k lt blk d w1
 s1 : SWK enc k w blk 0 d w1
 b0 : w1.cell? ⟨B, 0, none⟩ = some (.func (.func g) #[] lb)
 b1 : w1.cell? ⟨B, 1, none⟩ = some (.func (.func sf) #[] sb)
 ne : B ≠ blk
theorem Ask.enter {g : Nat} {lb : Array Value} {sf : Nat} {sb : Array Value} (h : Ask g lb sf sb enc k lt blk d w) : In g lb sf sb enc k lt blk w.heap.size d w (w.alloc (pairO g lb sf sb)) :=
 have hS : SWK enc k w blk 0 d (w.alloc (pairO g lb sf sb)) := (SWK.start h.holds).alloc _
 ⟨h.next hS rfl, hS, by simp, by simp, by have := h.blt; omega⟩
structure Now (g : Nat) (lb : Array Value) (sf : Nat) (sb : Array Value) (enc : α → List Value) (k : Nat) (blk B : Nat) (dk : Array α) (w1 wr : World) : Prop where
 s : SWK enc k w1 blk 0 dk wr
theorem Now.at_ {g : Nat} {lb : Array Value} {sf : Nat} {sb : Array Value} {B : Nat} {w1 wr : World} (h : SWK enc k w1 blk 0 dk wr) (I : In g lb sf sb enc k lt blk B d w w1) :
   wr.cell? ⟨B, 0, none⟩ = some (.func (.func g) #[] lb) ∧ wr.cell? ⟨B, 1, none⟩ = some (.func (.func sf) #[] sb) := ⟨swk_cell h I.b0 I.ne, swk_cell h I.b1 I.ne⟩
theorem In.less {g : Nat} {lb : Array Value} {sf : Nat} {sb : Array Value} {B : Nat} {w1 wr : World} (I : In g lb sf sb enc k lt blk B d w w1) (h : SWK enc k w1 blk 0 dk wr) (hs : dk.size = d.size) {i j : Nat} (hi : i < d.size) (hj : j < d.size) :
   Calls Try.prog g (#[.int .i64 i, .int .i64 j] ++ lb) wr fun e w' => e = .returned (.bool (lt dk[i]! dk[j]!)) ∧ SWK enc k w1 blk 0 dk w' := I.ask.less.at_ hs h hi hj
theorem In.swap {g : Nat} {lb : Array Value} {sf : Nat} {sb : Array Value} {B : Nat} {w1 wr : World} (I : In g lb sf sb enc k lt blk B d w w1) (h : SWK enc k w1 blk 0 dk wr) (hs : dk.size = d.size) {i j : Nat} (hi : i < d.size) (hj : j < d.size) :
   ∃ w2, (callFunc sf (#[.int .i64 i, .int .i64 j] ++ sb)).run Try.prog wr = .ok (.value (.tuple #[])) w2 ∧ SWK enc k w1 blk 0 (swp dk i j) w2 := by
 have h1 := I.ask.swap wr dk (h.holds I.ask.blt I.ask.holds hs) hs i j hi hj
 have h2 := h.swap I.ask.len I.ask.blt i j (by omega) (by omega)
 simp only [Nat.zero_add] at h1 h2
 exact ⟨_, h1, h2⟩
set_option maxHeartbeats 4000000 in
theorem sym_left_w (hO : SWO lt) {g : Nat} {lb : Array Value} {sf : Nat} {sb : Array Value} (A : Ask g lb sf sb enc k lt blk d w) (a m b : Nat) (hm : m = a + 1) (hab : m ≤ b) (hb : b ≤ d.size) (hr : SortedIn lt m b d) :
   Calls Try.prog 112 #[.agg #[.func (.func g) #[] lb, .func (.func sf) #[] sb], .int .i64 a, .int .i64 m, .int .i64 b] w fun e w' => e = .returned (.tuple #[]) ∧ ∃ d', PermIn a b d d' ∧ SortedIn lt a b d' ∧ SWK enc k w blk 0 d' w' := by
 have I := A.enter
 have hsm := A.small
 have eg := A.eg
 have hblt := A.blt
 obtain ⟨hm1, hm2⟩ : m ≤ a + 1 ∧ a + 1 ≤ m := by omega
 have HM : Hid (m = a + 1) := hm
 clear A hm
 have hq : ((m : Int) - (a : Int) == 1) = true := by rw [beq_iff_eq]; omega
 go_enter Try.func112, Try.ntmps112
 go_wp2
 unfold pairO at I
 generalize w.alloc (.cells #[.func (.func g) #[] lb, .func (.func sf) #[] sb] 139 (0, 0)) = w1 at *
 obtain ⟨B, hB⟩ : ∃ B, B = w.heap.size := ⟨_, rfl⟩
 rw [← hB] at I ⊢
 have HB : Hid (blk < w.heap.size) := hblt
 clear hB hblt
 have HI : Hid (In g lb sf sb enc k lt blk B d w w1) := I
 have HR : Hid (SortedIn lt m b d) := hr
 clear hr
 go_loopg [8, 9, 10] (b - m) (fun gg s8 s9 s10 wr => ∃ (i j : Nat), s8 = .int .i64 i ∧ s9 = .int .i64 j ∧ j - i ≤ gg ∧ i ≤ j ∧ j ≤ b ∧ m ≤ i ∧ Hid (Cut1 (fun t => lt d[t]! d[a]!) m b i j) ∧ SWK enc k w1 blk 0 d wr)
 case atStart => exact ⟨m, b, rfl, rfl, by omega, by omega, by omega, Nat.le_refl _, ⟨Nat.le_refl _, hab, Nat.le_refl _, .inl rfl, .inl rfl⟩, SWK.start I.ask.holds⟩
 case round =>
   obtain ⟨i, j, rfl, rfl, hg, hij, hjb, hmi, hC, hS⟩ := hrel
   obtain ⟨c0, c1⟩ := Now.at_ hS I
   by_cases hlt : i < j
   · have hc := I.less hS rfl (i := (i + j) / 2) (j := a) (by omega) (by omega)
     rw [show (((i + j) / 2 : Nat) : Int) = ((i : Int) + (j : Int)) / 2 by omega] at hc
     cases hp : lt d[(i + j) / 2]! d[a]! <;> rw [hp] at hc
     · have HP : Hid (lt d[(i + j) / 2]! d[a]! = false) := hp
       clear hp hS I
       go_wp2_with (go_at_fn g; refine hc.mono ?_; rintro e w' ⟨rfl, hS2⟩)
       go_roundg ((i + j) / 2 - i)
       case measure => omega
       case rel =>
         have hC : Cut1 (fun t => lt d[t]! d[a]!) m b i j := hC
         exact ⟨i, (i + j) / 2, rfl, by go_num, Nat.le_refl _, by omega, by omega, hmi, ⟨hC.los, by omega, by omega, hC.low, .inr HP⟩, hS2⟩
     · have HP : Hid (lt d[(i + j) / 2]! d[a]! = true) := hp
       clear hp hS I
       go_wp2_with (go_at_fn g; refine hc.mono ?_; rintro e w' ⟨rfl, hS2⟩)
       go_roundg (j - ((i + j) / 2 + 1))
       case measure => omega
       case rel =>
         have hC : Cut1 (fun t => lt d[t]! d[a]!) m b i j := hC
         exact ⟨(i + j) / 2 + 1, j, by go_num, rfl, Nat.le_refl _, by omega, hjb, by omega, ⟨by omega, by omega, hC.rhi, .inr (by rw [Nat.add_sub_cancel]; exact HP), hC.high⟩, hS2⟩
   · have hje : j = i := by omega
     subst hje
     go_wp2
     obtain ⟨wq, hwq⟩ : ∃ W, W = wr := ⟨wr, rfl⟩
     subst hwq
     go_loopg [11] (j - a) (fun gg s11 wr => ∃ (t : Nat) (dk : Array α), s11 = .int .i64 t ∧ t + gg = j ∧ a ≤ t ∧ t < j ∧ Hid (Via d dk (rot a m (t + 1)) ∧ PermIn a b d dk) ∧ SWK enc k w1 blk 0 dk wr)
     case atStart => exact ⟨a, d, rfl, by omega, Nat.le_refl _, by omega, ⟨Via.refl d fun t _ => rot_id (.inr (by omega)) (by omega) (by omega), permIn_refl _ _ _⟩, hS⟩
     case round =>
       obtain ⟨t, dk, rfl, htg, hat, htj, hV, hS2⟩ := hrel
       obtain ⟨c0, c1⟩ := Now.at_ hS2 I
       have hds : dk.size = d.size := (show _ ∧ _ from hV).1.size
       by_cases hlt2 : t + 1 < j
       · obtain ⟨w2, hs, hS3⟩ := I.swap hS2 hds (i := t) (j := t + 1) (by omega) (by omega)
         rw [show ((t + 1 : Nat) : Int) = (t : Int) + 1 by omega] at hs
         clear hS2 hS I
         go_wp2
         go_roundg (j - (t + 1))
         case measure => omega
         case rel =>
           obtain ⟨h1, h2⟩ := (show _ ∧ _ from hV)
           have hm : m = a + 1 := HM
           subst hm
           exact ⟨t + 1, _, by go_num, by omega, by omega, by omega, move_right h1 h2 hat (by omega) hb, hS3⟩
       · have htj' : j = t + 1 := by omega
         subst htj'
         have HS2 : Hid (SWK enc k w1 blk 0 dk wr) := hS2
         clear hS2 hS I
         go_wp2
         (try simp only [Exit.inBlock, Exit.then]); refine bodyPost_ret (results_none rfl _ _ _) rfl ?_
         obtain ⟨h1, h2⟩ := (show _ ∧ _ from hV)
         have I : In g lb sf sb enc k lt blk B d w w1 := HI
         have hm : m = a + 1 := HM
         subst hm
         exact ⟨rfl, dk, h2, one_left hO hab hb HR hC h1, swk_trans I.s1 HS2 HB hds⟩
set_option maxHeartbeats 4000000 in
theorem sym_right_w (hO : SWO lt) {g : Nat} {lb : Array Value} {sf : Nat} {sb : Array Value} (A : Ask g lb sf sb enc k lt blk d w) (a m b : Nat) (ham : a + 2 ≤ m) (hm : b = m + 1) (hb : b ≤ d.size) (hr : SortedIn lt a m d) :
   Calls Try.prog 112 #[.agg #[.func (.func g) #[] lb, .func (.func sf) #[] sb], .int .i64 a, .int .i64 m, .int .i64 b] w fun e w' => e = .returned (.tuple #[]) ∧ ∃ d', PermIn a b d d' ∧ SortedIn lt a b d' ∧ SWK enc k w blk 0 d' w' := by
 have I := A.enter
 have hsm := A.small
 have eg := A.eg
 have hblt := A.blt
 obtain ⟨hm1, hm2⟩ : b ≤ m + 1 ∧ m + 1 ≤ b := by omega
 have HM : Hid (b = m + 1) := hm
 clear A hm
 have hq0 : ((m : Int) - (a : Int) == 1) = false := by rw [beq_eq_false_iff_ne]; omega
 have hq : ((b : Int) - (m : Int) == 1) = true := by rw [beq_iff_eq]; omega
 go_enter Try.func112, Try.ntmps112
 go_wp2
 unfold pairO at I
 generalize w.alloc (.cells #[.func (.func g) #[] lb, .func (.func sf) #[] sb] 139 (0, 0)) = w1 at *
 obtain ⟨B, hB⟩ : ∃ B, B = w.heap.size := ⟨_, rfl⟩
 rw [← hB] at I ⊢
 have HB : Hid (blk < w.heap.size) := hblt
 clear hB hblt
 have HI : Hid (In g lb sf sb enc k lt blk B d w w1) := I
 have HR : Hid (SortedIn lt a m d) := hr
 clear hr
 go_loopg [12, 13, 14] (m - a) (fun gg s8 s9 s10 wr => ∃ (i j : Nat), s8 = .int .i64 i ∧ s9 = .int .i64 j ∧ j - i ≤ gg ∧ i ≤ j ∧ j ≤ m ∧ a ≤ i ∧ Hid (Cut1 (fun t => !lt d[m]! d[t]!) a m i j) ∧ SWK enc k w1 blk 0 d wr)
 case atStart => exact ⟨a, m, rfl, rfl, by omega, by omega, by omega, Nat.le_refl _, ⟨Nat.le_refl _, by omega, Nat.le_refl _, .inl rfl, .inl rfl⟩, SWK.start I.ask.holds⟩
 case round =>
   obtain ⟨i, j, rfl, rfl, hg, hij, hjb, hmi, hC, hS⟩ := hrel
   obtain ⟨c0, c1⟩ := Now.at_ hS I
   by_cases hlt : i < j
   · have hc := I.less hS rfl (i := m) (j := (i + j) / 2) (by omega) (by omega)
     rw [show (((i + j) / 2 : Nat) : Int) = ((i : Int) + (j : Int)) / 2 by omega] at hc
     cases hp : lt d[m]! d[(i + j) / 2]! <;> rw [hp] at hc
     · have HP : Hid (lt d[m]! d[(i + j) / 2]! = false) := hp
       clear hp hS I
       go_wp2_with (go_at_fn g; refine hc.mono ?_; rintro e w' ⟨rfl, hS2⟩)
       go_roundg (j - ((i + j) / 2 + 1))
       case measure => omega
       case rel =>
         have hC : Cut1 (fun t => !lt d[m]! d[t]!) a m i j := hC
         have HP : lt d[m]! d[(i + j) / 2]! = false := HP
         exact ⟨(i + j) / 2 + 1, j, by go_num, rfl, Nat.le_refl _, by omega, hjb, by omega, ⟨by omega, by omega, hC.rhi, .inr (by simp only [Nat.add_sub_cancel, HP, Bool.not_false]), hC.high⟩, hS2⟩
     · have HP : Hid (lt d[m]! d[(i + j) / 2]! = true) := hp
       clear hp hS I
       go_wp2_with (go_at_fn g; refine hc.mono ?_; rintro e w' ⟨rfl, hS2⟩)
       go_roundg ((i + j) / 2 - i)
       case measure => omega
       case rel =>
         have hC : Cut1 (fun t => !lt d[m]! d[t]!) a m i j := hC
         have HP : lt d[m]! d[(i + j) / 2]! = true := HP
         exact ⟨i, (i + j) / 2, rfl, by go_num, Nat.le_refl _, by omega, by omega, hmi, ⟨hC.los, by omega, by omega, hC.low, .inr (by simp only [HP, Bool.not_true])⟩, hS2⟩
   · have hje : j = i := by omega
     subst hje
     go_wp2
     obtain ⟨wq, hwq⟩ : ∃ W, W = wr := ⟨wr, rfl⟩
     subst hwq
     go_loopg [15] (m - j) (fun gg s11 wr => ∃ (t : Nat) (dk : Array α), s11 = .int .i64 t ∧ t = j + gg ∧ j ≤ t ∧ t ≤ m ∧ Hid (Via d dk (rot t m (m + 1)) ∧ PermIn a (m + 1) d dk) ∧ SWK enc k w1 blk 0 dk wr)
     case atStart => exact ⟨m, d, rfl, by omega, by omega, by omega, ⟨Via.refl d fun t _ => rot_id (.inl rfl) (by omega) (by omega), permIn_refl _ _ _⟩, hS⟩
     case round =>
       obtain ⟨t, dk, rfl, htg, hat, htj, hV, hS2⟩ := hrel
       obtain ⟨c0, c1⟩ := Now.at_ hS2 I
       have hds : dk.size = d.size := (show _ ∧ _ from hV).1.size
       by_cases hlt2 : j < t
       · obtain ⟨w2, hs, hS3⟩ := I.swap hS2 hds (i := t) (j := t - 1) (by omega) (by omega)
         rw [show ((t - 1 : Nat) : Int) = (t : Int) - 1 by omega] at hs
         obtain ⟨ht1, ht2⟩ : t ≤ j + gk ∧ j + gk ≤ t := by omega
         clear hS2 hS I htg
         go_wp2
         go_roundg (t - 1 - j)
         case measure => omega
         case rel =>
           obtain ⟨h1, h2⟩ := (show _ ∧ _ from hV)
           have hm : b = m + 1 := HM
           subst hm
           exact ⟨t - 1, _, by go_num, by omega, by omega, by omega, move_left h1 h2 (by omega) htj hb, hS3⟩
       · have htj' : t = j := by omega
         have hg0 : gk = 0 := by omega
         subst htj'
         have HS2 : Hid (SWK enc k w1 blk 0 dk wr) := hS2
         clear hS2 hS I htg
         go_wp2
         (try simp only [Exit.inBlock, Exit.then]); refine bodyPost_ret (results_none rfl _ _ _) rfl ?_
         obtain ⟨h1, h2⟩ := (show _ ∧ _ from hV)
         have I : In g lb sf sb enc k lt blk B d w w1 := HI
         have hm : b = m + 1 := HM
         subst hm
         exact ⟨rfl, dk, h2, one_right hO (by omega) hb HR hC h1, swk_trans I.s1 HS2 HB hds⟩
end
end Go.Proofs.Ytcajncmjlmpkgaa

namespace Go.Proofs.Ytcajncmjlmpkgaa
open Go Go.RowKit Go.Sort Go.Shelf
set_option linter.unusedVariables false
set_option linter.unusedSimpArgs false
set_option maxRecDepth 100000
section
variable {α : Type} [Inhabited α] {enc : α → List Value} {k : Nat} {w W W' : World} {blk size : Nat} {d dk d' : Array α} {lt : α → α → Bool}
def SymSays (g : Nat) (lb : Array Value) (sf : Nat) (sb : Array Value) (enc : α → List Value) (k : Nat) (lt : α → α → Bool) (blk a m b : Nat) (d : Array α) (w : World) : Prop :=
 Calls Try.prog 112 #[.agg #[.func (.func g) #[] lb, .func (.func sf) #[] sb], .int .i64 a, .int .i64 m, .int .i64 b] w fun e w' => e = .returned (.tuple #[]) ∧ ∃ d', PermIn a b d d' ∧ SortedIn lt a b d' ∧ SWK enc k w blk 0 d' w'
set_option maxHeartbeats 8000000 in
theorem sym_step_w (hO : SWO lt) {g : Nat} {lb : Array Value} {sf : Nat} {sb : Array Value} (A : Ask g lb sf sb enc k lt blk d w) (a m b : Nat) (ham : a + 2 ≤ m) (hmb : m + 2 ≤ b) (hb : b ≤ d.size) (hl : SortedIn lt a m d) (hr : SortedIn lt m b d)
   (ih : ∀ (a' m' b' : Nat) (d' : Array α) (w' : World), b' - a' < b - a → a' < m' → m' < b' → b' ≤ d'.size → Ask g lb sf sb enc k lt blk d' w' → SortedIn lt a' m' d' → SortedIn lt m' b' d' → SymSays g lb sf sb enc k lt blk a' m' b' d' w') : SymSays g lb sf sb enc k lt blk a m b d w := by
 unfold SymSays
 have I := A.enter
 have hsm := A.small
 have eg := A.eg
 have hblt := A.blt
 clear A
 have hq0 : ((m : Int) - (a : Int) == 1) = false := by rw [beq_eq_false_iff_ne]; omega
 have hq1 : ((b : Int) - (m : Int) == 1) = false := by rw [beq_eq_false_iff_ne]; omega
 obtain ⟨mid, hmid⟩ : ∃ mid, mid = (a + b) / 2 := ⟨_, rfl⟩
 obtain ⟨n, hn⟩ : ∃ n, n = mid + m := ⟨_, rfl⟩
 obtain ⟨lo, hlo⟩ : ∃ lo, lo = symLo a m b := ⟨_, rfl⟩
 obtain ⟨hi, hhi⟩ : ∃ hi, hi = symHi a m b := ⟨_, rfl⟩
 have hlohi := sym_lo (a := a) (m := m) (b := b) (by omega) (by omega)
 rw [← hlo, ← hhi, ← hmid] at hlohi
 have hml : (mid < m ∧ (lo : Int) = n - b ∧ hi = mid) ∨ (m ≤ mid ∧ lo = a ∧ hi = m) := by
   rw [hlo, hhi, hn, hmid]; unfold symLo symHi; split <;> omega
 have hmid' : ((a : Int) + b) / 2 = mid := by omega
 have HE : Hid (∀ s, lo ≤ s → s ≤ hi → m ≤ n - s ∧ n - s ≤ b ∧ mid ≤ n - s ∧ a ≤ s ∧ s ≤ m ∧ s ≤ mid ∧ s + (n - s - m) = mid) := by
   intro s h1 h2
   have := sym_end (a := a) (m := m) (b := b) (s := s) (by omega) (by omega) (by omega) (by omega)
   rwa [← hmid, ← hn] at this
 have HN : Hid (mid = (a + b) / 2 ∧ n = mid + m ∧ lo = symLo a m b ∧ hi = symHi a m b) := ⟨hmid, hn, hlo, hhi⟩
 have hn' : (mid : Int) + m = n := by omega
 obtain ⟨hm1, hm2⟩ : a < mid ∧ mid < b := by omega
 clear hmid hn hlo hhi
 have HL : Hid (SortedIn lt a m d ∧ SortedIn lt m b d) := ⟨hl, hr⟩
 have HI : Hid (∀ (a' m' b' : Nat) (d' : Array α) (w' : World), b' - a' < b - a → a' < m' → m' < b' → b' ≤ d'.size → Ask g lb sf sb enc k lt blk d' w' → SortedIn lt a' m' d' → SortedIn lt m' b' d' → SymSays g lb sf sb enc k lt blk a' m' b' d' w') := ih
 clear hl hr ih
 have hx1 : n - lo ≤ b ∧ m ≤ n - hi := ⟨((show ∀ s, lo ≤ s → s ≤ hi → _ from HE) lo (Nat.le_refl _) (by omega)).2.1, ((show ∀ s, lo ≤ s → s ≤ hi → _ from HE) hi (by omega) (Nat.le_refl _)).1⟩
 have hq2 : (mid < m ∧ decide (mid < m) = true) ∨ (m ≤ mid ∧ decide (mid < m) = false) := by simp only [decide_eq_true_eq, decide_eq_false_iff_not]; omega
 have HML : Hid ((mid < m ∧ (lo : Int) = n - b ∧ hi = mid) ∨ (m ≤ mid ∧ lo = a ∧ hi = m)) := hml
 clear hml
 rcases hq2 with ⟨hq2, hq3⟩ | ⟨hq2, hq3⟩
 all_goals (
   go_enter Try.func112, Try.ntmps112
   go_wp2
   unfold pairO at I
   generalize w.alloc (.cells #[.func (.func g) #[] lb, .func (.func sf) #[] sb] 139 (0, 0)) = w1 at *
   obtain ⟨B, hB⟩ : ∃ B, B = w.heap.size := ⟨_, rfl⟩
   rw [← hB] at I ⊢
   have HB : Hid (blk < w.heap.size) := hblt
   clear hB hblt
   go_loopg [18, 19, 21] (hi - lo) (fun gg s8 s9 s10 wr => ∃ (i j : Nat), s8 = .int .i64 i ∧ s9 = .int .i64 j ∧ j - i ≤ gg ∧ i ≤ j ∧ j ≤ hi ∧ lo ≤ i ∧ Hid (Cut lt lo hi n d i j) ∧ SWK enc k w1 blk 0 d wr))
 case atStart =>
   have hml : (mid < m ∧ (lo : Int) = n - b ∧ hi = mid) ∨ (m ≤ mid ∧ lo = a ∧ hi = m) := HML
   exact ⟨lo, hi, by congr 1; omega, by congr 1; omega, Nat.le_refl _, by omega, Nat.le_refl _, Nat.le_refl _, ⟨Nat.le_refl _, by omega, Nat.le_refl _, .inl rfl, .inl rfl⟩, SWK.start I.ask.holds⟩
 case atStart =>
   have hml : (mid < m ∧ (lo : Int) = n - b ∧ hi = mid) ∨ (m ≤ mid ∧ lo = a ∧ hi = m) := HML
   exact ⟨lo, hi, by congr 1; omega, by congr 1; omega, Nat.le_refl _, by omega, Nat.le_refl _, Nat.le_refl _, ⟨Nat.le_refl _, by omega, Nat.le_refl _, .inl rfl, .inl rfl⟩, SWK.start I.ask.holds⟩
 all_goals (
   obtain ⟨i, j, rfl, rfl, hg, hij, hjb, hmi, hC, hS⟩ := hrel
   obtain ⟨c0, c1⟩ := Now.at_ hS I
   by_cases hlt : i < j)
 case pos =>
  · have hc := I.less hS rfl (i := n - 1 - (i + j) / 2) (j := (i + j) / 2) (by omega) (by omega)
    rw [show ((n - 1 - (i + j) / 2 : Nat) : Int) = (n : Int) - 1 - ((i : Int) + (j : Int)) / 2 by omega, show (((i + j) / 2 : Nat) : Int) = ((i : Int) + (j : Int)) / 2 by omega] at hc
    cases hp : lt d[n - 1 - (i + j) / 2]! d[(i + j) / 2]! <;> rw [hp] at hc
    · have HP : Hid (lt d[n - 1 - (i + j) / 2]! d[(i + j) / 2]! = false) := hp
      clear hp hS I
      go_wp2_with (go_at_fn g; refine hc.mono ?_; rintro e w' ⟨rfl, hS2⟩)
      go_roundg (j - ((i + j) / 2 + 1))
      case measure => omega
      case rel =>
        have hC : Cut lt lo hi n d i j := hC
        have HP : lt d[n - 1 - (i + j) / 2]! d[(i + j) / 2]! = false := HP
        exact ⟨(i + j) / 2 + 1, j, by go_num, rfl, Nat.le_refl _, by omega, hjb, by omega, ⟨by omega, by omega, hC.rhi, .inr (by rw [Nat.add_sub_cancel, show n - ((i + j) / 2 + 1) = n - 1 - (i + j) / 2 by omega]; exact HP), hC.high⟩, hS2⟩
    · have HP : Hid (lt d[n - 1 - (i + j) / 2]! d[(i + j) / 2]! = true) := hp
      clear hp hS I
      go_wp2_with (go_at_fn g; refine hc.mono ?_; rintro e w' ⟨rfl, hS2⟩)
      go_roundg ((i + j) / 2 - i)
      case measure => omega
      case rel =>
        have hC : Cut lt lo hi n d i j := hC
        exact ⟨i, (i + j) / 2, rfl, by go_num, Nat.le_refl _, by omega, by omega, hmi, ⟨hC.los, by omega, by omega, hC.low, .inr HP⟩, hS2⟩
 case pos =>
  · have hc := I.less hS rfl (i := n - 1 - (i + j) / 2) (j := (i + j) / 2) (by omega) (by omega)
    rw [show ((n - 1 - (i + j) / 2 : Nat) : Int) = (n : Int) - 1 - ((i : Int) + (j : Int)) / 2 by omega, show (((i + j) / 2 : Nat) : Int) = ((i : Int) + (j : Int)) / 2 by omega] at hc
    cases hp : lt d[n - 1 - (i + j) / 2]! d[(i + j) / 2]! <;> rw [hp] at hc
    · have HP : Hid (lt d[n - 1 - (i + j) / 2]! d[(i + j) / 2]! = false) := hp
      clear hp hS I
      go_wp2_with (go_at_fn g; refine hc.mono ?_; rintro e w' ⟨rfl, hS2⟩)
      go_roundg (j - ((i + j) / 2 + 1))
      case measure => omega
      case rel =>
        have hC : Cut lt lo hi n d i j := hC
        have HP : lt d[n - 1 - (i + j) / 2]! d[(i + j) / 2]! = false := HP
        exact ⟨(i + j) / 2 + 1, j, by go_num, rfl, Nat.le_refl _, by omega, hjb, by omega, ⟨by omega, by omega, hC.rhi, .inr (by rw [Nat.add_sub_cancel, show n - ((i + j) / 2 + 1) = n - 1 - (i + j) / 2 by omega]; exact HP), hC.high⟩, hS2⟩
    · have HP : Hid (lt d[n - 1 - (i + j) / 2]! d[(i + j) / 2]! = true) := hp
      clear hp hS I
      go_wp2_with (go_at_fn g; refine hc.mono ?_; rintro e w' ⟨rfl, hS2⟩)
      go_roundg ((i + j) / 2 - i)
      case measure => omega
      case rel =>
        have hC : Cut lt lo hi n d i j := hC
        exact ⟨i, (i + j) / 2, rfl, by go_num, Nat.le_refl _, by omega, by omega, hmi, ⟨hC.los, by omega, by omega, hC.low, .inr HP⟩, hS2⟩
 all_goals (
   have hje : j = i := by omega
   subst hje
   obtain ⟨s, hs⟩ : ∃ s, s = j := ⟨_, rfl⟩
   subst hs
   obtain ⟨q1, q2, q3, q4, q5, q6, q7⟩ := (show ∀ s, lo ≤ s → s ≤ hi → _ from HE) s hmi hjb
   obtain ⟨e, he⟩ : ∃ e, e = n - s := ⟨_, rfl⟩
   rw [← he] at q1 q2 q3 q7
   have hne : (n : Int) - s = e := by omega
   have halves : Hid (∀ {d1 : Array α}, Rot s m e d d1 → Halves lt a s mid e b d1) := fun {d1} hR => by
     obtain ⟨e1, e2, e3, e4⟩ := (show _ ∧ _ ∧ _ ∧ _ from HN)
     obtain ⟨hl, hr⟩ := (show _ ∧ _ from HL)
     have hC : Cut lt lo hi n d s s := hC
     rw [e3, e4, e2, e1] at hC
     rw [he, e2, e1] at hR ⊢
     exact sym_cut hO (by omega) (by omega) hb hl hr hC hR
   have fin : Hid (∀ {d1 d2 d3 : Array α} {W : World}, Rot s m e d d1 → PermIn a mid d1 d2 → SortedIn lt a mid d2 → PermIn mid b d2 d3 → SortedIn lt mid b d3 → Halves lt a s mid e b d1 → SWK enc k w1 blk 0 d3 W →
       ∃ d', PermIn a b d d' ∧ SortedIn lt a b d' ∧ SWK enc k w blk 0 d' W) := fun {d1 d2 d3 W} h1 h2 h3 h4 h5 h6 h7 => by
     have z1 : d1.size = d.size := h1.via.size
     have z2 : d2.size = d.size := h2.1.trans z1
     have z3 : d3.size = d.size := h4.1.trans z2
     refine ⟨d3, permIn_trans _ _ _ _ _ (permIn_mono _ _ _ _ _ _ (by omega) (by omega) (by omega) h1.perm) (permIn_trans _ _ _ _ _ (permIn_mono _ _ _ _ _ _ (Nat.le_refl _) (by omega) (by omega) h2) (permIn_mono _ _ _ _ _ _ (by omega) (Nat.le_refl _) (by omega) h4)), ?_, swk_trans I.s1 h7 HB z3⟩
     exact sorted_join (sorted_keep h3 fun i hi1 hi2 => h4.2.1 i (.inl hi2)) h5 (h6.cross.perm (by omega) (by omega) (by omega) h2 h4)
   have hrot : Hid (∀ (W : World) (D : Array α), s < m → m < e → D.size = d.size → SWK enc k w1 blk 0 D W → Calls Try.prog 122 #[.agg #[.func (.func g) #[] lb, .func (.func sf) #[] sb], .int .i64 s, .int .i64 m, .int .i64 e] W fun r w' => r = .returned (.tuple #[]) ∧ ∃ d', Rot s m e D d' ∧ SWK enc k w1 blk 0 d' w') := by
     intro W D h0 h1 h2 h3
     have A := I.ask.next h3 h2
     refine (rotate_w A.len (.func (.func g) #[] lb) sf sb s m e A.swap A.holds A.blt h0 h1 (by omega) A.small).mono ?_
     rintro r w' ⟨rfl, d', h4, h5⟩
     exact ⟨rfl, d', h4, swk_trans h3 h5 I.ask.blt h4.via.size⟩
   have hleft : Hid (∀ (W : World) (D : Array α), a < s → s < mid → D.size = d.size → SWK enc k w1 blk 0 D W → SortedIn lt a s D → SortedIn lt s mid D → Calls Try.prog 112 #[.agg #[.func (.func g) #[] lb, .func (.func sf) #[] sb], .int .i64 a, .int .i64 s, .int .i64 mid] W fun r w' => r = .returned (.tuple #[]) ∧ ∃ d', PermIn a mid D d' ∧ SortedIn lt a mid d' ∧ SWK enc k w1 blk 0 d' w') := by
     intro W D h0 h1 h2 h3 h4 h5
     refine ((show ∀ (a' m' b' : Nat) (d' : Array α) (w' : World), _ from HI) a s mid D W (by omega) h0 h1 (by omega) (I.ask.next h3 h2) h4 h5).mono ?_
     rintro r w' ⟨rfl, d', h6, h7, h8⟩
     exact ⟨rfl, d', h6, h7, swk_trans h3 h8 I.ask.blt h6.1⟩
   have hright : Hid (∀ (W : World) (D : Array α), mid < e → e < b → D.size = d.size → SWK enc k w1 blk 0 D W → SortedIn lt mid e D → SortedIn lt e b D → Calls Try.prog 112 #[.agg #[.func (.func g) #[] lb, .func (.func sf) #[] sb], .int .i64 mid, .int .i64 e, .int .i64 b] W fun r w' => r = .returned (.tuple #[]) ∧ ∃ d', PermIn mid b D d' ∧ SortedIn lt mid b d' ∧ SWK enc k w1 blk 0 d' w') := by
     intro W D h0 h1 h2 h3 h4 h5
     refine ((show ∀ (a' m' b' : Nat) (d' : Array α) (w' : World), _ from HI) mid e b D W (by omega) h0 h1 (by omega) (I.ask.next h3 h2) h4 h5).mono ?_
     rintro r w' ⟨rfl, d', h6, h7, h8⟩
     exact ⟨rfl, d', h6, h7, swk_trans h3 h8 I.ask.blt h6.1⟩
   clear HE HN HL HI hC he)
 all_goals (
   have hr0 : (s < m ∧ m < e) ∨ m ≤ s ∨ (s < m ∧ e ≤ m) := by omega
   have hl0 : (a < s ∧ s < mid) ∨ s ≤ a ∨ (a < s ∧ mid ≤ s) := by omega
   have hg0 : (mid < e ∧ e < b) ∨ e ≤ mid ∨ (mid < e ∧ b ≤ e) := by omega
   rcases hr0 with ⟨hr1, hr2⟩ | hr1 | ⟨hr1, hr2⟩ <;> rcases hl0 with ⟨hl1, hl2⟩ | hl1 | ⟨hl1, hl2⟩ <;> rcases hg0 with ⟨hg1, hg2⟩ | hg1 | ⟨hg1, hg2⟩)
 all_goals (try (exfalso; omega))
 · have hcr := hrot _ _ hr1 hr2 rfl hS
   go_wp2_with (go_at_call 122; (with_reducible refine hcr.mono ?_); rintro _ w2 ⟨rfl, d1, hR1, hS1⟩; obtain ⟨c0, c1⟩ := Now.at_ hS1 I)
   have hz1 : d1.size = d.size := hR1.via.size
   have hH1 := halves hR1
   have hcl := hleft _ _ hl1 hl2 hz1 hS1 hH1.h1 hH1.h2
   go_wp2_with (go_at_call 112; (with_reducible refine hcl.mono ?_); rintro _ w3 ⟨rfl, d2, hP2, hs2, hS2⟩; obtain ⟨c0, c1⟩ := Now.at_ hS2 I)
   have hz2 : d2.size = d.size := hP2.1.trans hz1
   have hx3 := sorted_keep hH1.h3 (d1 := d2) fun i h1 h2 => hP2.2.1 i (.inr (by omega))
   have hx4 := sorted_keep hH1.h4 (d1 := d2) fun i h1 h2 => hP2.2.1 i (.inr (by omega))
   have hcg := hright _ _ hg1 hg2 hz2 hS2 hx3 hx4
   go_wp2_with (go_at_call 112; (with_reducible refine hcg.mono ?_); rintro _ w4 ⟨rfl, d3, hP3, hs3, hS3⟩)
   go_end0
   exact ⟨rfl, fin hR1 hP2 hs2 hP3 hs3 hH1 hS3⟩
 · have hcr := hrot _ _ hr1 hr2 rfl hS
   go_wp2_with (go_at_call 122; (with_reducible refine hcr.mono ?_); rintro _ w2 ⟨rfl, d1, hR1, hS1⟩; obtain ⟨c0, c1⟩ := Now.at_ hS1 I)
   have hz1 : d1.size = d.size := hR1.via.size
   have hH1 := halves hR1
   have hcl := hleft _ _ hl1 hl2 hz1 hS1 hH1.h1 hH1.h2
   go_wp2_with (go_at_call 112; (with_reducible refine hcl.mono ?_); rintro _ w3 ⟨rfl, d2, hP2, hs2, hS2⟩; obtain ⟨c0, c1⟩ := Now.at_ hS2 I)
   have hz2 : d2.size = d.size := hP2.1.trans hz1
   have hx3 := sorted_keep hH1.h3 (d1 := d2) fun i h1 h2 => hP2.2.1 i (.inr (by omega))
   have hx4 := sorted_keep hH1.h4 (d1 := d2) fun i h1 h2 => hP2.2.1 i (.inr (by omega))
   have hs3 : SortedIn lt mid b d2 := sorted_keep (hH1.right (by omega) (by omega) (by omega)) fun i h1 h2 => hP2.2.1 i (.inr h1)
   obtain ⟨d3, hP3, hs3, hS3⟩ : ∃ d3, PermIn mid b d2 d3 ∧ SortedIn lt mid b d3 ∧ SWK enc k w1 blk 0 d3 w3 := ⟨d2, permIn_refl _ _ _, hs3, hS2⟩
   go_end0
   exact ⟨rfl, fin hR1 hP2 hs2 hP3 hs3 hH1 hS3⟩
 · have hcr := hrot _ _ hr1 hr2 rfl hS
   go_wp2_with (go_at_call 122; (with_reducible refine hcr.mono ?_); rintro _ w2 ⟨rfl, d1, hR1, hS1⟩; obtain ⟨c0, c1⟩ := Now.at_ hS1 I)
   have hz1 : d1.size = d.size := hR1.via.size
   have hH1 := halves hR1
   obtain ⟨d2, hP2, hs2, hS2⟩ : ∃ d2, PermIn a mid d1 d2 ∧ SortedIn lt a mid d2 ∧ SWK enc k w1 blk 0 d2 w2 := ⟨d1, permIn_refl _ _ _, hH1.left (by omega) (by omega) (by omega), hS1⟩
   have hz2 : d2.size = d.size := hP2.1.trans hz1
   have hx3 := sorted_keep hH1.h3 (d1 := d2) fun i h1 h2 => hP2.2.1 i (.inr (by omega))
   have hx4 := sorted_keep hH1.h4 (d1 := d2) fun i h1 h2 => hP2.2.1 i (.inr (by omega))
   have hs3 : SortedIn lt mid b d2 := sorted_keep (hH1.right (by omega) (by omega) (by omega)) fun i h1 h2 => hP2.2.1 i (.inr h1)
   obtain ⟨d3, hP3, hs3, hS3⟩ : ∃ d3, PermIn mid b d2 d3 ∧ SortedIn lt mid b d3 ∧ SWK enc k w1 blk 0 d3 w2 := ⟨d2, permIn_refl _ _ _, hs3, hS2⟩
   go_end0
   exact ⟨rfl, fin hR1 hP2 hs2 hP3 hs3 hH1 hS3⟩
 · obtain ⟨d1, hR1, hS1⟩ : ∃ d1, Rot s m e d d1 ∧ SWK enc k w1 blk 0 d1 wr := ⟨d, Rot.id d (by omega) (by omega) (by omega), hS⟩
   have hz1 : d1.size = d.size := hR1.via.size
   have hH1 := halves hR1
   obtain ⟨d2, hP2, hs2, hS2⟩ : ∃ d2, PermIn a mid d1 d2 ∧ SortedIn lt a mid d2 ∧ SWK enc k w1 blk 0 d2 wr := ⟨d1, permIn_refl _ _ _, hH1.left (by omega) (by omega) (by omega), hS1⟩
   have hz2 : d2.size = d.size := hP2.1.trans hz1
   have hx3 := sorted_keep hH1.h3 (d1 := d2) fun i h1 h2 => hP2.2.1 i (.inr (by omega))
   have hx4 := sorted_keep hH1.h4 (d1 := d2) fun i h1 h2 => hP2.2.1 i (.inr (by omega))
   have hcg := hright _ _ hg1 hg2 hz2 hS2 hx3 hx4
   go_wp2_with (go_at_call 112; (with_reducible refine hcg.mono ?_); rintro _ w4 ⟨rfl, d3, hP3, hs3, hS3⟩)
   go_end0
   exact ⟨rfl, fin hR1 hP2 hs2 hP3 hs3 hH1 hS3⟩
 · have hcr := hrot _ _ hr1 hr2 rfl hS
   go_wp2_with (go_at_call 122; (with_reducible refine hcr.mono ?_); rintro _ w2 ⟨rfl, d1, hR1, hS1⟩; obtain ⟨c0, c1⟩ := Now.at_ hS1 I)
   have hz1 : d1.size = d.size := hR1.via.size
   have hH1 := halves hR1
   have hcl := hleft _ _ hl1 hl2 hz1 hS1 hH1.h1 hH1.h2
   go_wp2_with (go_at_call 112; (with_reducible refine hcl.mono ?_); rintro _ w3 ⟨rfl, d2, hP2, hs2, hS2⟩; obtain ⟨c0, c1⟩ := Now.at_ hS2 I)
   have hz2 : d2.size = d.size := hP2.1.trans hz1
   have hx3 := sorted_keep hH1.h3 (d1 := d2) fun i h1 h2 => hP2.2.1 i (.inr (by omega))
   have hx4 := sorted_keep hH1.h4 (d1 := d2) fun i h1 h2 => hP2.2.1 i (.inr (by omega))
   have hcg := hright _ _ hg1 hg2 hz2 hS2 hx3 hx4
   go_wp2_with (go_at_call 112; (with_reducible refine hcg.mono ?_); rintro _ w4 ⟨rfl, d3, hP3, hs3, hS3⟩)
   go_end0
   exact ⟨rfl, fin hR1 hP2 hs2 hP3 hs3 hH1 hS3⟩
 · have hcr := hrot _ _ hr1 hr2 rfl hS
   go_wp2_with (go_at_call 122; (with_reducible refine hcr.mono ?_); rintro _ w2 ⟨rfl, d1, hR1, hS1⟩; obtain ⟨c0, c1⟩ := Now.at_ hS1 I)
   have hz1 : d1.size = d.size := hR1.via.size
   have hH1 := halves hR1
   obtain ⟨d2, hP2, hs2, hS2⟩ : ∃ d2, PermIn a mid d1 d2 ∧ SortedIn lt a mid d2 ∧ SWK enc k w1 blk 0 d2 w2 := ⟨d1, permIn_refl _ _ _, hH1.left (by omega) (by omega) (by omega), hS1⟩
   have hz2 : d2.size = d.size := hP2.1.trans hz1
   have hx3 := sorted_keep hH1.h3 (d1 := d2) fun i h1 h2 => hP2.2.1 i (.inr (by omega))
   have hx4 := sorted_keep hH1.h4 (d1 := d2) fun i h1 h2 => hP2.2.1 i (.inr (by omega))
   have hcg := hright _ _ hg1 hg2 hz2 hS2 hx3 hx4
   go_wp2_with (go_at_call 112; (with_reducible refine hcg.mono ?_); rintro _ w4 ⟨rfl, d3, hP3, hs3, hS3⟩)
   go_end0
   exact ⟨rfl, fin hR1 hP2 hs2 hP3 hs3 hH1 hS3⟩
 · have hcr := hrot _ _ hr1 hr2 rfl hS
   go_wp2_with (go_at_call 122; (with_reducible refine hcr.mono ?_); rintro _ w2 ⟨rfl, d1, hR1, hS1⟩; obtain ⟨c0, c1⟩ := Now.at_ hS1 I)
   have hz1 : d1.size = d.size := hR1.via.size
   have hH1 := halves hR1
   obtain ⟨d2, hP2, hs2, hS2⟩ : ∃ d2, PermIn a mid d1 d2 ∧ SortedIn lt a mid d2 ∧ SWK enc k w1 blk 0 d2 w2 := ⟨d1, permIn_refl _ _ _, hH1.left (by omega) (by omega) (by omega), hS1⟩
   have hz2 : d2.size = d.size := hP2.1.trans hz1
   have hx3 := sorted_keep hH1.h3 (d1 := d2) fun i h1 h2 => hP2.2.1 i (.inr (by omega))
   have hx4 := sorted_keep hH1.h4 (d1 := d2) fun i h1 h2 => hP2.2.1 i (.inr (by omega))
   have hs3 : SortedIn lt mid b d2 := sorted_keep (hH1.right (by omega) (by omega) (by omega)) fun i h1 h2 => hP2.2.1 i (.inr h1)
   obtain ⟨d3, hP3, hs3, hS3⟩ : ∃ d3, PermIn mid b d2 d3 ∧ SortedIn lt mid b d3 ∧ SWK enc k w1 blk 0 d3 w2 := ⟨d2, permIn_refl _ _ _, hs3, hS2⟩
   go_end0
   exact ⟨rfl, fin hR1 hP2 hs2 hP3 hs3 hH1 hS3⟩
 · obtain ⟨d1, hR1, hS1⟩ : ∃ d1, Rot s m e d d1 ∧ SWK enc k w1 blk 0 d1 wr := ⟨d, Rot.id d (by omega) (by omega) (by omega), hS⟩
   have hz1 : d1.size = d.size := hR1.via.size
   have hH1 := halves hR1
   have hcl := hleft _ _ hl1 hl2 hz1 hS1 hH1.h1 hH1.h2
   go_wp2_with (go_at_call 112; (with_reducible refine hcl.mono ?_); rintro _ w3 ⟨rfl, d2, hP2, hs2, hS2⟩; obtain ⟨c0, c1⟩ := Now.at_ hS2 I)
   have hz2 : d2.size = d.size := hP2.1.trans hz1
   have hx3 := sorted_keep hH1.h3 (d1 := d2) fun i h1 h2 => hP2.2.1 i (.inr (by omega))
   have hx4 := sorted_keep hH1.h4 (d1 := d2) fun i h1 h2 => hP2.2.1 i (.inr (by omega))
   have hs3 : SortedIn lt mid b d2 := sorted_keep (hH1.right (by omega) (by omega) (by omega)) fun i h1 h2 => hP2.2.1 i (.inr h1)
   obtain ⟨d3, hP3, hs3, hS3⟩ : ∃ d3, PermIn mid b d2 d3 ∧ SortedIn lt mid b d3 ∧ SWK enc k w1 blk 0 d3 w3 := ⟨d2, permIn_refl _ _ _, hs3, hS2⟩
   go_end0
   exact ⟨rfl, fin hR1 hP2 hs2 hP3 hs3 hH1 hS3⟩
 · obtain ⟨d1, hR1, hS1⟩ : ∃ d1, Rot s m e d d1 ∧ SWK enc k w1 blk 0 d1 wr := ⟨d, Rot.id d (by omega) (by omega) (by omega), hS⟩
   have hz1 : d1.size = d.size := hR1.via.size
   have hH1 := halves hR1
   obtain ⟨d2, hP2, hs2, hS2⟩ : ∃ d2, PermIn a mid d1 d2 ∧ SortedIn lt a mid d2 ∧ SWK enc k w1 blk 0 d2 wr := ⟨d1, permIn_refl _ _ _, hH1.left (by omega) (by omega) (by omega), hS1⟩
   have hz2 : d2.size = d.size := hP2.1.trans hz1
   have hx3 := sorted_keep hH1.h3 (d1 := d2) fun i h1 h2 => hP2.2.1 i (.inr (by omega))
   have hx4 := sorted_keep hH1.h4 (d1 := d2) fun i h1 h2 => hP2.2.1 i (.inr (by omega))
   have hs3 : SortedIn lt mid b d2 := sorted_keep (hH1.right (by omega) (by omega) (by omega)) fun i h1 h2 => hP2.2.1 i (.inr h1)
   obtain ⟨d3, hP3, hs3, hS3⟩ : ∃ d3, PermIn mid b d2 d3 ∧ SortedIn lt mid b d3 ∧ SWK enc k w1 blk 0 d3 wr := ⟨d2, permIn_refl _ _ _, hs3, hS2⟩
   go_wp2
   go_end0
   exact ⟨rfl, fin hR1 hP2 hs2 hP3 hs3 hH1 hS3⟩
end
end Go.Proofs.Ytcajncmjlmpkgaa
