/- sketch.Middle: settle, walked in the world. Own work; no condition. -/
import Derived.Test.YthhfhjchkldhiaaMd4
import Derived.Test.YthhfhjchkldhiaaMd5
import Derived.Test.YthhfhjchkldhiaaMd6
import Derived.Deep.LoopGhost
import Derived.Deep.QuietTactic
import Derived.BigQuiet
import Derived.Deep.RegionLaw
import Derived.StillTailTactics
namespace Go.Proofs.Ythhfhjchkldhiaa
open Go Go.RowKit Go.Deep Go.Sort

/-- What a settling has come to. -/
structure Set (w : World) (b c tot : Nat) (sh : Int) (rv : Value) (vs : List Value) (ls : List (List Int)) (k : Nat) (wr : World) (sh' : Int) (rv' : Value) (vs' : List Value) (ls' : List (List Int)) : Prop where
  mid : MidAt wr b c tot sh' rv' vs' ls'
  steps : Steps c sh ls sh' ls'
  low : ∀ (j : Nat) l, j < k → ls'[j]? = some l → l.length < c
  turn : Turn w wr (foot b rv vs)
  own : ∀ q, foot b rv' vs' q → foot b rv vs q ∨ w.heap.size ≤ q

theorem Set.next {w : World} {b c tot : Nat} {sh : Int} {rv : Value} {vs : List Value} {ls : List (List Int)} {k : Nat} {wr : World} {sh' : Int} {rv' : Value} {vs' : List Value} {ls' : List (List Int)} (S : Set w b c tot sh rv vs ls k wr sh' rv' vs' ls')
    {x n xc : Nat} (hv : vs'[k]? = some (.slice (some ⟨x, 0, none⟩) n xc)) {w5 : World} {sh5 : Int} {rv5 : Value} {vs5 : List Value} {ls5 : List (List Int)} (M5 : MidAt w5 b c tot sh5 rv5 vs5 ls5) (st : Step c sh' ls' sh5 ls5) (hlow : ∀ j, j < k → ls5[j]? = ls'[j]?)
    (TC : Turn wr w5 (fun q => q = x ∨ q = b ∨ rv'.ownBlock = some q)) (hrv : ∀ q, rv5.ownBlock = some q → rv'.ownBlock = some q ∨ wr.heap.size ≤ q) (hvs : ∀ v, v ∈ vs5 → v ∈ vs' ∨ ∀ q, v.ownBlock = some q → wr.heap.size ≤ q) : Set w b c tot sh rv vs ls k w5 sh5 rv5 vs5 ls5 := by
  have hs := S.turn.size
  have hf : ∀ q, (q = x ∨ q = b ∨ rv'.ownBlock = some q) → foot b rv' vs' q := by
    rintro q (rfl | rfl | h)
    · exact .inr (.inr ⟨_, List.mem_of_getElem? hv, rfl⟩)
    · exact .inl rfl
    · exact .inr (.inl h)
  refine ⟨M5, S.steps.tail st, fun j l hj hl => S.low j l hj (by rw [← hlow j hj]; exact hl), S.turn.trans TC (fun _ e => e) fun q hq e => (S.own q (hf q e)).elim (fun h => h) fun h => absurd h (by omega), fun q hq => ?_⟩
  rcases hq with rfl | h | ⟨v, hv5, h⟩
  · exact .inl (.inl rfl)
  · rcases hrv q h with g | g
    · exact S.own q (.inr (.inl g))
    · exact .inr (by omega)
  · rcases hvs v hv5 with g | g
    · exact S.own q (.inr (.inr ⟨v, g, h⟩))
    · have := g q h; exact .inr (by omega)
theorem MidAt.shorts {w : World} {b : Nat} {c tot sh : Int} {rv : Value} {vs : List Value} {ls : List (List Int)} (h : MidAt w b c tot sh rv vs ls) (s : Int) : MidAt (w.setCell ⟨b, 2, none⟩ (.int .i64 s)).drew b c tot s rv vs ls := by
  have hsame : ∀ k, k ≠ b → (w.setCell ⟨b, 2, none⟩ (.int .i64 s)).drew.heap[k]? = w.heap[k]? := fun k hk => blk_setCell_other _ _ _ _ hk
  refine ⟨?_, ownsRow_keep h.row fun k e => hsame k fun e' => h.d1 (e' ▸ e), fun i v l hv hl => ownsRow_keep (h.inner i v l hv hl) fun k e => hsame k fun e' => (h.d2 v (List.mem_of_getElem? hv)).1 (e' ▸ e), h.d1, h.d2, h.d3⟩
  obtain ⟨t, hb⟩ := h.blk
  refine ⟨t, ?_⟩
  have := setCell_heap (i := 2) hb (.int .i64 s)
  exact this
theorem putM_other (ls : List (List Int)) (h : Nat) (l : List Int) {j : Nat} (hj : j < h) (hh : h ≤ ls.length) : (putM ls h l)[j]? = ls[j]? := by
  unfold putM
  split
  · rw [List.getElem?_set_ne (by omega)]
  · rw [List.getElem?_append_left (by omega)]
/-- put, at a level that stands or at the next one. -/
theorem put_w (b : Nat) (c tot sh : Int) (rv : Value) (vs : List Value) (ls : List (List Int)) (h : Nat) (lv : Value) (l : List Int) (w : World) (M : MidAt w b c tot sh rv vs ls) (R : Rd w lv (i64v l)) (hh : h ≤ ls.length) (hfar : ∀ k, lv.ownBlock = some k → ¬ (k = b ∨ rv.ownBlock = some k)) (hn : ls.length ≤ 4398046511104)
    (hb : ∀ l', ls[h]? = some l' → l'.length ≤ 4398046511104) (hb' : l.length ≤ 4398046511104) :
    Calls Try.prog 10 #[.pointer (some ⟨b, 0, none⟩), .int .i64 h, lv] w fun e w' => e = .returned (.tuple #[]) ∧ ∃ rv' vs', MidAt w' b c tot sh rv' vs' (putM ls h l) ∧ Turn w w' (fun k => k = b ∨ rv.ownBlock = some k) ∧
      (∀ k, rv'.ownBlock = some k → rv.ownBlock = some k ∨ w.heap.size ≤ k) ∧ ∀ v, v ∈ vs' → v ∈ vs ∨ ∀ k, v.ownBlock = some k → w.heap.size ≤ k := by
  rcases Nat.lt_or_ge h ls.length with g | g
  · have hx := hb _ (List.getElem?_eq_getElem g)
    refine (put_old b c tot sh rv vs ls h lv l w M g R (by rw [List.getElem?_eq_getElem g, Option.getD_some]; omega)).mono ?_
    rintro e w' ⟨rfl, vs', M', T, hv⟩
    exact ⟨rfl, rv, vs', by rw [putM_lt g]; exact M', ⟨T.os, T.tape, T.output, T.size, fun k hk hn => T.block k hk fun e => hn (.inr e)⟩, fun k e => .inl e, hv⟩
  · have e : h = ls.length := by omega
    subst e
    refine (put_new b c tot sh rv vs ls lv l w M R hfar (by omega) (by omega)).mono ?_
    rintro e w' ⟨rfl, rv', vs', M', T, h1, h2⟩
    exact ⟨rfl, rv', vs', by rw [putM_eq]; exact M', T, h1, h2⟩
theorem wrap_small {x : Int} (h0 : 0 ≤ x) (h1 : x < 9223372036854775808) : wrap64 x = x := by
  unfold wrap64; omega

set_option maxRecDepth 100000 in
set_option maxHeartbeats 4000000 in
theorem settle_w (b c tot : Nat) (sh : Int) (rv : Value) (vs : List Value) (ls : List (List Int)) (w : World) (M : MidAt w b c tot sh rv vs ls) (F : Fit c tot sh ls) :
    Calls Try.prog 11 #[.pointer (some ⟨b, 0, none⟩)] w fun e w' => e = .returned (.tuple #[]) ∧ ∃ sh' rv' vs' ls', Set w b c tot sh rv vs ls ls'.length w' sh' rv' vs' ls' := by
  have M0 := M
  clear M
  go_enter Try.func11, Try.ntmps11
  go_wp2_with fail
  go_loopg [2] 100 (fun g t wr => ∃ k : Nat, t = .int .i64 k ∧ g + k = 100 ∧ ∃ sh' rv' vs' ls', Set w b c tot sh rv vs ls k wr sh' rv' vs' ls' ∧ k ≤ ls'.length)
  case atStart => exact ⟨0, rfl, rfl, sh, rv, vs, ls, ⟨M0, .refl, fun j l h => absurd h (by omega), Turn.refl _ _, fun q h => .inl h⟩, Nat.zero_le _⟩
  case round =>
    obtain ⟨k, rfl, hgk, sh', rv', vs', ls', S, hk⟩ := hrel
    have F' := F.steps S.steps
    obtain ⟨ra, rc, hrv⟩ := ownsRow_slice S.mid.row
    subst hrv
    obtain ⟨t, hbk⟩ := S.mid.blk
    have c3 : wr.cell? ⟨b, 3, none⟩ = some (.slice ra ls'.length rc) := cell_of_heap hbk rfl
    have hl42 := F'.len
    clear hbk
    by_cases hlt : k < ls'.length
    · go_wp2_with fail
      obtain ⟨l0, hl0⟩ : ∃ l, ls'[k]? = some l := ⟨_, List.getElem?_eq_getElem hlt⟩
      go_loopg [3] l0.length (fun g _ wq => ∃ sh' rv' vs' ls' l, Set w b c tot sh rv vs ls k wq sh' rv' vs' ls' ∧ ls'[k]? = some l ∧ g = l.length)
      case atStart => exact ⟨sh', _, vs', ls', l0, S, hl0, rfl⟩
      case round =>
        clear S c3 F' hlt hk hl0 hl42
        obtain ⟨sh', rv', vs', ls', l, S, hl, hgl⟩ := hrel
        have F' := F.steps S.steps
        have hl42 := F'.len
        have hk : k < ls'.length := (List.getElem?_eq_some_iff.1 hl).1
        have hvl : k < vs'.length := by rw [S.mid.vlen]; exact hk
        obtain ⟨v, hv⟩ : ∃ v, vs'[k]? = some v := ⟨_, List.getElem?_eq_getElem hvl⟩
        have hin := S.mid.inner k v l hv hl
        obtain ⟨va, vc, hva⟩ := ownsRow_slice hin
        subst hva
        obtain ⟨t, hbk⟩ := S.mid.blk
        obtain ⟨rb, cap, cur, hrv, h4, h5, h6, h7, h8⟩ : ∃ g cap cur, rv' = .slice (some ⟨g, 0, none⟩) ls'.length cap ∧ wr.heap[g]? = some (.cells cur 23 (0, 0)) ∧ ls'.length ≤ cap ∧ cap ≤ maxLen ∧ cur.size = cap * 1 ∧ cur.toList.take (ls'.length * 1) = vs' := by
          rcases S.mid.row.2 with ⟨_, e⟩ | ⟨g, cap, cur, x1, _, x2⟩
          · omega
          · exact ⟨g, cap, cur, x1, x2⟩
        subst hrv
        have c0 : wr.cell? ⟨b, 0, none⟩ = some (.int .i64 c) := cell_of_heap hbk rfl
        have c3 : wr.cell? ⟨b, 3, none⟩ = some (.slice (some ⟨rb, 0, none⟩) ls'.length cap) := cell_of_heap hbk rfl
        have cr : wr.cell? ⟨rb, k, none⟩ = some (.slice va l.length vc) := by
          refine cell_of_heap h4 ?_
          rw [← h8, List.getElem?_take, if_pos (by omega), Array.getElem?_toList] at hv
          exact hv
        have hfr : wr.frozen? ⟨rb, k, none⟩ = false := by simp [World.frozen?, h4]
        have hi0 : (0 : Int) ≤ (k : Int) := Int.natCast_nonneg _
        have hi1 : (k : Int) < (ls'.length : Int) := by omega
        have hcp := F'.pos
        clear h4 h5 h6 h7 h8 hvl
        by_cases hful : c ≤ l.length
        · have hfuli : (c : Int) ≤ (l.length : Int) := by omega
          clear hbk
          obtain ⟨x, xc, hx, _, hxlt⟩ := hin.form (by omega)
          rw [hx] at hv hin cr
          clear hx
          go_wp2_with fail
          go_quiet (fail)
          go_wp2_with fail
          generalize hW0 : wr.drewN _ = W0
          have T0 : Turn wr W0 (fun _ => False) := by subst hW0; exact ⟨rfl, rfl, rfl, Nat.le_refl _, fun _ _ _ => rfl⟩
          have M0' : MidAt W0 b c tot sh' (.slice (some ⟨rb, 0, none⟩) ls'.length cap) vs' ls' := by subst hW0; exact S.mid.keep fun _ _ => rfl
          clear hW0
          have hle := F'.each hl
          refine (sort_w x 0 xc l W0 (ownsRow_holds (M0'.inner k _ l hv hl)) (by have := T0.size; omega) (by omega)).mono ?_
          rintro e w1 ⟨rfl, q, os, rfl⟩
          have M1 : MidAt (grow (putRow (Value.int .i64) (Sort.ahead W0 q) x 0 (l.mergeSort fun x y => decide (x ≤ y)).toArray) os) b c tot sh' (.slice (some ⟨rb, 0, none⟩) ls'.length cap) vs' (ls'.set k (sortZ l)) := M0'.sorted hv hl (sortZ_len l) q os
          have T1 : Turn W0 (grow (putRow (Value.int .i64) (Sort.ahead W0 q) x 0 (l.mergeSort fun x y => decide (x ≤ y)).toArray) os) (fun k => k = x) := sortedW_turn W0 q x (sortZ l) os
          generalize (grow (putRow (Value.int .i64) (Sort.ahead W0 q) x 0 (l.mergeSort fun x y => decide (x ≤ y)).toArray) os) = W1 at *
          clear c0 c3 cr hfr
          obtain ⟨c0, c2, f2, c3, cr, fr⟩ := M1.rd hv
          have hs := M1.inner k _ (sortZ l) hv (by rw [List.getElem?_set_self hk])
          have hsl := sortZ_len l
          obtain ⟨hxc, hxm⟩ : l.length ≤ xc ∧ xc ≤ maxLen := by
            rcases hin.2 with ⟨e, _⟩ | ⟨g, cap', cur, e, _, _, h5, h6, _⟩
            · cases e
            · cases e; exact ⟨h5, h6⟩
          have hxc' : (c : Int) ≤ (xc : Int) := by omega
          have hc0 : (0 : Int) ≤ (c : Int) := by omega
          have hev := F'.even
          have hcap := F'.cap
          obtain ⟨i0, hi0', hz0, hz1, hz2⟩ := info_parts info2
          go_wp2_with fail
          go_loopg [5, 6] c (fun g up i wu => ∃ n : Nat, i = .int .i64 (n : Int) ∧ n % 2 = 1 ∧ g + n = c + 1 ∧ wu.ownsRow W1.heap.size 2 1 up (n / 2) (i64v (odds ((sortZ l).take (n - 1)))) ∧ W1.Since W1.heap.size wu)
          case atStart => exact ⟨1, rfl, rfl, rfl, World.ownsRow_nil _ _ _ _, World.Since.refl _ _⟩
          case round =>
            obtain ⟨n, rfl, hn2, hgn, hup, hsi⟩ := hrel
            have hol : (i64v (odds ((sortZ l).take (n - 1)))).length = n / 2 := by rw [hup.1, Nat.mul_one]
            have hn0 : (0 : Int) ≤ (n : Int) := Int.natCast_nonneg _
            by_cases hm : n < c
            · have hm1 : (n : Int) < (c : Int) := by omega
              obtain ⟨y, hy⟩ : ∃ y, (sortZ l)[n]? = some y := ⟨_, List.getElem?_eq_getElem (by omega)⟩
              have cy : wr.cell? ⟨x, n, none⟩ = some (.int .i64 y) := by
                have h1 := hs.cells (g := x) rfl n (.int .i64 y) (by rw [List.getElem?_map, hy]; rfl)
                rw [add0] at h1
                rw [hsi.cell (World.block_lt_of_cell? W1 _ h1)]; exact h1
              have hot := odds_next hn2 hy
              have A : Hid (odds ((sortZ l).take (n + 2 - 1)) = odds ((sortZ l).take (n - 1)) ++ [y]) := hot
              have hlo := hup.lt
              clear hot c0 c2 f2 c3 cr fr hy hsl
              go_wp2_with (at_builtin; go_must (refine wpList_append_own_at _ rfl _ _ _ rfl W1.heap.size 2 i0 _ 1 8 Try.underlying23 hi0' hz0 hz1 hz2 rfl (by omega) _ (n / 2) (i64v (odds ((sortZ l).take (n - 1)))) rfl (hup.alloc _) ⟨wr.heap.size, 0, none⟩ 1 1 [.int .i64 y] rfl rfl (cell_one_new wr _ _) (by simp [Value.oneCell']) (by simp only [maxLen]; omega) (by omega) (by have := hsi.size; simp; omega) ?_); intro up' w2 hup' hg2 _ _; clear hup)
              go_roundg (gk - 2)
              case measure => omega
              case rel =>
                have A' : odds ((sortZ l).take (n + 2 - 1)) = odds ((sortZ l).take (n - 1)) ++ [y] := A
                refine ⟨n + 2, by simp, by omega, by omega, ?_, (hsi.alloc hsi.size _).grown hg2 (by have := hsi.size; simp; omega) fun q e => (hlo q e).1⟩
                rw [show (n + 2) / 2 = n / 2 + 1 by omega, A']
                simpa [i64v] using hup'
            · have hm1 : ¬ (n : Int) < (c : Int) := by omega
              have en : n = c + 1 := by omega
              subst en
              have M2 : MidAt wr b c tot sh' (.slice (some ⟨rb, 0, none⟩) ls'.length cap) vs' (ls'.set k (sortZ l)) := M1.keep fun q hq => hsi.block q (M1.lt hq)
              obtain ⟨c0, c2, f2, c3, cr, fr⟩ := M2.rd hv
              have hs2 := M2.inner k _ (sortZ l) hv (by rw [List.getElem?_set_self hk])
              have hR : Rd wr.drew (.slice (if xc = c then some ⟨x, 0, none⟩ else some ⟨x, c, none⟩) (l.length - c) (xc - c)) (i64v ((sortZ l).drop c)) := by
                split
                · refine .inr ⟨_, _, _, rfl, by rw [List.length_map, List.length_drop, hsl], by omega, by omega, fun j u hu => ?_⟩
                  rw [List.getElem?_map, List.getElem?_drop, List.getElem?_eq_none (by omega)] at hu
                  cases hu
                · refine .inr ⟨_, _, _, rfl, by rw [List.length_map, List.length_drop, hsl], by omega, by omega, fun j u hu => ?_⟩
                  have := hs2.cells (g := x) rfl (c + j) u (by rw [List.getElem?_map, List.getElem?_drop] at hu; rw [List.getElem?_map]; exact hu)
                  rw [add0] at this
                  have e : (⟨x, c, none⟩ : Addr).add j = ⟨x, c + j, none⟩ := addc x c j
                  rw [e]; exact this
              have lb : b < wr.drew.heap.size := World.block_lt_of_cell? wr _ c3
              have lr : rb < wr.drew.heap.size := World.block_lt_of_cell? wr _ cr
              have hb1 : (i64v ((sortZ l).drop c)).length * 8 ≤ 140737488355328 := by rw [List.length_map, List.length_drop, hsl]; omega
              clear hm
              go_wp2_with fail
              go_region_law (first
                | (go_simp; go_at_call 16; go_must (refine (clone_w _ (i64v ((sortZ l).drop c)) wr.drew hR (i64v_one _) hb1).mono ?_); rintro e x1 ⟨v1, rfl, hown1, hs1⟩; have q1 : x1.cell? ⟨b, 3, none⟩ = some (.slice (some ⟨rb, 0, none⟩) ls'.length cap) := (hs1.cell lb).trans c3; have q2 : x1.cell? ⟨rb, k, none⟩ = some (.slice (some ⟨x, 0, none⟩) l.length xc) := (hs1.cell lr).trans cr; have q3 : x1.frozen? ⟨rb, k, none⟩ = false := (hs1.frozen lr).trans fr; have q4 : x1.cell? ⟨b, 0, none⟩ = some (.int .i64 c) := (hs1.cell lb).trans c0; obtain ⟨a1, k1, rfl⟩ := ownsRow_slice hown1))
              all_goals go_wp2_with fail
              all_goals (
                have M3 := M2.put rfl (i := k) (by rw [List.length_set]; exact hk) (v' := .slice a1 (i64v ((sortZ l).drop c)).length k1) (l' := (sortZ l).drop c) (w1 := x1) (by simpa using hown1) ⟨hs1.os, hs1.tape, hs1.output, hs1.size, hs1.block⟩
                rw [List.set_set] at M3
                have el : (i64v ((sortZ l).drop c)).length = l.length - c := by rw [List.length_map, List.length_drop, hsl]
                rw [el] at M3 hown1
                have T3 : Turn wr (x1.setCell ⟨rb, k, none⟩ (.slice a1 (l.length - c) k1)) (fun q => q = rb) := Turn.trans (b := x1) (o := fun _ => False) (o' := fun q => q = rb) ⟨hs1.os, hs1.tape, hs1.output, hs1.size, fun q hq _ => hs1.block q hq⟩ (Turn.cell _ _ rfl) (fun _ h => h.elim) fun _ _ e => e
                have hnew : ∀ q, (Value.slice a1 (l.length - c) k1).ownBlock = some q → wr.heap.size ≤ q := fun q e => (hown1.lt q e).1
                clear q1 q2 q3 q4 hown1 hs1 hb1 hR
                generalize (x1.setCell ⟨rb, k, none⟩ (.slice a1 (l.length - c) k1)) = W3 at *
                obtain ⟨t3, hb3⟩ := M3.blk
                clear c0 c2 f2 c3 cr fr
                have c2 : W3.cell? ⟨b, 2, none⟩ = some (.int .i64 sh') := cell_of_heap hb3 rfl
                have f2 : W3.frozen? ⟨b, 2, none⟩ = false := by simp [World.frozen?, hb3]
                have hk43 : (k : Int) < 43 := by omega
                go_still_tail 7, (by kernel_rfl)
                change wpList _ _ _ _ _ W3.drew
                go_wp2_with fail
                have hsh := F'.short
                have hpw : (2 : Int) ^ k = ((2 ^ k : Nat) : Int) := by simp
                have hpl : 2 ^ k ≤ 2 ^ 42 := Nat.pow_le_pow_right (by omega) (by omega)
                have hpz : ((2 ^ k : Nat) : Int) ≤ 4398046511104 := by
                  have : ((2 ^ k : Nat) : Int) ≤ ((2 ^ 42 : Nat) : Int) := Int.ofNat_le.2 hpl
                  simpa using this
                have hpp : (0 : Int) ≤ ((2 ^ k : Nat) : Int) := Int.natCast_nonneg _
                rw [hpw, wrap_small hpp (by omega), wrap_small (by omega) (by omega)]
                have M4 := M3.shorts (sh' + ((2 ^ k : Nat) : Int))
                have T4 : Turn W3 (W3.setCell ⟨b, 2, none⟩ (.int .i64 (sh' + ((2 ^ k : Nat) : Int)))).drew (fun q => q = b) := by
                  have h := Turn.cell (w := W3) ⟨b, 2, none⟩ (.int .i64 (sh' + ((2 ^ k : Nat) : Int))) (own := fun q => q = b) rfl
                  exact ⟨h.os, h.tape, h.output, h.size, h.block⟩
                generalize (W3.setCell ⟨b, 2, none⟩ (.int .i64 (sh' + ((2 ^ k : Nat) : Int)))).drew = W4 at *
                have hbl : b < W1.heap.size := M1.lt (.inl rfl)
                have hrl : rb < W1.heap.size := M1.lt (.inr (.inl rfl))
                have hw1 := hsi.size
                have R3 : Rd W3 _ _ := (ownsRow_rd hup).turn T3 fun q e e' => by have := (hup.lt q e).1; omega
                have R4 : Rd W4 _ _ := R3.turn T4 fun q e e' => by have := (hup.lt q e).1; omega
                rw [Nat.add_sub_cancel] at R4
                have ek : ((k + 1 : Nat) : Int) = (k : Int) + 1 := by omega
                have TA := T0.trans T1 (own := fun q => q = x) (fun _ h => h.elim) (fun _ _ e => e)
                have TB := TA.trans (c := wr) (o' := fun _ => False) (own := fun q => q = x) ⟨hsi.os, hsi.tape, hsi.output, hsi.size, fun q hq _ => hsi.block q hq⟩ (fun _ e => e) (fun _ _ h => h.elim)
                have TD := TB.trans T3 (own := fun q => q = x ∨ q = rb) (fun _ e => .inl e) (fun _ _ e => .inr e)
                have TE := TD.trans T4 (own := fun q => q = x ∨ q = rb ∨ q = b) (fun _ e => e.imp id .inl) (fun _ _ e => .inr (.inr e))
                have hset : (ls'.set k ((sortZ l).drop c)).length = ls'.length := List.length_set ..
                have hput := put_w b c tot (sh' + ((2 ^ k : Nat) : Int)) _ _ (ls'.set k ((sortZ l).drop c)) (k + 1) _ _ W4 M4 R4 (by rw [hset]; omega) (fun q e => by
                  have h1 := (hup.lt q e).1
                  rintro (h | h)
                  · omega
                  · simp [Value.ownBlock] at h; omega) (by rw [hset]; omega) (fun l' h => by
                  rw [List.getElem?_set_ne (by omega)] at h
                  have := F'.each h; omega) (by rw [odds_len, List.length_take]; omega)
                rw [ek] at hput
                refine hput.mono ?_
                rintro e w5 ⟨rfl, rv5, vs5, M5, T5, hr5, hv5⟩
                have hz4 := TE.size
                have hzr := TB.size
                have Hv5 : Hid (∀ v, v ∈ vs5 → _) := hv5
                have Hr5 : Hid (∀ k, _) := hr5
                clear hput ek hset hpw hpl hpz hpp hsh R3 R4 M3 M4 hv5 hr5 el c2 f2 hb3 hk43 hw1 hbl hrl hs2 hs
                go_wp2_with fail
                have hv5 := Hv5
                have hr5 := Hr5
                have hset : (ls'.set k ((sortZ l).drop c)).length = ls'.length := List.length_set ..
                go_roundg (l.length - c)
                case measure => omega
                case rel =>
                  refine ⟨_, rv5, vs5, _, (sortZ l).drop c, S.next hv M5 (Step.mk sh' ls' k l hl hful) (fun j hj => (putM_other _ _ _ (by omega) (by rw [hset]; omega)).trans (List.getElem?_set_ne (by omega))) ?_ ?_ ?_, (putM_other _ _ _ (by omega) (by rw [hset]; omega)).trans (List.getElem?_set_self hk), by rw [List.length_drop, hsl]⟩
                  · refine TE.trans T5 (fun q e => ?_) (fun q _ e => ?_)
                    · rcases e with e | e | e
                      · exact .inl e
                      · subst e; exact .inr (.inr rfl)
                      · exact .inr (.inl e)
                    · exact .inr e
                  · exact fun q h => (hr5 q h).imp id fun h => by omega
                  · intro v hv'
                    rcases hv5 v hv' with h | h
                    · rcases List.mem_or_eq_of_mem_set h with h | rfl
                      · exact .inl h
                      · exact .inr fun q e => Nat.le_trans hzr (hnew q e)
                    · exact .inr fun q e => Nat.le_trans hz4 (h q e))
        · have hfuli : ¬ (c : Int) ≤ (l.length : Int) := by omega
          go_wp2_with fail
          go_quiet (fail)
          go_wp2_with fail
          go_roundg (99 - k)
          case measure => omega
          case rel =>
            refine ⟨k + 1, by simp, by omega, sh', _, vs', ls', ⟨S.mid.keep fun _ _ => rfl, S.steps, fun j lj hj hlj => ?_, ⟨S.turn.os, S.turn.tape, S.turn.output, S.turn.size, S.turn.block⟩, S.own⟩, by omega⟩
            rcases Nat.lt_or_ge j k with g | g
            · exact S.low j lj g hlj
            · rw [show j = k by omega, hl] at hlj
              simp only [Option.some.injEq] at hlj; subst hlj; omega
    · go_wp2_with fail
      go_end0
      have e : k = ls'.length := by omega
      subst e
      exact ⟨rfl, sh', _, vs', ls', S⟩
end Go.Proofs.Ythhfhjchkldhiaa
