/- sketch.Middle: put, walked in the world. Own work; no condition. -/
import Derived.Test.YthhfhjchkldhiaaMd2
import Derived.Deep.RegionLaw
namespace Go.Proofs.Ythhfhjchkldhiaa
open Go Go.RowKit Go.Deep

/-- append of nothing. -/
theorem run_append_none {P : Program} (w : World) (base : Nat) (t ty e : TypeId) (i : TypeInfo) (ht : P.underlying t = some (.slice e)) (hi : P.info? e = some i) (v : Value) (n : Nat) (xs : List Value) (hown : w.ownsRow base e i.size v n xs) :
    (Builtin.append_ #[t, t] ty #[v, .slice none 0 0]).run P w = .ok v w := by
  obtain ⟨_, h2⟩ := hown
  rcases h2 with ⟨rfl, rfl⟩ | ⟨g, cap, cur, rfl, h3, h4, h5, h6, h7, h8⟩
  · simp [Builtin.append_, run_underlying ht, sizeOf, typeInfo, hi, Builtin.lenOf, Builtin.firstCells]
  · simp [Builtin.append_, run_underlying ht, sizeOf, typeInfo, hi, Builtin.lenOf, Builtin.firstCells, loadCells, storeCells, h5]
theorem run_append_rd {P : Program} (w : World) (base : Nat) (t ty e : TypeId) (i : TypeInfo) (z : Value) (bytes : Nat) (ht : P.underlying t = some (.slice e)) (hi : P.info? e = some i) (hz : i.zero = some z) (hsize : i.size = 1) (hby : i.bytes = bytes) (hzs : z.cells.size = 1)
    (v : Value) (n : Nat) (xs : List Value) (hown : w.ownsRow base e 1 v n xs) (x : Value) (news : List Value) (hx : Rd w x news) (h1 : ∀ u ∈ news, u.oneCell' = true)
    (h63 : n + news.length ≤ maxLen) (hbytes : (n + news.length) * bytes ≤ 140737488355328) (hbase : base ≤ w.heap.size) :
    ∃ v' w', (Builtin.append_ #[t, t] ty #[v, x]).run P w = .ok v' w' ∧ w'.ownsRow base e 1 v' (n + news.length) (xs ++ news) ∧ w.grownBy w' v.ownBlock ∧ (v'.ownBlock = v.ownBlock ∨ v'.ownBlock = some w.heap.size) := by
  rcases hx with ⟨rfl, rfl⟩ | ⟨ad, m, c, rfl, hm, hmc, hc, hcell⟩
  · exact ⟨v, w, run_append_none w base t ty e i ht hi v n xs (hsize ▸ hown), by simpa using hown, World.grownBy.refl _ _, .inl rfl⟩
  · subst hm
    obtain ⟨v', w', h2, h3, h4, _, h5⟩ := run_append_own_at (P := P) w base t ty e i z 1 bytes ht hi hz hsize hby hzs (by omega) v n xs hown ad news.length c news (by omega) hcell h1 h63 hbytes hbase
    exact ⟨v', w', h2, h3, h4, h5⟩
/-- The same at a step of a region that draws its order. -/
theorem step_append_rd {P : Program} {w : World} {ops : Array Oper} {o : Oper} {a : Act} {K : Act → World → Prop} {Q : Exit → Act → World → Prop} {E : Prop} (hgd : o.guard = none) (s x : Operand) (t : TypeId)
    (ho : o.op = .call { callee := .builtin .append, args := #[s, x], argTypes := #[t, t] })
    (base : Nat) (e : TypeId) (i : TypeInfo) (z : Value) (bytes : Nat) (ht : P.underlying t = some (.slice e)) (hi : P.info? e = some i) (hz : i.zero = some z) (hsize : i.size = 1) (hby : i.bytes = bytes) (hzs : z.cells.size = 1)
    (v : Value) (n : Nat) (xs : List Value) (hs : a.eval s = v) (hown : w.ownsRow base e 1 v n xs) (xv : Value) (news : List Value) (hx : a.eval x = xv) (hR : Rd w xv news) (h1 : ∀ u ∈ news, u.oneCell' = true)
    (h63 : n + news.length ≤ maxLen) (hbytes : (n + news.length) * bytes ≤ 140737488355328) (hbase : base ≤ w.heap.size)
    (h : ∀ v' w', w'.ownsRow base e 1 v' (n + news.length) (xs ++ news) → w.grownBy w' v.ownBlock → (v'.ownBlock = v.ownBlock ∨ v'.ownBlock = some w.heap.size) → K (a.put o.dst v') w') :
    if Region.wanted o (yielded ops a.tmps) = true then Oper.wp P o a w K Q else E := by
  have hw : Region.wanted o (yielded ops a.tmps) = true := by simp [Region.wanted, hgd]
  rw [if_pos hw]
  obtain ⟨v', w', hr, h2, h3, h4⟩ := run_append_rd (P := P) w base t o.type e i z bytes ht hi hz hsize hby hzs v n xs hown xv news hR h1 h63 hbytes hbase
  unfold Oper.wp execOp
  simp only [ho, resolve, invoke, builtin, Sem.run_bind, Sem.run_pure, Result.andThen_ok, List.map_toArray, List.map_cons, List.map_nil, hs, hx, hr]
  exact h v' w' h2 h3 h4

theorem Rd.since {w w' : World} {v : Value} {xs : List Value} (h : Rd w v xs) (hs : w.Since w.heap.size w') : Rd w' v xs := by
  rcases h with h | ⟨ad, m, c, h1, h2, h3, h4, h5⟩
  · exact .inl h
  · exact .inr ⟨ad, m, c, h1, h2, h3, h4, fun j u hu => by rw [hs.cell (World.block_lt_of_cell? w _ (h5 j u hu))]; exact h5 j u hu⟩

theorem ownsRow_slice {w : World} {base : Nat} {e : TypeId} {size : Nat} {v : Value} {n : Nat} {xs : List Value} (h : w.ownsRow base e size v n xs) : ∃ a c, v = .slice a n c := by
  rcases h.2 with ⟨rfl, rfl⟩ | ⟨g, cap, cur, rfl, _⟩ <;> exact ⟨_, _, rfl⟩

def putM (ls : List (List Int)) (h : Nat) (l : List Int) : List (List Int) := if h < ls.length then ls.set h ((ls[h]?).getD [] ++ l) else ls ++ [l]

set_option maxRecDepth 100000 in
set_option maxHeartbeats 4000000 in
theorem put_old (b : Nat) (c tot sh : Int) (rv : Value) (vs : List Value) (ls : List (List Int)) (h : Nat) (lv : Value) (l : List Int) (w : World) (M : MidAt w b c tot sh rv vs ls) (hh : h < ls.length) (R : Rd w lv (i64v l)) (hb : ((ls[h]?.getD []).length + l.length) * 8 ≤ 140737488355328) :
    Calls Try.prog 10 #[.pointer (some ⟨b, 0, none⟩), .int .i64 h, lv] w fun e w' => e = .returned (.tuple #[]) ∧ ∃ vs', MidAt w' b c tot sh rv vs' (ls.set h (ls[h]?.getD [] ++ l)) ∧ Turn w w' (fun k => rv.ownBlock = some k) ∧ ∀ v, v ∈ vs' → v ∈ vs ∨ ∀ k, v.ownBlock = some k → w.heap.size ≤ k := by
  obtain ⟨i0, hi0, hz0, hz1, hz2⟩ := info_parts info2
  obtain ⟨t, hbk⟩ := M.blk
  have c0 : w.cell? ⟨b, 0, none⟩ = some (.int .i64 c) := cell_of_heap hbk rfl
  have c3 : w.cell? ⟨b, 3, none⟩ = some rv := cell_of_heap hbk rfl
  obtain ⟨rb, cap, cur, hrv, h3, h4, h5, h6, h7, h8⟩ : ∃ g cap cur, rv = .slice (some ⟨g, 0, none⟩) ls.length cap ∧ 0 ≤ g ∧ w.heap[g]? = some (.cells cur 23 (0, 0)) ∧ ls.length ≤ cap ∧ cap ≤ maxLen ∧ cur.size = cap * 1 ∧ cur.toList.take (ls.length * 1) = vs := by
    rcases M.row.2 with ⟨_, e⟩ | x
    · omega
    · exact x
  have hvl : h < vs.length := by rw [M.vlen]; exact hh
  obtain ⟨v, hv⟩ : ∃ v, vs[h]? = some v := ⟨_, List.getElem?_eq_getElem hvl⟩
  obtain ⟨lh, hl⟩ : ∃ v, ls[h]? = some v := ⟨_, List.getElem?_eq_getElem hh⟩
  rw [hl, Option.getD_some] at hb ⊢
  have hin := M.inner h v lh hv hl
  have cr : w.cell? ⟨rb, h, none⟩ = some v := by
    refine cell_of_heap h4 ?_
    rw [← h8, List.getElem?_take, if_pos (by omega), Array.getElem?_toList] at hv
    exact hv
  have hfr : w.frozen? ⟨rb, h, none⟩ = false := by simp [World.frozen?, h4]
  have hi0' : (0 : Int) ≤ (h : Int) := Int.natCast_nonneg _
  have hi1 : (h : Int) < (ls.length : Int) := by omega
  subst hrv
  clear hbk h4 h8 hh hvl
  go_enter Try.func10, Try.ntmps10
  go_wp2_with fail
  refine wp_loop_rounds 1 ?_
  rw [rounds_succ]
  go_wp2_with fail
  have hR : Rd w.drew v (i64v lh) := ownsRow_rd hin
  have hR2 : Rd w.drew lv (i64v l) := R
  have lb : b < w.drew.heap.size := World.block_lt_of_cell? w _ c3
  have lr : rb < w.drew.heap.size := World.block_lt_of_cell? w _ cr
  have hb1 : (i64v lh).length * 8 ≤ 140737488355328 := by rw [List.length_map]; omega
  have hb2 : ((i64v lh).length + (i64v l).length) * 8 ≤ 140737488355328 := by rw [List.length_map, List.length_map]; omega
  have hb3 : (i64v lh).length + (i64v l).length ≤ maxLen := by simp only [maxLen]; omega
  go_region_law (first
      | (go_simp; go_at_call 16; refine (clone_w v (i64v lh) w.drew hR (i64v_one lh) hb1).mono ?_; rintro e w1 ⟨v1, rfl, hown1, hs1⟩; have q1 : w1.cell? ⟨b, 3, none⟩ = some (.slice (some ⟨rb, 0, none⟩) ls.length cap) := (hs1.cell lb).trans c3; have q2 : w1.cell? ⟨rb, h, none⟩ = some v := (hs1.cell lr).trans cr; have q3 : w1.frozen? ⟨rb, h, none⟩ = false := (hs1.frozen lr).trans hfr)
      | (refine step_append_rd (by rfl) _ _ _ (by rfl) _ 2 i0 _ 8 Try.underlying23 hi0 hz0 hz1 hz2 (by rfl) v1 _ _ (by rfl) hown1 lv (i64v l) (by rfl) (hR2.since hs1) (i64v_one l) hb3 hb2 hs1.size ?_; intro v2 w2 hown2 hg1 hat; obtain ⟨a2, k2, rfl⟩ := ownsRow_slice hown2; have hs2 := hs1.grown hg1 hs1.size (fun k e => (hown1.lt k e).1); have r1 : w2.cell? ⟨b, 3, none⟩ = some (.slice (some ⟨rb, 0, none⟩) ls.length cap) := (hs2.cell lb).trans c3; have r2 : w2.cell? ⟨rb, h, none⟩ = some v := (hs2.cell lr).trans cr; have r3 : w2.frozen? ⟨rb, h, none⟩ = false := (hs2.frozen lr).trans hfr))
  all_goals (
    go_end0
    have hP := M.put rfl (i := h) (by omega) (v' := .slice a2 ((i64v lh).length + (i64v l).length) k2) (l' := lh ++ l) (w1 := w2) (by simpa using hown2) ⟨hs2.os, hs2.tape, hs2.output, hs2.size, hs2.block⟩
    have hnew : ∀ k, (Value.slice a2 ((i64v lh).length + (i64v l).length) k2).ownBlock = some k → w.heap.size ≤ k := fun k e => (hown2.lt k e).1
    simp only [List.length_map] at hP hnew
    refine ⟨rfl, _, hP, (Turn.trans (o := fun k => k = rb) (o' := fun k => k = rb) (a := w) (b := w2) ⟨hs2.os, hs2.tape, hs2.output, hs2.size, fun k hk _ => hs2.block k hk⟩ (Turn.cell _ _ rfl) (fun k e => by subst e; rfl) (fun k _ e => by subst e; rfl)), fun u hu => ?_⟩
    rcases List.mem_or_eq_of_mem_set hu with hu | rfl
    · exact .inl hu
    · exact .inr hnew)

theorem Rd.turn {w w' : World} {v : Value} {xs : List Value} {own : Nat → Prop} (h : Rd w v xs) (hs : Turn w w' own) (hf : ∀ k, v.ownBlock = some k → ¬ own k) : Rd w' v xs := by
  rcases h with h | ⟨ad, m, c, h1, h2, h3, h4, h5⟩
  · exact .inl h
  · refine .inr ⟨ad, m, c, h1, h2, h3, h4, fun j u hu => ?_⟩
    have hc := h5 j u hu
    have hb : (ad.add j).block = ad.block := by unfold Addr.add; split <;> rfl
    have hlt := World.block_lt_of_cell? w _ hc
    rw [World.cell?_of_block (w := w) (hs.block _ hlt (by rw [hb]; exact hf _ (by rw [h1]; rfl)))]; exact hc

set_option maxRecDepth 100000 in
set_option maxHeartbeats 4000000 in
theorem put_new (b : Nat) (c tot sh : Int) (rv : Value) (vs : List Value) (ls : List (List Int)) (lv : Value) (l : List Int) (w : World) (M : MidAt w b c tot sh rv vs ls) (R : Rd w lv (i64v l)) (hfar : ∀ k, lv.ownBlock = some k → ¬ (k = b ∨ rv.ownBlock = some k)) (hn : (ls.length + 1) * 24 ≤ 140737488355328) (hb : l.length * 8 ≤ 140737488355328) :
    Calls Try.prog 10 #[.pointer (some ⟨b, 0, none⟩), .int .i64 ls.length, lv] w fun e w' => e = .returned (.tuple #[]) ∧ ∃ rv' vs', MidAt w' b c tot sh rv' vs' (ls ++ [l]) ∧ Turn w w' (fun k => k = b ∨ rv.ownBlock = some k) ∧
      (∀ k, rv'.ownBlock = some k → rv.ownBlock = some k ∨ w.heap.size ≤ k) ∧ ∀ v, v ∈ vs' → v ∈ vs ∨ ∀ k, v.ownBlock = some k → w.heap.size ≤ k := by
  obtain ⟨i0, hi0, hz0, hz1, hz2⟩ := info_parts info2
  obtain ⟨i3, ji0, jz0, jz1, jz2⟩ := info_parts info23
  obtain ⟨t, hbk⟩ := M.blk
  have c3 : w.cell? ⟨b, 3, none⟩ = some rv := cell_of_heap hbk rfl
  have lb0 : b < w.heap.size := M.lt (.inl rfl)
  have hfb : w.frozen? ⟨b, 3, none⟩ = false := by simp [World.frozen?, hbk]
  obtain ⟨ra, rc, hrv⟩ := ownsRow_slice M.row
  subst hrv
  go_enter Try.func10, Try.ntmps10
  go_wp2_with fail
  refine wp_loop_rounds 2 ?_
  rw [rounds_succ]
  go_wp2_with (at_builtin; refine wpList_append_lies _ rfl _ _ _ rfl 0 23 i3 _ 1 24 Try.underlying39 ji0 jz0 jz1 jz2 rfl (by omega) _ ls.length vs rfl (M.row.alloc _) ⟨w.heap.size, 0, none⟩ 1 1 [.slice none 0 0] rfl rfl (cell_one_new w _ _) (by simp [Value.oneCell']) (by omega) (by simp only [maxLen]; omega) hn (Nat.zero_le _) (w.heap.size + 1) (by simp) ?_; intro g cap w1 hown hg hat hlt; have q0 : (w.alloc (.cells #[.slice none 0 0] 23)).heap[b]? = some (.cells #[.int .i64 c, .int .i64 tot, .int .i64 sh, .slice ra ls.length rc] t (0, 0)) := (blk_alloc_lt _ _ _ lb0).trans hbk; have q1 : w1.heap[b]? = some (.cells #[.int .i64 c, .int .i64 tot, .int .i64 sh, .slice ra ls.length rc] t (0, 0)) := (hg.block b (by simp; omega) (fun e => M.d1 e.symm)).trans q0; have q2 : w1.cell? ⟨b, 3, none⟩ = some (.slice ra ls.length rc) := cell_of_heap q1 rfl; have q3 : w1.frozen? ⟨b, 3, none⟩ = false := by simp [World.frozen?, q1])
  rw [rounds_succ]
  go_wp2_with fail
  have M' := M.grow (w1 := w1) (rv' := .slice (some ⟨g, 0, none⟩) (ls.length + 1) cap) hown (Turn.trans (o := fun _ => False) (o' := fun k => Value.ownBlock (.slice ra ls.length rc) = some k) (Turn.since ((World.Since.refl w.heap.size w).alloc (Nat.le_refl _) (.cells #[.slice none 0 0] 23)) (Nat.le_refl _)) (Turn.grown hg fun k e _ => e) (fun _ h => h.elim) fun _ _ e => e) (hat.elim (fun e => .inl e.symm) fun e => .inr ⟨g, rfl, by omega⟩)
  have hT : Turn w (w1.setCell ⟨b, 3, none⟩ (.slice (some ⟨g, 0, none⟩) (ls.length + 1) cap)) (fun k => k = b ∨ Value.ownBlock (.slice ra ls.length rc) = some k) :=
    (Turn.trans (o := fun _ => False) (o' := fun k => Value.ownBlock (.slice ra ls.length rc) = some k) (own := fun k => Value.ownBlock (.slice ra ls.length rc) = some k) (Turn.since ((World.Since.refl w.heap.size w).alloc (Nat.le_refl _) (.cells #[.slice none 0 0] 23)) (Nat.le_refl _)) (Turn.grown hg fun k e _ => e) (fun _ h => h.elim) (fun _ _ e => e)).trans (o' := fun k => k = b) (Turn.cell _ _ rfl) (fun _ e => .inr e) fun _ _ e => .inl e
  have hgn : ∀ k, g = k → Value.ownBlock (.slice ra ls.length rc) = some k ∨ w.heap.size ≤ k := by
    rintro k rfl
    rcases hat with e | e
    · exact .inl e
    · exact .inr (by omega)
  clear hown hg hat hlt q0 q1 q2 q3 c3 hfb hbk
  generalize (w1.setCell ⟨b, 3, none⟩ (.slice (some ⟨g, 0, none⟩) (ls.length + 1) cap)) = W at *
  have R' := R.turn hT hfar
  obtain ⟨t, hbk⟩ := M'.blk
  have c3 : W.cell? ⟨b, 3, none⟩ = some (.slice (some ⟨g, 0, none⟩) (ls.length + 1) cap) := cell_of_heap hbk rfl
  have hlen : (ls ++ [[]]).length = ls.length + 1 := by simp
  obtain ⟨cur, h4, h5, h6, h7, h8⟩ : ∃ cur, W.heap[g]? = some (.cells cur 23 (0, 0)) ∧ ls.length + 1 ≤ cap ∧ cap ≤ maxLen ∧ cur.size = cap * 1 ∧ cur.toList.take ((ls.length + 1) * 1) = vs ++ [.slice none 0 0] := by
    have := M'.row.2
    rw [hlen] at this
    rcases this with ⟨e, _⟩ | ⟨g', cap', cur, e, _, x⟩
    · cases e
    · simp only [Value.slice.injEq, Option.some.injEq, Addr.mk.injEq, and_true, true_and] at e
      obtain ⟨rfl, rfl⟩ := e
      exact ⟨cur, x⟩
  have cr : W.cell? ⟨g, ls.length, none⟩ = some (.slice none 0 0) := by
    refine cell_of_heap h4 ?_
    have hv : (vs ++ [.slice none 0 0])[ls.length]? = some (Value.slice none 0 0) := by rw [← M.vlen]; simp
    rw [← h8, List.getElem?_take, if_pos (by omega), Array.getElem?_toList] at hv
    exact hv
  have hfr : W.frozen? ⟨g, ls.length, none⟩ = false := by simp [World.frozen?, h4]
  have hi0' : (0 : Int) ≤ (ls.length : Int) := Int.natCast_nonneg _
  have hi1 : (ls.length : Int) < (ls.length : Int) + 1 := by omega
  have hi2 : (ls.length : Int) < ((ls.length + 1 : Nat) : Int) := by omega
  clear hbk h4 h8 h7
  have hR : Rd W.drew (.slice none 0 0) (i64v ([] : List Int)) := .inl ⟨rfl, rfl⟩
  have hR2 : Rd W.drew lv (i64v l) := R'
  have lb : b < W.drew.heap.size := World.block_lt_of_cell? W _ c3
  have lr : g < W.drew.heap.size := World.block_lt_of_cell? W _ cr
  have hb1 : (i64v ([] : List Int)).length * 8 ≤ 140737488355328 := by simp
  have hb2 : ((i64v ([] : List Int)).length + (i64v l).length) * 8 ≤ 140737488355328 := by rw [List.length_map, List.length_map, List.length_nil]; omega
  have hb3 : (i64v ([] : List Int)).length + (i64v l).length ≤ maxLen := by simp only [maxLen]; omega
  go_region_law (first
      | (go_simp; go_at_call 16; refine (clone_w (.slice none 0 0) (i64v ([] : List Int)) W.drew hR (i64v_one []) hb1).mono ?_; rintro e x1 ⟨v1, rfl, hown1, hs1⟩; have q1 : x1.cell? ⟨b, 3, none⟩ = some (.slice (some ⟨g, 0, none⟩) (ls.length + 1) cap) := (hs1.cell lb).trans c3; have q2 : x1.cell? ⟨g, ls.length, none⟩ = some (.slice none 0 0) := (hs1.cell lr).trans cr; have q3 : x1.frozen? ⟨g, ls.length, none⟩ = false := (hs1.frozen lr).trans hfr)
      | (refine step_append_rd (by rfl) _ _ _ (by rfl) _ 2 i0 _ 8 Try.underlying23 hi0 hz0 hz1 hz2 (by rfl) v1 _ _ (by rfl) hown1 lv (i64v l) (by rfl) (hR2.since hs1) (i64v_one l) hb3 hb2 hs1.size ?_; intro v2 x2 hown2 hg1 hat; obtain ⟨a2, k2, rfl⟩ := ownsRow_slice hown2; have hs2 := hs1.grown hg1 hs1.size (fun k e => (hown1.lt k e).1); have r1 : x2.cell? ⟨b, 3, none⟩ = some (.slice (some ⟨g, 0, none⟩) (ls.length + 1) cap) := (hs2.cell lb).trans c3; have r2 : x2.cell? ⟨g, ls.length, none⟩ = some (.slice none 0 0) := (hs2.cell lr).trans cr; have r3 : x2.frozen? ⟨g, ls.length, none⟩ = false := (hs2.frozen lr).trans hfr))
  all_goals (
    go_end0
    have hP := M'.put rfl (i := ls.length) (by rw [hlen]; omega) (v' := .slice a2 ((i64v ([] : List Int)).length + (i64v l).length) k2) (l' := l) (w1 := x2) (by simpa using hown2) ⟨hs2.os, hs2.tape, hs2.output, hs2.size, hs2.block⟩
    have hnew : ∀ k, (Value.slice a2 ((i64v ([] : List Int)).length + (i64v l).length) k2).ownBlock = some k → W.heap.size ≤ k := fun k e => (hown2.lt k e).1
    simp only [List.length_map, List.length_nil, Nat.zero_add] at hP hnew
    have hset : (ls ++ [([] : List Int)]).set ls.length l = ls ++ [l] := by simp
    rw [hset] at hP
    refine ⟨rfl, _, _, hP, ?_, fun k e => hgn k (by simpa [Value.ownBlock] using e), fun u hu => ?_⟩
    · have h1 : Turn W x2 (fun _ => False) := ⟨hs2.os, hs2.tape, hs2.output, hs2.size, fun k hk _ => hs2.block k hk⟩
      have h2 : Turn W (x2.setCell ⟨g, ls.length, none⟩ (.slice a2 l.length k2)) (fun k => k = g) := h1.trans (o' := fun k => k = g) (Turn.cell _ _ rfl) (fun _ h => h.elim) (fun _ _ e => e)
      exact hT.trans h2 (fun _ e => e) (fun k hk e => by subst e; exact (hgn _ rfl).elim (fun h => .inr h) fun h => absurd h (by omega))
    · have hW := hT.size
      rcases List.mem_or_eq_of_mem_set hu with hu | rfl
      · rcases List.mem_append.1 hu with hu | hu
        · exact .inl hu
        · simp at hu; subst hu; exact .inr fun k e => by simp [Value.ownBlock] at e
      · exact .inr fun k e => Nat.le_trans hW (hnew k e))
end Go.Proofs.Ythhfhjchkldhiaa
