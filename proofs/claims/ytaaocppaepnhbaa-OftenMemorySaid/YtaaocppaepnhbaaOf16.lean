/- sketch.Often: lower, walked in the world. Own work; no condition. -/
import Derived.Test.YtaaocppaepnhbaaOf15
import Derived.Test.YtaaocppaepnhbaaOf7
import Derived.Laws.MakeOwn
import Derived.WideLaws
namespace Go.Proofs.Ytaaocppaepnhbaa
open Go Go.RowKit Go.Deep Go.Sort Go.Shelf
set_option linter.unusedVariables false
set_option linter.unusedSimpArgs false

theorem info2 : (Try.prog.info? 2).map (fun i => (i.zero, i.size, i.bytes)) = some (some (.int .i64 0), 1, 8) := by kernel_rfl
theorem ItAt.nodup {w : World} {b r : Nat} {E : Ents} {L : List VK} (h : ItAt w b r E L) : L.Nodup := by
  obtain ⟨es, clk, since, seen, c0, h1, h2, h3, h4, h5, h6, h7, h8⟩ := h; exact h8
def i64v (l : List Int) : List Value := l.map (.int .i64)
structure Part (E : Ents) (D : Ents) (L : List VK) : Prop where
  keys : (D.map (·.1) ++ L).Perm (E.map (·.1))
  val : ∀ d ∈ D, lkE E d.1 = some d.2
theorem Part.next {E D : Ents} {L : List VK} (h : Part E D L) {q : VK} {x : Int} (hq : q ∈ L) (hx : lkE E q = some x) : Part E (D ++ [(q, x)]) (L.erase q) := by
  refine ⟨?_, fun f hf => ?_⟩
  · refine List.Perm.trans ?_ h.keys
    simp only [List.map_append, List.map_cons, List.map_nil, List.append_assoc, List.singleton_append]
    exact List.Perm.append_left _ (List.perm_cons_erase hq).symm
  · rcases List.mem_append.1 hf with hf | hf
    · exact h.val f hf
    · simp at hf; subst hf; exact hx
theorem Part.len {E D : Ents} {L : List VK} (h : Part E D L) : D.length + L.length = E.length := by
  have := h.keys.length_eq; simpa using this
theorem erase_len {q : VK} {L : List VK} (h : q ∈ L) : (L.erase q).length + 1 = L.length := by
  have := List.length_erase_of_mem h
  have := List.length_pos_of_mem h
  omega

theorem cut_len {least : Int} : ∀ E : Ents, (E.filterMap (cut least)).length = (E.filter fun p => decide (least < p.2)).length
  | [] => rfl
  | p :: r => by
    have ih := cut_len (least := least) r
    rw [List.filterMap_cons, List.filter_cons]
    unfold cut
    by_cases h : p.2 ≤ least
    · have h' : ¬ least < p.2 := by omega
      simp only [h, h', if_true, decide_false, Bool.false_eq_true, if_false]; exact ih
    · have h' : least < p.2 := by omega
      simp only [h, h', if_false, decide_true, if_true, List.length_cons]; rw [← ih]; rfl
theorem Low.len {k : Nat} {lost least : Int} {E : Ents} {l' : Int} (h : Low k lost E l' (E.filterMap (cut least))) (hk : k < E.length) (hl : l' = lost + least) : (E.filterMap (cut least)).length ≤ k := by
  rcases h.ex with ⟨h1, _⟩ | ⟨_, x, h2, h3, h4, _⟩
  · omega
  · have : x = least := by omega
    subst this
    rw [cut_len]; exact h4
theorem Turn.mapT {w w' : World} {b : Nat} (h : w.mapTurned w' b) : Turn w w' (fun q => q = b) := by
  obtain ⟨es, c, es', c', hb, rfl⟩ := h
  exact ⟨rfl, rfl, rfl, by simp [Go.ChangeMaps.setBlock], fun k hk hn => (Go.MapKept.heap_set hb).2 k hn⟩
abbrev sortedW (w : World) (q x : Nat) (zs : List Int) (os : Array Obj) : World := grow (putRow (Value.int .i64) (Sort.ahead w q) x 0 zs.toArray) os
theorem sortedW_turn (w : World) (q x : Nat) (zs : List Int) (os : Array Obj) : Turn w (sortedW w q x zs os) (fun k => k = x) :=
  ⟨rfl, rfl, rfl, by simp [sortedW, grow, putRow, size_mapBlock, Sort.ahead], fun k hk hn => by
    rw [heap_grow (by rw [putRow, size_mapBlock]; exact hk), putRow, heap_mapBlock_other _ hn]; rfl⟩
theorem holdsI {w : World} {base g n cap : Nat} {zs : List Int} (h : w.ownsRow base 2 1 (.slice (some ⟨g, 0, none⟩) n cap) n (i64v zs)) : Holds (Value.int .i64) w g 0 zs.toArray := by
  intro j hj
  have hj' : j < zs.length := by simpa using hj
  have hl := h.1
  simp only [i64v, List.length_map] at hl
  rcases h.2 with ⟨e, _⟩ | ⟨g', cap', cur, e, _, hg, _, _, _, hx⟩
  · cases e
  · simp only [Value.slice.injEq, Option.some.injEq, Addr.mk.injEq, and_true] at e
    obtain ⟨rfl, _, rfl⟩ := e
    rw [Nat.zero_add]
    refine ⟨?_, by simp [World.frozen?, hg]⟩
    have h1 : cur.toList[j]? = some (.int .i64 zs[j]) := by
      have h2 : (i64v zs)[j]? = some (.int .i64 zs[j]) := by simp [i64v, hj']
      rw [← h2, ← hx, List.getElem?_take, if_pos (by omega)]
    rw [getElem!_pos _ j hj]
    exact cell_of_heap hg (by simpa using h1)
theorem cellI_sorted {w : World} {base g n cap : Nat} {F F' : List Int} (h : w.ownsRow base 2 1 (.slice (some ⟨g, 0, none⟩) n cap) n (i64v F)) (hl : F'.length = F.length) (q : Nat) (os : Array Obj) {j : Nat} {x : Int} (hx : F'[j]? = some x) :
    (sortedW w q g F' os).cell? ⟨g, j, none⟩ = some (.int .i64 x) := by
  have hFl := h.1
  simp only [i64v, List.length_map, Nat.mul_one] at hFl
  have hj := (List.getElem?_eq_some_iff.1 hx).1
  have hjx := (List.getElem?_eq_some_iff.1 hx).2
  rcases h.2 with ⟨e, _⟩ | ⟨g', cap', cur, e, h3, h4, h5, h6, h7, h8⟩
  · cases e
  · simp only [Value.slice.injEq, Option.some.injEq, Addr.mk.injEq, and_true] at e
    obtain ⟨rfl, _, rfl⟩ := e
    have hlt : g < w.heap.size := (Array.getElem?_eq_some_iff.1 h4).1
    have hh : (sortedW w q g F' os).heap[g]? = some (.cells (putCells (Value.int .i64) 0 F'.toArray cur) 2 (0, 0)) := by
      unfold sortedW
      rw [heap_grow (by rw [putRow, size_mapBlock]; exact hlt), putRow, heap_mapBlock_same _ (by exact h4)]
    refine cell_of_heap hh ?_
    have hjc : j < cur.size := by omega
    simp only [putCells, Array.getElem?_mapIdx, Array.getElem?_eq_getElem hjc, Option.map_some, Nat.zero_le, true_and, Nat.zero_add, Nat.sub_zero, List.size_toArray, hj, if_true]
    rw [getElem!_pos _ j (by simpa using hj)]
    simp [hjx]

set_option maxRecDepth 100000 in
set_option maxHeartbeats 4000000 in
theorem lower_w (o b k : Nat) (tot lost : Int) (E : Ents) (w : World) (M : OftAt w o b k tot lost E) (hk : 1 ≤ k ∧ k ≤ 1024) (hE : E.length ≤ 1000000) (hv : ∀ p ∈ E, 0 ≤ p.2 ∧ 0 ≤ lost ∧ p.2 + lost ≤ 4611686018427387904) :
    Calls Try.prog 19 #[.pointer (some ⟨o, 0, none⟩)] w fun e w' => e = .returned (.tuple #[]) ∧ ∃ lost' E', OftAt w' o b k tot lost' E' ∧ Turn w w' (fun q => q = o ∨ q = b) ∧ Low k lost E lost' E' := by
  obtain ⟨t, hbk⟩ := M.blk
  obtain ⟨K, hK⟩ : ∃ K : Int, K = k := ⟨_, rfl⟩
  obtain ⟨N, hN⟩ : ∃ N : Int, N = E.length := ⟨_, rfl⟩
  have c0 : w.cell? ⟨o, 0, none⟩ = some (.int .i64 K) := by rw [hK]; exact cell_of_heap hbk rfl
  have c2 : w.cell? ⟨o, 2, none⟩ = some (.int .i64 lost) := cell_of_heap hbk rfl
  have c3 : w.cell? ⟨o, 3, none⟩ = some (.map (some b)) := cell_of_heap hbk rfl
  have hlo := M.lt
  have hlb := M.map.lt
  obtain ⟨es, clk, hbm, hst⟩ := M.map
  have hln : ∀ W : World, W.heap[b]? = some (.map es clk) → (Builtin.len_ #[44] 3 #[.map (some b)]).run Try.prog W = .ok (.int .i64 N) W := fun W hW => by rw [hN]; exact (show MapAt W b E from ⟨es, clk, hW, hst⟩).len 3 mt44
  have HN : Hid (K = k ∧ N = E.length ∧ OftAt w o b k tot lost E ∧ (1 ≤ k ∧ k ≤ 1024)) := ⟨hK, hN, M, hk⟩
  by_cases hle : E.length ≤ k
  · have hle' : ¬ K < N := by omega
    have HN : Hid (K = k ∧ N = E.length ∧ OftAt w o b k tot lost E ∧ (1 ≤ k ∧ k ≤ 1024) ∧ E.length ≤ k) := ⟨hK, hN, M, hk, hle⟩
    have hl1 := hln w.drew hbm
    have hl2 := fun n => hln (w.drewN n) hbm
    clear hln
    clear hK hN hbk M hk hst hE hv hle
    go_enter Try.func19, Try.ntmps19
    go_wp2_with fail
    refine wp_loop_rounds 1 ?_
    rw [rounds_succ]
    go_wp2_with fail
    go_quiet (fail)
    go_wp2_with fail
    go_end0
    obtain ⟨e1, e2, e3, e4, e5⟩ := (show _ ∧ _ from HN)
    exact ⟨rfl, lost, E, e3.keep rfl rfl, ⟨rfl, rfl, rfl, Nat.le_refl _, fun _ _ _ => rfl⟩, ⟨.inl ⟨e5, rfl, rfl⟩⟩⟩
  · have hle' : K < N := by omega
    have hl1 := hln w.drew hbm
    have hl2 := fun n => hln (w.drewN n) hbm
    have HN : Hid (K = k ∧ N = E.length ∧ OftAt w o b k tot lost E ∧ (1 ≤ k ∧ k ≤ 1024) ∧ ¬ E.length ≤ k ∧ E.length ≤ 1000000 ∧ (∀ p ∈ E, 0 ≤ p.2 ∧ 0 ≤ lost ∧ p.2 + lost ≤ 4611686018427387904)) := ⟨hK, hN, M, hk, hle, hE, hv⟩
    have HL : Hid (∀ W : World, W.heap[b]? = some (.map es clk) → (Builtin.len_ #[44] 3 #[.map (some b)]).run Try.prog W = .ok (.int .i64 N) W) := hln
    clear hln
    clear hK hN hbk M hk hst hE hv hle
    go_enter Try.func19, Try.ntmps19
    go_wp2_with fail
    refine wp_loop_rounds 2 ?_
    rw [rounds_succ]
    go_wp2_with fail
    go_quiet (fail)
    generalize hW0 : w.drewN nq = W0
    have T0 : Turn w W0 (fun _ => False) := by subst hW0; exact ⟨rfl, rfl, rfl, Nat.le_refl _, fun _ _ _ => rfl⟩
    have M0 : OftAt W0 o b K tot lost E := by
      obtain ⟨e1, e2, e3, e4⟩ := (show _ ∧ _ from HN)
      rw [e1]; subst hW0; exact e3.keep rfl rfl
    obtain ⟨i0, hi0', hzz, hzs, hzb⟩ := info_parts info2
    have hbm0 : W0.heap[b]? = some (.map es clk) := by subst hW0; exact hbm
    have hl0 := (show ∀ W : World, W.heap[b]? = some (.map es clk) → (Builtin.len_ #[44] 3 #[.map (some b)]).run Try.prog W = .ok (.int .i64 N) W from HL) W0 hbm0
    obtain ⟨W1, hmake, hown, hg1⟩ := run_make_own (P := Try.prog) W0 W0.heap.size 65 2 i0 (.int .i64 0) 1 Try.underlying65 hi0' hzz hzs .i64 .i64 E.length (by obtain ⟨_, _, _, _, _, e5, _⟩ := (show _ ∧ _ from HN); rw [hzb]; omega) (by obtain ⟨_, _, _, _, _, e5, _⟩ := (show _ ∧ _ from HN); simp [maxLen]; omega) (Nat.le_refl _)
    have hNE : (N : Int) = (E.length : Int) := (show _ ∧ _ from HN).2.1
    rw [← hNE] at hmake
    have hs1 : W0.Since W0.heap.size W1 := (World.Since.refl _ W0).grown hg1 (Nat.le_refl _) (by simp)
    have M1 : OftAt W1 o b K tot lost E := M0.keep (hs1.block o M0.lt) (hs1.block b M0.map.lt)
    obtain ⟨W2, hrun, hit, hg2, hz2'⟩ := M1.map.range mt44
    have hs2 : W0.Since W0.heap.size W2 := hs1.grown hg2 hs1.size (by simp)
    have hown2 : W2.ownsRow W0.heap.size 2 1 (.slice (some ⟨W0.heap.size, 0, none⟩) 0 E.length) 0 [] := ownsRow_keep hown fun q e => hg2.block q (hown.lt q e).2 (by simp)
    obtain ⟨t0, hb0⟩ := M0.blk
    have d3 : W0.cell? ⟨o, 3, none⟩ = some (.map (some b)) := cell_of_heap hb0 rfl
    have d3' : W1.cell? ⟨o, 3, none⟩ = some (.map (some b)) := (hs1.cell M0.lt).trans d3
    have HW : Hid (Turn w W0 (fun _ => False) ∧ OftAt W0 o b K tot lost E) := ⟨T0, M0⟩
    clear hb0 T0 M0 M1 hbm0 hg1 hNE c0 c2 c3 hl1 hl2 hW0 hbm
    have hr1 : W0.heap.size < W1.heap.size := (hown.lt _ rfl).2
    have hown2b : ∀ q, (Value.slice (some ⟨W0.heap.size, 0, none⟩) 0 E.length).ownBlock = some q → q ≠ W1.heap.size := fun q e => by simp [Value.ownBlock] at e; omega
    have P0 : Part E [] (E.map (·.1)) := ⟨by simp, by simp⟩
    clear hown
    generalize hr : W0.heap.size = r at *
    generalize W1.heap.size = r1 at *
    go_wp2_with fail
    go_loopg [2] E.length (fun g t wr => ∃ (D : Ents) (L : List VK), wr.ownsRow r 2 1 t D.length (i64v (D.map (·.2))) ∧ (∀ q, t.ownBlock = some q → q ≠ r1) ∧ ItAt wr b r1 E L ∧ Part E D L ∧ g = L.length ∧ W0.Since r wr ∧ r1 < wr.heap.size)
    case atStart => exact ⟨[], _, hown2, hown2b, hit, P0, by simp, hs2, by omega⟩
    case round =>
      obtain ⟨D, L, hown, hne, hit, P, hg, hs, hlt⟩ := hrel
      have hnx := hit.next 0
      have hlen := P.len
      clear hrun P0 hown2 hown2b hs2 hmake hs1 hl0 d3 d3'
      rcases hnx with ⟨rfl, hn⟩ | ⟨q, x, w2, hqL, hqx, hqo, hn, hit2, hen, hg2, hz2⟩
      · obtain ⟨e1, e2, e3, e4, e5, e6, e7⟩ := (show _ ∧ _ from HN)
        obtain ⟨hT0, hM0⟩ := (show _ ∧ _ from HW)
        have hDlen : D.length = E.length := by simpa using hlen
        obtain ⟨V, hV⟩ : ∃ V, V = D.map (·.2) := ⟨_, rfl⟩
        have hVl : V.length = E.length := by rw [hV]; simpa using hDlen
        have hVp : V.Perm (E.map (·.2)) := by rw [hV]; exact vals_perm hit.map.uniq (by simpa using P.keys) P.val
        obtain ⟨g, cap, eu, hgr, hgl⟩ := hown.form (by omega)
        subst eu
        have hgne : g ≠ r1 := hne g rfl
        rw [← hV, show D.length = V.length by omega] at hown
        rw [show D.length = V.length by omega]
        obtain ⟨S, hS⟩ : ∃ S, S = V.mergeSort fun x y => decide (x ≤ y) := ⟨_, rfl⟩
        have hSl : S.length = V.length := by rw [hS]; exact (List.mergeSort_perm _ _).length_eq
        have hso := sort_w g 0 cap V wr (holdsI hown) hgl (by omega)
        rw [← hS] at hso
        obtain ⟨least, hleast⟩ : ∃ y, S[E.length - k - 1]? = some y := ⟨_, List.getElem?_eq_getElem (by omega)⟩
        have hLow : Low k lost E (lost + least) (E.filterMap (cut least)) := Low.of (by omega) hVp (by rw [← hS]; exact hleast)
        have hVN : (V.length : Int) = N := by omega
        have hv7 : 0 ≤ least ∧ 0 ≤ lost ∧ lost + least ≤ 4611686018427387904 := by
          rcases hLow.ex with ⟨h, _⟩ | ⟨_, l2, h2, _, _, _, p, hp, hp2⟩
          · omega
          · have := e7 p hp; omega
        have hu2 := hit.map.uniq
        obtain ⟨t1, hbo⟩ := hM0.blk
        have hbo' : wr.heap[o]? = some (.cells #[.int .i64 K, .int .i64 tot, .int .i64 lost, .map (some b)] t1 (0, 0)) := (hs.block o (hr ▸ hM0.lt)).trans hbo
        have hor : o < r := hr ▸ hM0.lt
        have hbr : b < r := hr ▸ hM0.map.lt
        have hidx : E.length - k - 1 = (N - K).toNat - 1 := by omega
        have hcl := fun nq os => cellI_sorted (F' := S) hown hSl nq os (hidx ▸ hleast)
        have hN3 : N ≤ 1000000 := by omega
        have hK3 : 1 ≤ K := by omega
        have hK4 : K ≤ 1024 := by omega
        have HY : Hid (g ≠ r1 ∧ r ≤ g ∧ g < wr.heap.size ∧ ItAt wr b r1 E [] ∧ W0.Since r wr ∧ o < r ∧ b < r) := ⟨hgne, hgr, hgl, hit, hs, hor, hbr⟩
        have HLow : Hid (Low k lost E (lost + least) (E.filterMap (cut least))) := hLow
        clear hlen hne P hown hS hV hVp hVl hDlen hSl hleast hLow e7 e6 hit hs hM0 hT0 hbo e3 e1 e2 e4 e5 hidx
        go_wp2_with fail
        refine hso.mono ?_
        rintro e w5 ⟨rfl, nq', os, rfl⟩
        have hT5 : Turn wr (grow (putRow (Value.int .i64) (Sort.ahead wr nq') g 0 S.toArray) os) (fun k => k = g) := sortedW_turn wr nq' g S os
        have hcl5 : (grow (putRow (Value.int .i64) (Sort.ahead wr nq') g 0 S.toArray) os).cell? ⟨g, (N - K).toNat - 1, none⟩ = some (.int .i64 least) := hcl nq' os
        generalize (grow (putRow (Value.int .i64) (Sort.ahead wr nq') g 0 S.toArray) os) = W5 at *
        obtain ⟨y1, y2, y3, y4, y5, y6, y7⟩ := (show _ ∧ _ from HY)
        have hob : o ≠ b := (show _ ∧ _ from HW).2.ne
        have hz5 := hT5.size
        have hbo5 : W5.heap[o]? = some (.cells #[.int .i64 K, .int .i64 tot, .int .i64 lost, .map (some b)] t1 (0, 0)) := (hT5.block o (by omega) (by omega)).trans hbo'
        have d0 : W5.cell? ⟨o, 0, none⟩ = some (.int .i64 K) := cell_of_heap hbo5 rfl
        have d2 : W5.cell? ⟨o, 2, none⟩ = some (.int .i64 lost) := cell_of_heap hbo5 rfl
        have d3 : W5.cell? ⟨o, 3, none⟩ = some (.map (some b)) := cell_of_heap hbo5 rfl
        have df : W5.frozen? ⟨o, 2, none⟩ = false := by simp [World.frozen?, hbo5]
        obtain ⟨X, hX⟩ : ∃ X, X = lost + least := ⟨_, rfl⟩
        have hw : IntKind.i64.wrap (lost + least) = X := (IntWalk.i64_in (lost + least) ⟨by omega, by omega⟩).trans hX.symm
        have MA5 : MapAt W5 b E := y4.map.keep (hT5.block b (by omega) (by omega))
        have MA6 : MapAt (W5.setCell ⟨o, 2, none⟩ (.int .i64 X)) b E := MA5.keep (blk_setCell_other _ _ _ _ (fun e => hob e.symm))
        have hbo6 : (W5.setCell ⟨o, 2, none⟩ (.int .i64 X)).heap[o]? = some (.cells #[.int .i64 K, .int .i64 tot, .int .i64 X, .map (some b)] t1 (0, 0)) := setCell_heap (i := 2) hbo5 _
        have T6 : Turn W0 (W5.setCell ⟨o, 2, none⟩ (.int .i64 X)) (fun q => q = o ∨ q = b) := by
          refine Turn.trans (o' := fun q => q = o) (Turn.trans (o' := fun q => q = g) (Turn.since (own := fun _ => False) y5 (by omega)) hT5 (own := fun _ => False) (fun _ h => h) fun q hq e => ?_) (Turn.cell _ _ rfl) (fun _ h => h.elim) fun q _ e => .inl e
          omega
        obtain ⟨W7, hrg, hit7, hg7, hz7⟩ := MA6.range mt44
        have T7 : Turn W0 W7 (fun q => q = o ∨ q = b) := T6.trans (o' := fun _ => False) (Turn.grown hg7 (by simp)) (fun _ h => h) fun _ _ h => h.elim
        have hbo7 : W7.heap[o]? = some (.cells #[.int .i64 K, .int .i64 tot, .int .i64 X, .map (some b)] t1 (0, 0)) := (hg7.block o (Array.getElem?_eq_some_iff.1 hbo6).1 (by simp)).trans hbo6
        have hr7 : r < (W5.setCell ⟨o, 2, none⟩ (.int .i64 X)).heap.size := by simp; omega
        have HZ : Hid (X = lost + least ∧ Turn W0 W7 (fun q => q = o ∨ q = b) ∧ o ≠ b ∧ o < r ∧ b < r) := ⟨hX, T7, hob, y6, y7⟩
        have d67 : (W5.setCell ⟨o, 2, none⟩ (.int .i64 X)).cell? ⟨o, 3, none⟩ = some (.map (some b)) := cell_of_heap hbo6 rfl
        clear hbo5 MA5 MA6 hbo6 T6 hT5 y1 y2 y3 y4 y5 y6 y7 hob hX T7 hg7 hbo' hso hcl hgr hgl hgne
        generalize hr2 : (W5.setCell ⟨o, 2, none⟩ (.int .i64 X)).heap.size = r2 at *
        go_wp2_with fail
        clear hcl5 d0 d2 d3 df d67 hrg hw hi0' hzz hzs hzb
        go_loopg [6] E.length (fun g _ wu => ∃ (L : List VK), ItAt wu b r2 (E.filterMap (half least L)) L ∧ g = L.length ∧ (∀ q, q ∈ L → q ∈ E.map (·.1)) ∧ Turn W0 wu (fun q => q = o ∨ q = b) ∧ wu.heap[o]? = some (.cells #[.int .i64 K, .int .i64 tot, .int .i64 X, .map (some b)] t1 (0, 0)) ∧ r2 < wu.heap.size)
        case atStart => exact ⟨E.map (·.1), by rw [half_all]; exact hit7, by simp, fun q h => h, (show _ ∧ _ from HZ).2.1, hbo7, by omega⟩
        case round =>
          clear hit7 hbo7 hz5 hz7
          obtain ⟨L, hit, hg, hin, hT, hbo, hlt⟩ := hrel
          have hnx := hit.next 0
          rcases hnx with ⟨rfl, hn⟩ | ⟨q, x, w2, hqL, hqx, hqo, hn, hit2, hen, hg2, hz2⟩
          · rw [half_nil] at hit
            obtain ⟨e1, e2, e3, e4, e5, e6, e7⟩ := (show _ ∧ _ from HN)
            have hlo2 := (show Low _ _ _ _ _ from HLow)
            obtain ⟨z1, z2, z3, z4, z5⟩ := (show _ ∧ _ from HZ)
            have hEl : (E.filterMap (cut least)).length ≤ k := hlo2.len (by omega) (by omega)
            obtain ⟨N', hN'⟩ : ∃ N' : Int, N' = (E.filterMap (cut least)).length := ⟨_, rfl⟩
            have hKN : ¬ K < N' := by omega
            have hq2 : ∀ n, (Builtin.len_ #[44] 3 #[.map (some b)]).run Try.prog (wr.drewN n) = .ok (.int .i64 N') (wr.drewN n) := fun n => by
              rw [hN']; exact (hit.map.keep (w' := wr.drewN n) rfl).len 3 mt44
            have hq1 : (Builtin.len_ #[44] 3 #[.map (some b)]).run Try.prog wr.drew = .ok (.int .i64 N') wr.drew := by
              rw [hN']; exact (hit.map.keep (w' := wr.drew) rfl).len 3 mt44
            have d0 : wr.cell? ⟨o, 0, none⟩ = some (.int .i64 K) := cell_of_heap hbo rfl
            have d3 : wr.cell? ⟨o, 3, none⟩ = some (.map (some b)) := cell_of_heap hbo rfl
            have HF : Hid (X = lost + least ∧ OftAt wr o b k tot X (E.filterMap (cut least)) ∧ Turn w wr (fun q => q = o ∨ q = b) ∧ Low k lost E (lost + least) (E.filterMap (cut least))) := by
              refine ⟨z1, ⟨⟨_, by rw [← e1]; exact hbo⟩, hit.map⟩, ?_, hlo2⟩
              exact Turn.trans (show _ ∧ _ from HW).1 hT (fun _ h => h.elim) fun _ _ h => h
            clear e1 e2 e3 e4 e5 e6 e7 z1 z2 z3 z4 z5 hEl hN' hlo2 hit hbo hT
            go_wp2_with fail
            rw [rounds_succ]
            go_wp2_with fail
            go_quiet (fail)
            go_wp2_with fail
            go_end0
            obtain ⟨f1, f2, f3, f4⟩ := (show _ ∧ _ from HF)
            exact ⟨rfl, X, _, f2.keep rfl rfl, f3.trans (o' := fun _ => False) ⟨rfl, rfl, rfl, Nat.le_refl _, fun _ _ _ => rfl⟩ (fun _ h => h) (fun _ _ h => h.elim), f1 ▸ f4⟩
          · obtain ⟨z1, z2, z3, z4, z5⟩ := (show _ ∧ _ from HZ)
            have hLq := erase_len hqL
            have hnd := hit.nodup
            have hEu : Uniq E := by obtain ⟨_, _, e3, _⟩ := (show _ ∧ _ from HN); exact e3.map.uniq
            have hqE : lkE E q = some x := by rw [look_half hqL] at hqx; exact hqx
            have hne2 := hit.ne
            have hlo2 : o < wr.heap.size := (Array.getElem?_eq_some_iff.1 hbo).1
            have hlb2 : b < wr.heap.size := hit.map.lt
            have hor2 : o ≠ r2 := by
              intro e
              obtain ⟨_, _, _, _, _, _, _, h3, _⟩ := hit
              rw [e] at hbo; rw [hbo] at h3; cases h3
            have hT2 : Turn wr w2 (fun q => q = r2) := Turn.grown hg2 (fun k e _ => by simpa using e.symm)
            have hbo2 : w2.heap[o]? = some (.cells #[.int .i64 K, .int .i64 tot, .int .i64 X, .map (some b)] t1 (0, 0)) := (hg2.block o hlo2 (fun e => hor2 (by simpa using e))).trans hbo
            have hbx : (w2.alloc (.cells #[.int .i64 q.k, .int .i64 q.n, .string q.s] 28)).heap[w2.heap.size]? = some (.cells #[.int .i64 q.k, .int .i64 q.n, .string q.s] 28 (0, 0)) := heap_alloc_new _ _
            have hit3 : ItAt (w2.alloc (.cells #[.int .i64 q.k, .int .i64 q.n, .string q.s] 28)).drew b r2 (E.filterMap (half least L)) (L.erase q) := hit2.keep (blk_alloc_lt _ _ _ (by omega)) (blk_alloc_lt _ _ _ (by omega))
            have hbo3 : (w2.alloc (.cells #[.int .i64 q.k, .int .i64 q.n, .string q.s] 28)).heap[o]? = some (.cells #[.int .i64 K, .int .i64 tot, .int .i64 X, .map (some b)] t1 (0, 0)) := (blk_alloc_lt _ _ _ (by omega)).trans hbo2
            have hT3 : Turn wr (w2.alloc (.cells #[.int .i64 q.k, .int .i64 q.n, .string q.s] 28)).drew (fun q => q = r2) := hT2.trans (o' := fun _ => False) ⟨rfl, rfl, rfl, by simp, fun j hj _ => blk_alloc_lt _ _ _ hj⟩ (fun _ h => h) fun _ _ h => h.elim
            have hz3 : (w2.alloc (.cells #[.int .i64 q.k, .int .i64 q.n, .string q.s] 28)).heap.size = w2.heap.size + 1 := by simp
            have hqv : q.val = .agg #[.int .i64 q.k, .int .i64 q.n, .string q.s] := rfl
            rw [hqv] at hn hen
            have hvx : 0 ≤ x ∧ x ≤ 4611686018427387904 := by
              obtain ⟨_, _, _, _, _, _, e7⟩ := (show _ ∧ _ from HN)
              have := e7 _ ((look_mem hEu).1 hqE); simp at this; omega
            by_cases hl : x ≤ least
            · obtain ⟨w4, hdl, hit4, hm4⟩ := hit3.drop hqx (fun h => (hnd.mem_erase_iff.1 h).1 rfl) 0 mt44
              rw [half_del hEu hnd hqE hqL hl] at hit4
              rw [hqv] at hdl
              have hT4 : Turn W0 w4 (fun q => q = o ∨ q = b) := hT.trans (hT3.trans (Turn.mapT hm4) (own := fun q => q = r2 ∨ q = b) (fun _ h => .inl h) fun _ _ h => .inr h) (fun _ h => h) fun j hj h => by
                rcases h with h | h
                · omega
                · exact .inr h
              have hbo4 : w4.heap[o]? = some (.cells #[.int .i64 K, .int .i64 tot, .int .i64 X, .map (some b)] t1 (0, 0)) := ((Turn.mapT hm4).block o (by show o < (w2.alloc _).heap.size; simp; omega) z3).trans hbo3
              have HR : Hid (ItAt w4 b r2 (E.filterMap (half least (L.erase q))) (L.erase q) ∧ (L.erase q).length + 1 = L.length ∧ (∀ q', q' ∈ L.erase q → q' ∈ E.map (·.1)) ∧ Turn W0 w4 (fun q => q = o ∨ q = b) ∧ w4.heap[o]? = some (.cells #[.int .i64 K, .int .i64 tot, .int .i64 X, .map (some b)] t1 (0, 0)) ∧ r2 < w4.heap.size) := ⟨hit4, hLq, fun q' h => hin q' (List.mem_of_mem_erase h), hT4, hbo4, hit4.lt⟩
              have d3 : (w2.alloc (.cells #[.int .i64 q.k, .int .i64 q.n, .string q.s] 28)).cell? ⟨o, 3, none⟩ = some (.map (some b)) := cell_of_heap hbo3 rfl
              have u0 : (w2.alloc (.cells #[.int .i64 q.k, .int .i64 q.n, .string q.s] 28)).cell? ⟨w2.heap.size, 0, none⟩ = some (.int .i64 q.k) := cell_of_heap hbx rfl
              have u1 : (w2.alloc (.cells #[.int .i64 q.k, .int .i64 q.n, .string q.s] 28)).cell? ⟨w2.heap.size, 1, none⟩ = some (.int .i64 q.n) := cell_of_heap hbx rfl
              have u2 : (w2.alloc (.cells #[.int .i64 q.k, .int .i64 q.n, .string q.s] 28)).cell? ⟨w2.heap.size, 2, none⟩ = some (.string q.s) := cell_of_heap hbx rfl
              clear hT4 hbo4 hm4 hit4 hT hbo hbo2 hbx hit3 hbo3 hT3 hz3 hit2 hg2 hit z1 z2 z3 z4 z5 hLq hin hqE hqx hqv hnd hEu hqL hz2 hT2 hqo
              generalize q.k = k1 at *
              generalize q.n = n1 at *
              generalize q.s = s1 at *
              go_wp2_with fail
              go_region
              all_goals (
                go_wp2_with fail
                go_roundg (gk - 1)
                case measure => have := (show _ ∧ _ from HR).2.1; omega
                case rel =>
                  obtain ⟨f1, f2, f3, f4, f5, f6⟩ := (show _ ∧ _ from HR)
                  exact ⟨L.erase q, f1, by omega, f3, f4, f5, f6⟩)
            · obtain ⟨w4, hdl, hit4, hm4⟩ := hit3.store hqx (x - least) mt44
              rw [half_put hnd hqL hl hEu hqE] at hit4
              rw [hqv] at hdl
              have hl2 : least < x := by omega
              obtain ⟨Y, hY⟩ : ∃ Y, Y = x - least := ⟨_, rfl⟩
              have hwY : IntKind.i64.wrap (x - least) = Y := (IntWalk.i64_in (x - least) ⟨by omega, by omega⟩).trans hY.symm
              rw [← hY] at hdl
              clear hY
              have hT4 : Turn W0 w4 (fun q => q = o ∨ q = b) := hT.trans (hT3.trans (Turn.mapT hm4) (own := fun q => q = r2 ∨ q = b) (fun _ h => .inl h) fun _ _ h => .inr h) (fun _ h => h) fun j hj h => by
                rcases h with h | h
                · omega
                · exact .inr h
              have hbo4 : w4.heap[o]? = some (.cells #[.int .i64 K, .int .i64 tot, .int .i64 X, .map (some b)] t1 (0, 0)) := ((Turn.mapT hm4).block o (by show o < (w2.alloc _).heap.size; simp; omega) z3).trans hbo3
              have HR : Hid (ItAt w4 b r2 (E.filterMap (half least (L.erase q))) (L.erase q) ∧ (L.erase q).length + 1 = L.length ∧ (∀ q', q' ∈ L.erase q → q' ∈ E.map (·.1)) ∧ Turn W0 w4 (fun q => q = o ∨ q = b) ∧ w4.heap[o]? = some (.cells #[.int .i64 K, .int .i64 tot, .int .i64 X, .map (some b)] t1 (0, 0)) ∧ r2 < w4.heap.size) := ⟨hit4, hLq, fun q' h => hin q' (List.mem_of_mem_erase h), hT4, hbo4, hit4.lt⟩
              have d3 : (w2.alloc (.cells #[.int .i64 q.k, .int .i64 q.n, .string q.s] 28)).cell? ⟨o, 3, none⟩ = some (.map (some b)) := cell_of_heap hbo3 rfl
              have u0 : (w2.alloc (.cells #[.int .i64 q.k, .int .i64 q.n, .string q.s] 28)).cell? ⟨w2.heap.size, 0, none⟩ = some (.int .i64 q.k) := cell_of_heap hbx rfl
              have u1 : (w2.alloc (.cells #[.int .i64 q.k, .int .i64 q.n, .string q.s] 28)).cell? ⟨w2.heap.size, 1, none⟩ = some (.int .i64 q.n) := cell_of_heap hbx rfl
              have u2 : (w2.alloc (.cells #[.int .i64 q.k, .int .i64 q.n, .string q.s] 28)).cell? ⟨w2.heap.size, 2, none⟩ = some (.string q.s) := cell_of_heap hbx rfl
              clear hT4 hbo4 hm4 hit4 hT hbo hbo2 hbx hit3 hbo3 hT3 hz3 hit2 hg2 hit z1 z2 z3 z4 z5 hLq hin hqE hqx hqv hnd hEu hqL hz2 hT2 hqo
              generalize q.k = k1 at *
              generalize q.n = n1 at *
              generalize q.s = s1 at *
              go_wp2_with fail
              go_region
              all_goals (
                go_wp2_with fail
                go_roundg (gk - 1)
                case measure => have := (show _ ∧ _ from HR).2.1; omega
                case rel =>
                  obtain ⟨f1, f2, f3, f4, f5, f6⟩ := (show _ ∧ _ from HR)
                  exact ⟨L.erase q, f1, by omega, f3, f4, f5, f6⟩)
      · have hs2 : W0.Since r w2 := hs.grown hg2 (by omega) (fun k e => by simp at e; omega)
        have hown2 : w2.ownsRow r 2 1 u2 D.length (i64v (D.map (·.2))) := ownsRow_keep hown fun k e => hg2.block k (hown.lt k e).2 (fun e' => hne k e (by simpa using e'))
        have HH : Hid (ItAt w2 b r1 E (L.erase q) ∧ W0.Since r w2 ∧ Part E (D ++ [(q, x)]) (L.erase q) ∧ (L.erase q).length + 1 = L.length ∧ (∀ q, u2.ownBlock = some q → q ≠ r1) ∧ b < r ∧ r < r1 ∧ (∀ q, u2.ownBlock = some q → r ≤ q)) := ⟨hit2, hs2, P.next hqL hqx, erase_len hqL, hne, hr ▸ (show _ ∧ _ from HW).2.map.lt, hr1, fun q e => (hown.lt q e).1⟩
        have hDl : D.length ≤ 1000000 := by have := (show _ ∧ _ from HN).2.2.2.2.2.1; omega
        have hr2 : r ≤ w2.heap.size := by omega
        have hwz : Hid (w2.heap.size = wr.heap.size ∧ r1 < wr.heap.size) := ⟨hz2, hlt⟩
        clear hit hs hit2 hs2 hown hqx hqo hg2 hqL hne hz2
        go_wp2_with (at_builtin; go_must (refine wpList_append_lies _ rfl _ _ _ rfl r 2 i0 _ 1 8 Try.underlying65 hi0' hzz hzs hzb rfl (by omega) _ D.length (i64v (D.map (·.2))) rfl (hown2.alloc _) ⟨w2.heap.size, 0, none⟩ 1 1 [.int .i64 x] rfl rfl (World.news_of_block (heap_alloc_new _ _)) (by simp [Value.oneCell']) (by omega) (by simp only [maxLen]; omega) (by omega) (by simp; omega) _ rfl ?_); intro g2 cap2 w3 hown3 hg3 hat3 hlt3; clear hown2)
        go_roundg (gk - 1)
        case measure => obtain ⟨_, _, _, e4, _⟩ := (show _ ∧ _ from HH); omega
        case rel =>
          obtain ⟨h1, h2, h3, h4, h5, h6, h7, hown0⟩ := (show _ ∧ _ from HH)
          obtain ⟨z1, z2⟩ := (show _ ∧ _ from hwz)
          have hsz3 : w2.heap.size < w3.heap.size := by have := hg3.size; simp at this; omega
          have hk3 : ∀ j, j ≤ r1 → ¬ u2.ownBlock = some j → w3.heap[j]? = w2.heap[j]? := fun j hj hne => (hg3.block j (by simp; omega) (fun e => hne e.symm)).trans (blk_alloc_lt _ _ _ (by omega))
          refine ⟨D ++ [(q, x)], L.erase q, ?_, ?_, h1.keep (hk3 b (by omega) fun e => by have := hown0 _ e; omega) (hk3 r1 (Nat.le_refl _) fun e => h5 _ e rfl), h3, by omega, ?_, by omega⟩
          · simpa [i64v] using hown3
          · intro q' e
            simp [Value.ownBlock] at e; subst e
            rcases hat3 with h | h
            · exact h5 _ h
            · simp at h; omega
          · exact ⟨hg3.os.trans h2.os, hg3.tape.trans h2.tape, hg3.output.trans h2.output, by have := h2.size; omega, fun j hj => (hk3 j (by omega) fun e => by have := hown0 _ e; omega).trans (h2.block j hj)⟩
end Go.Proofs.Ytaaocppaepnhbaa
