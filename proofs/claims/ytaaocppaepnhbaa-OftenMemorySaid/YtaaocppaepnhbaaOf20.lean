/- OftenTells: often, walked in the world. Own work; no condition. -/
import Derived.Test.YtaaocppaepnhbaaOf19
namespace Go.Proofs.Ytaaocppaepnhbaa
open Go Go.RowKit Go.Deep Go.Sort Go.Shelf
set_option linter.unusedVariables false
set_option linter.unusedSimpArgs false

theorem Told.strict {E : Ents} {lost : Int} {F : List FV} (hu : Uniq E) (hc : ∀ p ∈ E, cleanV p.1 = p.1) (h : Told E lost F) (hs : SortedIn (ltOf ordF) 0 F.length F.toArray) {i : Nat} {f g : FV} (hf : F[i]? = some f) (hg : F[i + 1]? = some g) : ordV f.v g.v < 0 := by
  have hil := (List.getElem?_eq_some_iff.1 hg).1
  have h1 := hs i (i + 1) (Nat.zero_le _) (by omega) hil
  have e1 : F.toArray[i]! = f := by simp [getElem!_def, hf]
  have e2 : F.toArray[i + 1]! = g := by simp [getElem!_def, hg]
  rw [e1, e2] at h1
  have h2 : 0 ≤ ordV g.v f.v := by have := of_decide_eq_false h1; simp only [ordF] at this; omega
  rw [ordV_eq] at h2 ⊢
  have h3 := cmpV_cmp.swap (cleanV g.v) (cleanV f.v)
  rcases Int.lt_or_eq_of_le h2 with h4 | h4
  · omega
  · exfalso
    have e := cmpV_cmp.eq0 _ _ h4.symm
    have hcl : ∀ x : FV, x ∈ F → cleanV x.v = x.v := fun x hx => by
      have := h.val x hx
      exact hc _ ((look_mem hu).1 this.1)
    rw [hcl g (List.mem_of_getElem? hg), hcl f (List.mem_of_getElem? hf)] at e
    have hnd : (F.map (·.v)).Nodup := h.keys.nodup_iff.2 hu.nodup
    have := List.pairwise_iff_getElem.1 (List.nodup_iff_pairwise_ne.1 hnd) i (i + 1) (by simp; omega) (by simpa using hil) (by omega)
    simp only [List.getElem_map] at this
    obtain ⟨_, e3⟩ := List.getElem?_eq_some_iff.1 hf
    obtain ⟨_, e4⟩ := List.getElem?_eq_some_iff.1 hg
    rw [e3, e4] at this
    exact this e.symm
theorem row_cell {w : World} {base n : Nat} {g cap : Nat} {F : List FV} (h : w.ownsRow base 39 5 (.slice (some ⟨g, 0, none⟩) n cap) n (flatF F)) {i : Nat} {f : FV} (hf : F[i]? = some f) {j : Nat} {v : Value} (hv : (encF f)[j]? = some v) : w.cell? ⟨g, i * 5 + j, none⟩ = some v := by
  have hil := (List.getElem?_eq_some_iff.1 hf).1
  have hj : j < 5 := by have := (List.getElem?_eq_some_iff.1 hv).1; simpa [encF] using this
  have hn : F.length = n := by have := h.1; rw [flatF_len] at this; omega
  have h1 := flat_get F (i * 5 + j) (by omega)
  rw [show (i * 5 + j) / 5 = i by omega, show (i * 5 + j) % 5 = j by omega] at h1
  have e1 : F[i]! = f := by rw [getElem!_def, hf]
  rw [e1, getElem!_def, hv] at h1
  rcases h.2 with ⟨e, _⟩ | ⟨g', cap', cur, e, _, hg, _, _, _, hx⟩
  · cases e
  · simp only [Value.slice.injEq, Option.some.injEq, Addr.mk.injEq, and_true] at e
    obtain ⟨rfl, _, rfl⟩ := e
    refine cell_of_heap hg ?_
    rw [← hx, List.getElem?_take, if_pos (by omega)] at h1
    simpa using h1
theorem ownsRow_slice {w : World} {base : Nat} {e : TypeId} {size : Nat} {v : Value} {n : Nat} {xs : List Value} (h : w.ownsRow base e size v n xs) : ∃ a c, v = .slice a n c := by
  rcases h.2 with ⟨e, e0⟩ | ⟨g, cap, cur, e, _⟩
  · exact ⟨none, 0, by rw [e, e0]⟩
  · exact ⟨_, _, e⟩
theorem alloc3_cells (w : World) (A B C : Obj) : (((w.alloc A).alloc B).alloc C).heap[w.heap.size]? = some A ∧ (((w.alloc A).alloc B).alloc C).heap[w.heap.size + 1]? = some B ∧ (((w.alloc A).alloc B).alloc C).heap[w.heap.size + 2]? = some C := by
  refine ⟨?_, ?_, ?_⟩
  · rw [blk_alloc_lt _ _ _ (by simp; omega), blk_alloc_lt _ _ _ (by simp)]; exact heap_alloc_new _ _
  · rw [blk_alloc_lt _ _ _ (by simp)]
    have := heap_alloc_new (w.alloc A) B; simpa using this
  · have := heap_alloc_new ((w.alloc A).alloc B) C; simpa using this

set_option maxRecDepth 100000 in
set_option maxHeartbeats 4000000 in
theorem often_w (o b c k : Nat) (tot lost : Int) (E N : Ents) (x : VK) (hx : x.Ok) (w : World) (M : OftAt w o b k tot lost E) (C : MapAt w c N) (I : Inv k tot lost E N) :
    Calls Try.prog 15 #[.pointer (some ⟨o, 0, none⟩), .agg #[.map (some c), .int .i64 tot], .int .i64 k, x.val] w fun e w' => e = .returned (.bool true) ∧ w.Since w.heap.size w' := by
  obtain ⟨h0, h1, h2⟩ := alloc3_cells w (.cells #[.pointer (some ⟨o, 0, none⟩)] 23 (0, 0)) (.cells #[.map (some c), .int .i64 tot] 46 (0, 0)) (.cells #[.int .i64 x.k, .int .i64 x.n, .string x.s] 28 (0, 0))
  have S1 : w.Since w.heap.size (((w.alloc (.cells #[.pointer (some ⟨o, 0, none⟩)] 23 (0, 0))).alloc (.cells #[.map (some c), .int .i64 tot] 46 (0, 0))).alloc (.cells #[.int .i64 x.k, .int .i64 x.n, .string x.s] 28 (0, 0))) := (((World.Since.refl _ w).alloc (Nat.le_refl _) _).alloc (by simp) _).alloc (by simp; omega) _
  have hz1 : (((w.alloc (.cells #[.pointer (some ⟨o, 0, none⟩)] 23 (0, 0))).alloc (.cells #[.map (some c), .int .i64 tot] 46 (0, 0))).alloc (.cells #[.int .i64 x.k, .int .i64 x.n, .string x.s] 28 (0, 0))).heap.size = w.heap.size + 3 := by simp
  have hxv : x.val = .agg #[.int .i64 x.k, .int .i64 x.n, .string x.s] := rfl
  rw [hxv]
  obtain ⟨K, hK⟩ : ∃ K : Int, K = k := ⟨_, rfl⟩
  have HK : Hid (K = k) := hK
  have hk1 : 1 ≤ K := by have := I.hk; omega
  have hk2 : K ≤ 1024 := by have := I.hk; omega
  rw [← hK]
  have ht2 := I.htot
  have ht0 : 0 ≤ tot := by have := I.bound M.map.uniq x; have := I.hlost; omega
  obtain ⟨wide, hwd⟩ : ∃ d, d = tot / (k + 1) := ⟨_, rfl⟩
  have hq : tot.tdiv (K + 1) = wide := by rw [hwd, hK]; exact Int.tdiv_eq_ediv_of_nonneg ht0
  have hwl : lost ≤ wide ∧ wide ≤ 4611686018427387904 := by
    rw [hwd]; refine ⟨I.wide, ?_⟩
    exact Int.le_trans (Int.ediv_le_self _ ht0) ht2
  have hw0 : 0 ≤ wide := by have := I.hlost; omega
  have hw2 : wide ≤ 4611686018427387904 := hwl.2
  clear hK hwd
  go_enter Try.func15, Try.ntmps15
  go_wp2_with fail
  generalize (((w.alloc (.cells #[.pointer (some ⟨o, 0, none⟩)] 23 (0, 0))).alloc (.cells #[.map (some c), .int .i64 tot] 46 (0, 0))).alloc (.cells #[.int .i64 x.k, .int .i64 x.n, .string x.s] 28 (0, 0))) = W1 at *
  have M1 : OftAt W1 o b k tot lost E := M.keep (S1.block o M.lt) (S1.block b M.map.lt)
  have C1 : MapAt W1 c N := C.keep (S1.block c C.lt)
  have b0 : W1.cell? ⟨w.heap.size, 0, none⟩ = some (.pointer (some ⟨o, 0, none⟩)) := cell_of_heap h0 rfl
  have b1 : W1.cell? ⟨w.heap.size + 1, 0, none⟩ = some (.map (some c)) := cell_of_heap h1 rfl
  have b1' : W1.cell? ⟨w.heap.size + 1, 1, none⟩ = some (.int .i64 tot) := cell_of_heap h1 rfl
  have y0 : W1.cell? ⟨w.heap.size + 1 + 1, 0, none⟩ = some (.int .i64 x.k) := cell_of_heap h2 rfl
  have y1 : W1.cell? ⟨w.heap.size + 1 + 1, 1, none⟩ = some (.int .i64 x.n) := cell_of_heap h2 rfl
  have y2 : W1.cell? ⟨w.heap.size + 1 + 1, 2, none⟩ = some (.string x.s) := cell_of_heap h2 rfl
  have HX : Hid (x.Ok ∧ Inv k tot lost E N ∧ w.Since w.heap.size W1 ∧ w.heap.size + 3 = W1.heap.size ∧ MapAt W1 c N) := ⟨hx, I, S1, hz1.symm, C1⟩
  have htt : ∀ n, Calls Try.prog 9 #[.pointer (some ⟨o, 0, none⟩)] (W1.drewN n) fun e w' => e = .returned (.int .i64 tot) ∧ w' = W1.drewN n := fun n => total_w o b k tot lost E _ (M1.keep rfl rfl)
  clear h0 h1 h2 hx I M C hxv S1 hz1 C1
  go_quiet (first | (go_at_call 9; with_reducible refine Calls.quiet_of_same (htt _)))
  generalize hW2 : W1.drewN nq = W2
  have T2 : Turn W1 W2 (fun _ => False) := by subst hW2; exact ⟨rfl, rfl, rfl, Nat.le_refl _, fun _ _ _ => rfl⟩
  have hz2 : W2.heap.size = W1.heap.size := by subst hW2; rfl
  obtain ⟨hx, I, S1, hz1, C1⟩ := (show _ ∧ _ from HX)
  have S3 : W1.Since W1.heap.size (W2.alloc (.cells #[.int .i64 wide] 2)) := by
    have : W1.Since W1.heap.size W2 := ⟨T2.os, T2.tape, T2.output, T2.size, fun j hj => T2.block j hj id⟩
    exact this.alloc (by omega) _
  have M3 := M1.keep (S3.block o M1.lt) (S3.block b M1.map.lt)
  have C3 := C1.keep (S3.block c C1.lt)
  have hz3 : (W2.alloc (.cells #[.int .i64 wide] 2)).heap.size = W2.heap.size + 1 := by simp
  have e0 := since_cell S3 (by omega) b0
  have e1 := since_cell S3 (by omega) b1
  have e2 := since_cell S3 (by omega) b1'
  have e3 : (W2.alloc (.cells #[.int .i64 wide] 2)).cell? ⟨W2.heap.size, 0, none⟩ = some (.int .i64 wide) := cell_of_heap (heap_alloc_new _ _) rfl
  have v0 := since_cell S3 (by omega) y0
  have v1 := since_cell S3 (by omega) y1
  have v2 := since_cell S3 (by omega) y2
  have hbd := I.bound M1.map.uniq
  have hal := all_w o b k tot lost E _ M3 (by have := I.len; have := I.hk; omega) (fun p hp => by
    have h1 := hbd p.1
    rw [(look_mem M1.map.uniq (q := p.1) (x := p.2)).2 hp] at h1
    have := I.hlost
    simp at h1; omega)
  have hvv : x.val = .agg #[.int .i64 x.k, .int .i64 x.n, .string x.s] := rfl
  have hall : ∀ (w4 : World) (F : List FV), (W2.alloc (.cells #[.int .i64 wide] 2)).Since (W2.alloc (.cells #[.int .i64 wide] 2)).heap.size w4 → Told E lost F → (¬ K < (F.length : Int)) ∧
      w4.cell? ⟨w.heap.size, 0, none⟩ = some (.pointer (some ⟨o, 0, none⟩)) ∧ w4.cell? ⟨w.heap.size + 1, 0, none⟩ = some (.map (some c)) ∧ w4.cell? ⟨W2.heap.size, 0, none⟩ = some (.int .i64 wide) ∧
      w4.cell? ⟨w.heap.size + 1 + 1, 0, none⟩ = some (.int .i64 x.k) ∧ w4.cell? ⟨w.heap.size + 1 + 1, 1, none⟩ = some (.int .i64 x.n) ∧ w4.cell? ⟨w.heap.size + 1 + 1, 2, none⟩ = some (.string x.s) ∧
      Calls Try.prog 20 #[.agg #[.int .i64 x.k, .int .i64 x.n, .string x.s], .pointer (some ⟨w.heap.size, 0, none⟩), .pointer (some ⟨w.heap.size + 1, 0, none⟩), .pointer (some ⟨W2.heap.size, 0, none⟩)] w4 fun e w' => e = .returned (.bool true) ∧ w4.Since w4.heap.size w' := fun w4 F hs hT => by
    have hF : F.length = E.length := by have := hT.keys.length_eq; simpa using this
    have hKk : K = k := HK
    have a0 := since_cell hs (by omega) e0
    have a1 := since_cell hs (by omega) e1
    have a3 := since_cell hs (by omega) e3
    refine ⟨by have := I.len; omega, a0, a1, a3, since_cell hs (by omega) v0, since_cell hs (by omega) v1, since_cell hs (by omega) v2, ?_⟩
    rw [← hvv]
    exact told_w o b c _ _ _ k tot lost wide E N x hx w4 (M3.keep (hs.block o M3.lt) (hs.block b M3.map.lt)) (C3.keep (hs.block c C3.lt)) I hwl a0 a1 a3
  have HY : Hid (x.Ok ∧ Inv k tot lost E N ∧ w.Since w.heap.size W1 ∧ w.heap.size + 3 = W1.heap.size ∧ MapAt (W2.alloc (.cells #[.int .i64 wide] 2)) c N ∧ OftAt (W2.alloc (.cells #[.int .i64 wide] 2)) o b k tot lost E ∧ W1.Since W1.heap.size (W2.alloc (.cells #[.int .i64 wide] 2)) ∧ W2.heap.size = W1.heap.size) := ⟨hx, I, S1, hz1, C3, M3, S3, hz2⟩
  have c0 : W2.cell? ⟨w.heap.size, 0, none⟩ = some (.pointer (some ⟨o, 0, none⟩)) := by subst hW2; exact b0
  have c1 : W2.cell? ⟨w.heap.size + 1, 1, none⟩ = some (.int .i64 tot) := by subst hW2; exact b1'
  clear htt HX hW2 T2 hx I S1 hz1 C1 S3 M3 C3 hz3 hvv b0 b1 b1' y0 y1 y2 hbd M1 hz2
  go_wp2_with (go_at_call 7; (with_reducible refine hal.mono ?_); rintro e w4 ⟨u, F, rfl, hown, hs4, hT, hsd⟩; obtain ⟨ua, uc, rfl⟩ := ownsRow_slice hown; obtain ⟨hFK, d0, d1, d3, z0, z1, z2, htd⟩ := hall w4 F hs4 hT)
  refine htd.mono ?_
  rintro e w5 ⟨rfl, hs5⟩
  obtain ⟨hx, I, S1, hz1, C3, M3, S3, hz2⟩ := (show _ ∧ _ from HY)
  have hz4 := hs4.size
  have hz5 := hs5.size
  have hz3 : (W2.alloc (.cells #[.int .i64 wide] 2)).heap.size = W2.heap.size + 1 := by simp
  have S5 : (W2.alloc (.cells #[.int .i64 wide] 2)).Since (W2.alloc (.cells #[.int .i64 wide] 2)).heap.size w5 := since_trans hs4 hs5 hz4
  have own5 : w5.ownsRow (W2.alloc (.cells #[.int .i64 wide] 2)).heap.size 39 5 (.slice ua F.length uc) F.length (flatF F) := ownsRow_keep hown fun q e => hs5.block q (hown.lt q e).2
  have hFE : F.length = E.length := by have := hT.keys.length_eq; simpa using this
  have hbase : ∀ W : World, w5.Since w5.heap.size W → OftAt W o b k tot lost E ∧ MapAt W c N ∧ W.ownsRow (W2.alloc (.cells #[.int .i64 wide] 2)).heap.size 39 5 (.slice ua F.length uc) F.length (flatF F) ∧
      W.cell? ⟨w.heap.size, 0, none⟩ = some (.pointer (some ⟨o, 0, none⟩)) ∧ W.cell? ⟨w.heap.size + 1, 0, none⟩ = some (.map (some c)) ∧ W.cell? ⟨W2.heap.size, 0, none⟩ = some (.int .i64 wide) := fun W hs => by
    have hsS := since_trans S5 hs S5.size
    exact ⟨M3.keep (hsS.block o M3.lt) (hsS.block b M3.map.lt), C3.keep (hsS.block c C3.lt), ownsRow_keep own5 fun q e => hs.block q (own5.lt q e).2, since_cell hsS (by omega) e0, since_cell hsS (by omega) e1, since_cell hsS (by omega) e3⟩
  have hfin : ∀ W : World, w5.Since w5.heap.size W → w.Since w.heap.size W := fun W hs => since_trans S1 (since_trans S3 (since_trans S5 hs S5.size) S3.size) (by omega)
  have hlim : F.length ≤ 1024 := by have := I.len; have := I.hk; omega
  have hst : ∀ j f g, F[j]? = some f → F[j + 1]? = some g → ordV f.v g.v < 0 := fun j f g h1 h2 => hT.strict M3.map.uniq (fun p hp => (I.pos p hp).2) hsd h1 h2
  have hval : ∀ (j : Nat) f, F[j]? = some f → f.v.Ok ∧ cleanV f.v = f.v ∧ (lkE E f.v).getD 0 = f.low ∧ f.high = f.low + lost ∧ 0 < f.low ∧ f.low + lost ≤ 4611686018427387904 := fun j f hj => by
    have hm := hT.val f (List.mem_of_getElem? hj)
    have hme := (look_mem M3.map.uniq).1 hm.1
    have hp := I.pos _ hme
    have hb := I.bound M3.map.uniq f.v
    rw [hm.1] at hb
    simp only [Option.getD_some] at hb
    refine ⟨M3.map.ok _ hme, hp.2, by rw [hm.1]; rfl, hm.2, hp.1, by omega⟩
  have hlost := I.hlost
  have hkeys : ∀ q, 0 < (lkE E q).getD 0 → ∃ (j : Nat) (f : FV), F[j]? = some f ∧ f.v = q := fun q hq => by
    cases hxx : lkE E q with
    | none => rw [hxx] at hq; simp at hq
    | some y =>
      have h1 : q ∈ E.map (·.1) := List.mem_map.2 ⟨_, (look_mem M3.map.uniq).1 hxx, rfl⟩
      obtain ⟨f, hf, e⟩ := List.mem_map.1 (hT.keys.mem_iff.2 h1)
      obtain ⟨j, hj⟩ := List.getElem?_of_mem hf
      exact ⟨j, f, hj, e⟩
  have HZ : Hid (Inv k tot lost E N ∧ (∀ W : World, w5.Since w5.heap.size W → w.Since w.heap.size W) ∧ (∀ q, 0 < (lkE E q).getD 0 → ∃ (j : Nat) (f : FV), F[j]? = some f ∧ f.v = q) ∧ (∀ j f g, F[j]? = some f → F[j + 1]? = some g → ordV f.v g.v < 0)) := ⟨I, hfin, hkeys, hst⟩
  have HB : Hid (∀ W : World, w5.Since w5.heap.size W → OftAt W o b k tot lost E ∧ MapAt W c N ∧ W.ownsRow (W2.alloc (.cells #[.int .i64 wide] 2)).heap.size 39 5 (.slice ua F.length uc) F.length (flatF F) ∧
      W.cell? ⟨w.heap.size, 0, none⟩ = some (.pointer (some ⟨o, 0, none⟩)) ∧ W.cell? ⟨w.heap.size + 1, 0, none⟩ = some (.map (some c)) ∧ W.cell? ⟨W2.heap.size, 0, none⟩ = some (.int .i64 wide)) := hbase
  have HV : Hid (∀ (j : Nat) f, F[j]? = some f → f.v.Ok ∧ cleanV f.v = f.v ∧ (lkE E f.v).getD 0 = f.low ∧ f.high = f.low + lost ∧ 0 < f.low ∧ f.low + lost ≤ 4611686018427387904) := hval
  have hmk : (Instr.makeMap 58 none).run Try.prog w5 = .ok (.map (some w5.heap.size)) (w5.alloc (.map #[] 0)) := by simp [@run_makeMap Try.prog]
  have S6 : w5.Since w5.heap.size (w5.alloc (.map #[] 0)) := (World.Since.refl _ w5).alloc (Nat.le_refl _) _
  have D6 : MapAt (w5.alloc (.map #[] 0)) w5.heap.size [] := MapAt.made w5
  have hFK5 := hFK
  clear hal htd hall HY hx I S1 hz1 C3 M3 S3 hz2 hz4 hz5 hz3 S5 own5 hFE hbase hfin hst hval hkeys hown hs4 hs5 hT hsd d0 d1 d3 z0 z1 z2 e0 e1 e2 e3 v0 v1 v2 c0 c1
  go_wp2_with fail
  generalize hs : w5.heap.size = s at *
  go_loopg [13] F.length (fun g t wr => ∃ (i : Nat) (S : Ents), t = .int .i64 i ∧ g + i = F.length ∧ MapAt wr s S ∧ w5.Since s wr ∧ s < wr.heap.size ∧ (∀ (j : Nat) f, j < i → F[j]? = some f → 0 < (lkE S f.v).getD 0) ∧ ∀ p ∈ S, 0 < p.2 ∧ p.2 ≤ i)
  case atStart => exact ⟨0, [], rfl, rfl, D6, S6, by simp; omega, fun j f h => absurd h (by omega), fun p h => by simp at h⟩
  case round =>
    clear D6 S6 hmk hFK5
    obtain ⟨i, S, rfl, hgi, hD, hS, hlt, hin, hSb⟩ := hrel
    obtain ⟨Mr, Cr, ownr, d0, d1, d3⟩ := (show ∀ W : World, _ from HB) wr hS
    by_cases hi : i < F.length
    · have hi1 : (i : Int) < (F.length : Int) := by omega
      have hi0 : (0 : Int) ≤ (i : Int) := Int.natCast_nonneg _
      obtain ⟨f, hf⟩ : ∃ f, F[i]? = some f := ⟨_, List.getElem?_eq_getElem hi⟩
      obtain ⟨f1, f2, f3, f4, f5, f6⟩ := (show ∀ (j : Nat) f, _ from HV) i f hf
      obtain ⟨⟨k1, n1, s1⟩, lo, hh⟩ := f
      simp only at f1 f2 f3 f4 f5 f6
      obtain ⟨ga, gc, e, hga, hgl⟩ := ownr.form (by omega)
      cases e
      have r0 := row_cell ownr hf (j := 0) rfl
      have r1 := row_cell ownr hf (j := 1) rfl
      have r2 := row_cell ownr hf (j := 2) rfl
      have r3 := row_cell ownr hf (j := 3) rfl
      have r4 := row_cell ownr hf (j := 4) rfl
      simp only [Nat.add_zero] at r0
      have hvv : (⟨k1, n1, s1⟩ : VK).val = .agg #[.int .i64 k1, .int .i64 n1, .string s1] := rfl
      obtain ⟨W7, hW7⟩ : ∃ W, W = wr.alloc (.cells #[.int .i64 k1, .int .i64 n1, .string s1, .int .i64 lo, .int .i64 hh] 39) := ⟨_, rfl⟩
      have S7 : wr.Since wr.heap.size W7 := by rw [hW7]; exact (World.Since.refl _ wr).alloc (Nat.le_refl _) _
      have hb7 : W7.heap[wr.heap.size]? = some (.cells #[.int .i64 k1, .int .i64 n1, .string s1, .int .i64 lo, .int .i64 hh] 39 (0, 0)) := by rw [hW7]; exact heap_alloc_new _ _
      have hz7 : W7.heap.size = wr.heap.size + 1 := by rw [hW7]; simp
      have S57 : w5.Since s W7 := since_trans hS S7 (by omega)
      have htl := tell_w o b k tot lost E ⟨k1, n1, s1⟩ W7 (((show ∀ W : World, _ from HB) W7 S57).1) f1 (by rw [f2, f3]; exact ⟨by omega, hlost, f6⟩)
      rw [f2, f3, ← f4, hvv] at htl
      have d0' := ((show ∀ W : World, _ from HB) W7 S57).2.2.2.1
      have y0 : W7.cell? ⟨wr.heap.size, 0, none⟩ = some (.int .i64 k1) := cell_of_heap hb7 rfl
      have y1 : W7.cell? ⟨wr.heap.size, 1, none⟩ = some (.int .i64 n1) := cell_of_heap hb7 rfl
      have y2 : W7.cell? ⟨wr.heap.size, 2, none⟩ = some (.string s1) := cell_of_heap hb7 rfl
      have H7 : Hid (W7 = wr.alloc (.cells #[.int .i64 k1, .int .i64 n1, .string s1, .int .i64 lo, .int .i64 hh] 39) ∧ wr.Since wr.heap.size W7 ∧ W7.heap[wr.heap.size]? = some (.cells #[.int .i64 k1, .int .i64 n1, .string s1, .int .i64 lo, .int .i64 hh] 39 (0, 0)) ∧ W7.heap.size = wr.heap.size + 1) := ⟨hW7, S7, hb7, hz7⟩
      have H8 : Hid (MapAt wr s S ∧ w5.Since s wr ∧ s < wr.heap.size ∧ (∀ (j : Nat) f, j < i → F[j]? = some f → 0 < (lkE S f.v).getD 0) ∧ (∀ p ∈ S, 0 < p.2 ∧ p.2 ≤ i) ∧ (⟨k1, n1, s1⟩ : VK).Ok ∧ F[i]? = some ⟨⟨k1, n1, s1⟩, lo, hh⟩) := ⟨hD, hS, hlt, hin, hSb, f1, hf⟩
      have hfv := hvv
      clear S7 hb7 hz7 S57 hD hS hlt hin hSb Mr Cr ownr hvv f1 f2 f3 f4 f6
      rw [hW7] at htl d0' y0 y1 y2
      clear hW7
      go_wp2_with (go_at_call 21; (with_reducible refine htl.mono ?_); rintro e w8 ⟨rfl, hs8⟩)
      obtain ⟨g1, g2, g3, g4⟩ := (show _ ∧ _ from H7)
      rw [← g1] at hs8
      have hz8 := hs8.size
      have h8 : w8.heap[wr.heap.size]? = some (.cells #[.int .i64 k1, .int .i64 n1, .string s1, .int .i64 lo, .int .i64 hh] 39 (0, 0)) := (hs8.block _ (by omega)).trans g3
      have x0 : w8.cell? ⟨wr.heap.size, 0, none⟩ = some (.int .i64 k1) := cell_of_heap h8 rfl
      have x1 : w8.cell? ⟨wr.heap.size, 1, none⟩ = some (.int .i64 n1) := cell_of_heap h8 rfl
      have x2 : w8.cell? ⟨wr.heap.size, 2, none⟩ = some (.string s1) := cell_of_heap h8 rfl
      have x3 : w8.cell? ⟨wr.heap.size, 3, none⟩ = some (.int .i64 lo) := cell_of_heap h8 rfl
      have x4 : w8.cell? ⟨wr.heap.size, 4, none⟩ = some (.int .i64 hh) := cell_of_heap h8 rfl
      have H8' : Hid (W7.Since W7.heap.size w8) := hs8
      clear htl d0' y0 y1 y2 g1 g2 g3 hs8 h8 r0 r1 r2 r3 r4 d0 d1 d3
      have HN : Hid (w5.heap.size = s ∧ True ∧ W7.heap.size = wr.heap.size + 1 ∧ W7.heap.size ≤ w8.heap.size ∧ gk + i = F.length ∧ i < F.length ∧ F.length ≤ 1024 ∧ F[i]? = some ⟨⟨k1, n1, s1⟩, lo, hh⟩ ∧ 0 ≤ lost ∧ lost ≤ wide) := ⟨hs, trivial, g4, hz8, hgi, hi, hlim, hf, hlost, hwl.1⟩
      clear hs g4 hz8 hgi hi hf hlim hlost hwl hq hw0 hw2 ht2 ht0 hk1 hk2 hFK hga hgl hfv hi0 hi1
      have g5 : decide (lo ≤ 0) = false := by simp; omega
      rcases i with _ | j
      · have hzz0 : ((0 : Nat) : Int) = 0 := rfl
        go_quiet (fail)
        generalize hw9 : w8.drewN nq = w9
        have S9 : w8.Since w8.heap.size w9 := by subst hw9; exact ⟨rfl, rfl, rfl, Nat.le_refl _, fun _ _ => rfl⟩
        have x0 : w9.cell? ⟨wr.heap.size, 0, none⟩ = some (.int .i64 k1) := by subst hw9; exact x0
        have x1 : w9.cell? ⟨wr.heap.size, 1, none⟩ = some (.int .i64 n1) := by subst hw9; exact x1
        have x2 : w9.cell? ⟨wr.heap.size, 2, none⟩ = some (.string s1) := by subst hw9; exact x2
        clear hw9
        obtain ⟨n0, _, n1', n2, n3, n4, n5, n6, n7, n8⟩ := (show _ ∧ _ from HN)
        obtain ⟨g1, g2, g3, g4⟩ := (show _ ∧ _ from H7)
        obtain ⟨m1, m2, m3, m4, m5, m6, m7⟩ := (show _ ∧ _ from H8)
        have hs8 : W7.Since W7.heap.size w8 := H8'
        have z9 := S9.size
        have q2 : w5.Since s w9 := since_trans (since_trans (since_trans m2 g2 (by omega)) hs8 (by omega)) S9 (by omega)
        have D9 : MapAt w9.drew s S := m1.keep ((S9.block s (by omega)).trans ((hs8.block s (by omega)).trans (g2.block s (by omega))))
        have hqo : (⟨k1, n1, s1⟩ : VK).Ok := m6
        obtain ⟨y, hy⟩ : ∃ y, y = (lkE S ⟨k1, n1, s1⟩).getD 0 := ⟨_, rfl⟩
        have hyb : 0 ≤ y ∧ y ≤ (0 : Nat) := by
          rw [hy]
          cases hxx : lkE S ⟨k1, n1, s1⟩ with
          | none => first | (simp; done) | (simp; omega)
          | some z => have := m5 _ ((look_mem D9.uniq).1 hxx); simp at this ⊢; omega
        obtain ⟨X, hX⟩ : ∃ X, X = y + 1 := ⟨_, rfl⟩
        have hw : IntKind.i64.wrap (y + 1) = X := (IntWalk.i64_in (y + 1) ⟨by omega, by omega⟩).trans hX.symm
        have hlk := D9.lookup hqo mt58
        obtain ⟨st, w10, hme, D10, hst, hm10⟩ := D9.entry hqo mt58
        have hlk2 := D10.lookup hqo mt58
        rw [look_put, if_pos rfl, Option.getD_some] at hlk2
        obtain ⟨w11, hes, D11, hm11⟩ := D10.stamped hst X (mt := 58)
        rw [put_put] at D11
        rw [← hy] at hlk hme hlk2
        have hes2 : (Instr.entryStore 58 (.map (some s)) (.int .i64 (st : Int)) (.int .i64 X)).run Try.prog w10 = .ok () w11 := hes
        have T11 := (Turn.mapT hm10).trans (Turn.mapT hm11) (own := fun q => q = s) (fun _ h => h) fun _ _ h => h
        have q3 : w5.Since s w11 := ⟨T11.os.trans q2.os, T11.tape.trans q2.tape, T11.output.trans q2.output, Nat.le_trans q2.size T11.size, fun a ha => (T11.block a (by show a < w9.heap.size; omega) (by omega)).trans (q2.block a ha)⟩
        have q4 : s < w11.heap.size := D11.lt
        simp only [VK.val] at hlk hme hlk2
        have HR : Hid (MapAt w11 s (put S ⟨k1, n1, s1⟩ X) ∧ w5.Since s w11 ∧ s < w11.heap.size ∧ (∀ (j' : Nat) f, j' < (0 : Nat) + 1 → F[j']? = some f → 0 < (lkE (put S ⟨k1, n1, s1⟩ X) f.v).getD 0) ∧ (∀ p ∈ put S ⟨k1, n1, s1⟩ X, 0 < p.2 ∧ p.2 ≤ ((0 : Nat) : Int) + 1) ∧ gk + (0 : Nat) = F.length ∧ (0 : Nat) < F.length) := by
          refine ⟨D11, q3, q4, fun j' f hj' hf' => ?_, fun p hp => ?_, n3, n4⟩
          · rw [look_put]
            by_cases e : f.v = ⟨k1, n1, s1⟩
            · rw [if_pos e]; simp; omega
            · rw [if_neg e]
              refine m4 j' f ?_ hf'
              rcases Nat.lt_or_ge j' (0 : Nat) with h | h
              · exact h
              · exfalso
                have : j' = (0 : Nat) := by omega
                subst this
                rw [n6] at hf'; cases hf'; exact e rfl
          · rcases put_mem hp with e | e
            · rw [e]; simp only; omega
            · have := m5 p e; omega
        clear n0 n1' n2 n3 n4 n5 n6 n7 n8 g1 g2 g3 g4 m1 m2 m3 m4 m5 m6 m7 hs8 S9 z9 q2 q3 q4 D9 D10 D11 hm10 hm11 T11 hst hes hyb hX hy hqo
        go_wp2_with fail
        go_region
        all_goals (
          go_wp2_with fail
          go_roundg (gk - 1)
          case measure => have := (show _ ∧ _ from HR); omega
          case rel =>
            obtain ⟨f1, f2, f3, f4, f5', f6, f7⟩ := (show _ ∧ _ from HR)
            refine ⟨(0 : Nat) + 1, _, ?_, by omega, f1, f2, f3, f4, fun p hp => by have := f5' p hp; omega⟩
            simp)
      · obtain ⟨n0, _, n1', n2, n3, n4, n5, n6, n7, n8⟩ := (show _ ∧ _ from HN)
        obtain ⟨g1, g2, g3, g4⟩ := (show _ ∧ _ from H7)
        obtain ⟨m1, m2, m3, m4, m5, m6, m7⟩ := (show _ ∧ _ from H8)
        have hs8 : W7.Since W7.heap.size w8 := H8'
        have S58 : w5.Since s w8 := since_trans (since_trans m2 g2 (by omega)) hs8 (by omega)
        obtain ⟨g, hg⟩ : ∃ g, F[j]? = some g := ⟨_, List.getElem?_eq_getElem (by omega)⟩
        have hord := (show _ ∧ _ from HZ).2.2.2 j g _ hg n6
        obtain ⟨⟨k0, q0, t0⟩, lo0, hh0⟩ := g
        obtain ⟨_, _, own8, _⟩ := (show ∀ W : World, _ from HB) w8 S58
        have r0 := row_cell own8 hg (j := 0) rfl
        have r1 := row_cell own8 hg (j := 1) rfl
        have r2 := row_cell own8 hg (j := 2) rfl
        simp only [Nat.add_zero] at r0
        have ho := fun W => order_w ⟨k0, q0, t0⟩ ⟨k1, n1, s1⟩ W
        simp only [VK.val] at ho
        simp only at hord
        generalize ordV ⟨k0, q0, t0⟩ ⟨k1, n1, s1⟩ = R at ho hord
        have g7 : decide (0 ≤ R) = false := by simp; omega
        have hj0 : (0 : Int) ≤ (j : Int) := Int.natCast_nonneg _
        have hj2 : (j : Int) < (F.length : Int) := by omega
        have hIw : IntKind.i64.wrap (((j + 1 : Nat) : Int) - 1) = (j : Int) := by
          rw [show ((j + 1 : Nat) : Int) - 1 = (j : Int) by omega]
          exact IntWalk.i64_in _ ⟨by omega, by omega⟩
        have hI0 : (0 : Int) < ((j + 1 : Nat) : Int) := by omega
        have hI1 : ((j + 1 : Nat) : Int) - 1 = (j : Int) := by omega
        have hj3 : (j : Int) ≤ 1024 := by omega
        have hIw2 : wrap64 (((j + 1 : Nat) : Int) - 1) = (j : Int) := by rw [hI1]; unfold wrap64; omega
        have hj4 : ¬ (F.length : Int) ≤ (j : Int) := by omega
        have hw3 : IntKind.i64.wrap (j : Int) = (j : Int) := IntWalk.i64_in _ ⟨by omega, by omega⟩
        have hI2 : ((j + 1 : Nat) : Int) ≤ 1025 := by omega
        generalize hIe : ((j + 1 : Nat) : Int) = I at *
        have HI : Hid (((j + 1 : Nat) : Int) = I) := hIe
        clear hI1 hIw2 hIe
        have hgl := World.block_lt_of_cell? _ _ r0
        have hwl8 := World.block_lt_of_cell? _ _ x0
        clear n0 n1' n2 n3 n4 n5 n6 n7 n8 g1 g2 g3 g4 m1 m2 m3 m4 m5 m6 m7 hs8 S58 hg own8 hord
        go_region_held3 (fun W : World => W.cell? ⟨wr.heap.size, 0, none⟩ = some (.int .i64 k1) ∧ W.cell? ⟨wr.heap.size, 1, none⟩ = some (.int .i64 n1) ∧ W.cell? ⟨wr.heap.size, 2, none⟩ = some (.string s1) ∧ W.cell? ⟨wr.heap.size, 3, none⟩ = some (.int .i64 lo) ∧ W.cell? ⟨wr.heap.size, 4, none⟩ = some (.int .i64 hh) ∧ W.cell? ⟨ga, j * 5, none⟩ = some (.int .i64 k0) ∧ W.cell? ⟨ga, j * 5 + 1, none⟩ = some (.int .i64 q0) ∧ W.cell? ⟨ga, j * 5 + 2, none⟩ = some (.string t0))
          (first | exact ⟨x0, x1, x2, x3, x4, r0, r1, r2⟩)
          (first | (go_at_call 18; (with_reducible refine (ho _).mono ?_); rintro e w9 ⟨rfl, hs9, hd9⟩; have x0 := since_cell hs9 hwl8 x0; have x1 := since_cell hs9 hwl8 x1; have x2 := since_cell hs9 hwl8 x2; have x3 := since_cell hs9 hwl8 x3; have x4 := since_cell hs9 hwl8 x4; have r0 := since_cell hs9 hgl r0; have r1 := since_cell hs9 hgl r1; have r2 := since_cell hs9 hgl r2))
        have S9 : w8.Since w8.heap.size w9 := ⟨hs9.os, hs9.tape, hs9.output, hs9.size, fun a ha => hs9.block a ha⟩
        clear hs9 hd9 r0 r1 r2 x3 x4 ho hIw hj0 hj2 hj3 hj4 hw3 g7 g5
        have hIj : I = (j : Int) + 1 := by have := (show ((j + 1 : Nat) : Int) = I from HI); omega
        obtain ⟨n0, _, n1', n2, n3, n4, n5, n6, n7, n8⟩ := (show _ ∧ _ from HN)
        obtain ⟨g1, g2, g3, g4⟩ := (show _ ∧ _ from H7)
        obtain ⟨m1, m2, m3, m4, m5, m6, m7⟩ := (show _ ∧ _ from H8)
        have hs8 : W7.Since W7.heap.size w8 := H8'
        have z9 := S9.size
        have q2 : w5.Since s w9 := since_trans (since_trans (since_trans m2 g2 (by omega)) hs8 (by omega)) S9 (by omega)
        have D9 : MapAt w9.drew s S := m1.keep ((S9.block s (by omega)).trans ((hs8.block s (by omega)).trans (g2.block s (by omega))))
        have hqo : (⟨k1, n1, s1⟩ : VK).Ok := m6
        obtain ⟨y, hy⟩ : ∃ y, y = (lkE S ⟨k1, n1, s1⟩).getD 0 := ⟨_, rfl⟩
        have hyb : 0 ≤ y ∧ y ≤ ((j + 1) : Nat) := by
          rw [hy]
          cases hxx : lkE S ⟨k1, n1, s1⟩ with
          | none => first | (simp; done) | (simp; omega)
          | some z => have := m5 _ ((look_mem D9.uniq).1 hxx); simp at this ⊢; omega
        obtain ⟨X, hX⟩ : ∃ X, X = y + 1 := ⟨_, rfl⟩
        have hw : IntKind.i64.wrap (y + 1) = X := (IntWalk.i64_in (y + 1) ⟨by omega, by omega⟩).trans hX.symm
        have hlk := D9.lookup hqo mt58
        obtain ⟨st, w10, hme, D10, hst, hm10⟩ := D9.entry hqo mt58
        have hlk2 := D10.lookup hqo mt58
        rw [look_put, if_pos rfl, Option.getD_some] at hlk2
        obtain ⟨w11, hes, D11, hm11⟩ := D10.stamped hst X (mt := 58)
        rw [put_put] at D11
        rw [← hy] at hlk hme hlk2
        have hes2 : (Instr.entryStore 58 (.map (some s)) (.int .i64 (st : Int)) (.int .i64 X)).run Try.prog w10 = .ok () w11 := hes
        have T11 := (Turn.mapT hm10).trans (Turn.mapT hm11) (own := fun q => q = s) (fun _ h => h) fun _ _ h => h
        have q3 : w5.Since s w11 := ⟨T11.os.trans q2.os, T11.tape.trans q2.tape, T11.output.trans q2.output, Nat.le_trans q2.size T11.size, fun a ha => (T11.block a (by show a < w9.heap.size; omega) (by omega)).trans (q2.block a ha)⟩
        have q4 : s < w11.heap.size := D11.lt
        simp only [VK.val] at hlk hme hlk2
        have HR : Hid (MapAt w11 s (put S ⟨k1, n1, s1⟩ X) ∧ w5.Since s w11 ∧ s < w11.heap.size ∧ (∀ (j' : Nat) f, j' < ((j + 1) : Nat) + 1 → F[j']? = some f → 0 < (lkE (put S ⟨k1, n1, s1⟩ X) f.v).getD 0) ∧ (∀ p ∈ put S ⟨k1, n1, s1⟩ X, 0 < p.2 ∧ p.2 ≤ (((j + 1) : Nat) : Int) + 1) ∧ gk + ((j + 1) : Nat) = F.length ∧ ((j + 1) : Nat) < F.length) := by
          refine ⟨D11, q3, q4, fun j' f hj' hf' => ?_, fun p hp => ?_, n3, n4⟩
          · rw [look_put]
            by_cases e : f.v = ⟨k1, n1, s1⟩
            · rw [if_pos e]; simp; omega
            · rw [if_neg e]
              refine m4 j' f ?_ hf'
              rcases Nat.lt_or_ge j' ((j + 1) : Nat) with h | h
              · exact h
              · exfalso
                have : j' = ((j + 1) : Nat) := by omega
                subst this
                rw [n6] at hf'; cases hf'; exact e rfl
          · rcases put_mem hp with e | e
            · rw [e]; simp only; omega
            · have := m5 p e; omega
        clear n0 n1' n2 n3 n4 n5 n6 n7 n8 g1 g2 g3 g4 m1 m2 m3 m4 m5 m6 m7 hs8 S9 z9 q2 q3 q4 D9 D10 D11 hm10 hm11 T11 hst hes hyb hX hy hqo hIj
        go_wp2_with fail
        go_region
        all_goals (
          go_wp2_with fail
          go_roundg (gk - 1)
          case measure => have := (show _ ∧ _ from HR); omega
          case rel =>
            obtain ⟨f1, f2, f3, f4, f5', f6, f7⟩ := (show _ ∧ _ from HR)
            refine ⟨((j + 1) : Nat) + 1, _, ?_, by omega, f1, f2, f3, f4, fun p hp => by have := f5' p hp; omega⟩
            rw [← (show _ = _ from HI)]; simp)
    · have hiF : i = F.length := by omega
      subst hiF
      obtain ⟨I, hfin, hkeys, _⟩ := (show _ ∧ _ from HZ)
      obtain ⟨w6, hrg, hit6, hg6, hz6⟩ := Cr.range mt44
      have S6 : wr.Since wr.heap.size w6 := (World.Since.refl _ wr).grown hg6 (Nat.le_refl _) (by simp)
      have HL : Hid (MapAt wr s S ∧ w5.Since s wr ∧ s < wr.heap.size ∧ (∀ (j : Nat) f, F[j]? = some f → 0 < (lkE S f.v).getD 0)) := ⟨hD, hS, hlt, fun j f h => hin j f (List.getElem?_eq_some_iff.1 h).1 h⟩
      have hi1 : ¬ (F.length : Int) < (F.length : Int) := by omega
      clear hin hSb hD hS hlt Mr Cr ownr hg6 hgi hi hlim hFK hkeys hfin
      obtain ⟨wq, rfl⟩ : ∃ W, W = wr := ⟨wr, rfl⟩
      generalize hr : wq.heap.size = r at *
      go_wp2_with fail
      clear d0 d1 d3 hrg hi1
      go_loopg [17] N.length (fun g _ wu => ∃ (L : List VK), ItAt wu c r N L ∧ g = L.length ∧ wq.Since r wu ∧ r < wu.heap.size)
      case atStart => exact ⟨_, hit6, by simp, S6, by omega⟩
      case round =>
        clear hit6 S6 hz6
        obtain ⟨L, hit, hg, hS, hlt⟩ := hrel
        obtain ⟨l1, l2, l3, l4⟩ := (show _ ∧ _ from HL)
        have hnx := hit.next 0
        rcases hnx with ⟨rfl, hn⟩ | ⟨q, n, w2, hqL, hqx, hqo, hn, hit2, hen, hg2, hz2⟩
        · have HF : Hid (w.Since w.heap.size wr) := (show _ ∧ _ from HZ).2.1 wr (since_trans l2 hS (by omega))
          clear l1 l2 l3 l4 hit hS I
          go_wp2_with fail
          go_ret
          exact ⟨rfl, HF⟩
        · have hLq := erase_len hqL
          have hS2 : wq.Since r w2 := hS.grown hg2 (by omega) (fun k e => by simp at e; omega)
          obtain ⟨W3, hW3⟩ : ∃ W, W = w2.alloc (.cells #[.int .i64 q.k, .int .i64 q.n, .string q.s] 28) := ⟨_, rfl⟩
          have S3 : w2.Since w2.heap.size W3 := by rw [hW3]; exact (World.Since.refl _ w2).alloc (Nat.le_refl _) _
          have hz3 : W3.heap.size = w2.heap.size + 1 := by rw [hW3]; simp
          have hb3 : W3.heap[w2.heap.size]? = some (.cells #[.int .i64 q.k, .int .i64 q.n, .string q.s] 28 (0, 0)) := by rw [hW3]; exact heap_alloc_new _ _
          have S53 : w5.Since s W3 := since_trans (since_trans l2 hS2 (by omega)) S3 (by have := hS2.size; omega)
          obtain ⟨M3, C3, own3, e0, e1, e3⟩ := (show ∀ W : World, _ from HB) W3 S53
          have htd := told_w o b c _ _ _ k tot lost wide E N q hqo W3 M3 C3 I hwl e0 e1 e3
          have hseen : ∀ W : World, W3.Since W3.heap.size W → MapAt W s S := fun W h => l1.keep ((h.block s (by have := hS2.size; omega)).trans ((S3.block s (by have := hS2.size; omega)).trans (hS2.block s (by omega))))
          have hnear := I.near q
          have hNu := C3.uniq
          rw [hqx] at hnear
          simp only [Option.getD_some] at hnear
          have hqv : q.val = .agg #[.int .i64 q.k, .int .i64 q.n, .string q.s] := rfl
          have hlkq : ∀ W : World, W3.Since W3.heap.size W → (Instr.lookup 58 (.map (some s)) (.agg #[.int .i64 q.k, .int .i64 q.n, .string q.s]) false).run Try.prog W = .ok (.int .i64 ((lkE S q).getD 0)) W := fun W h => (hseen W h).lookup hqo mt58
          obtain ⟨y, hy⟩ : ∃ y, y = (lkE S q).getD 0 := ⟨_, rfl⟩
          rw [← hy] at hlkq
          have hbig : wide < n → 0 < y := fun h => by
            obtain ⟨j, f, h1, h2⟩ := (show _ ∧ _ from HZ).2.2.1 q (by have := hwl.1; omega)
            have := l4 j f h1
            rw [h2, ← hy] at this; exact this
          rw [hqv] at htd hn hen
          have y0 : W3.cell? ⟨w2.heap.size, 0, none⟩ = some (.int .i64 q.k) := cell_of_heap hb3 rfl
          have y1 : W3.cell? ⟨w2.heap.size, 1, none⟩ = some (.int .i64 q.n) := cell_of_heap hb3 rfl
          have y2 : W3.cell? ⟨w2.heap.size, 2, none⟩ = some (.string q.s) := cell_of_heap hb3 rfl
          have hafter : ∀ W : World, W3.Since W3.heap.size W → W.cell? ⟨w2.heap.size, 0, none⟩ = some (.int .i64 q.k) ∧ W.cell? ⟨w2.heap.size, 1, none⟩ = some (.int .i64 q.n) ∧ W.cell? ⟨w2.heap.size, 2, none⟩ = some (.string q.s) ∧ W.cell? ⟨W2.heap.size, 0, none⟩ = some (.int .i64 wide) ∧ (Instr.lookup 58 (.map (some s)) (.agg #[.int .i64 q.k, .int .i64 q.n, .string q.s]) false).run Try.prog W = .ok (.int .i64 y) W := fun W h => ⟨since_cell h (by omega) y0, since_cell h (by omega) y1, since_cell h (by omega) y2, since_cell h (World.block_lt_of_cell? _ _ e3) e3, hlkq W h⟩
          have HR : Hid (ItAt w2 c r N (L.erase q) ∧ (L.erase q).length + 1 = L.length ∧ wq.Since r w2 ∧ w2.Since w2.heap.size W3 ∧ r < w2.heap.size ∧ W3.heap.size = w2.heap.size + 1 ∧ c < wq.heap.size) := ⟨hit2, hLq, hS2, S3, by omega, hz3, by have := ((show ∀ W : World, _ from HB) wq l2).2.1.lt; omega⟩
          clear hit hS hit2 hS2 S3 hz3 hb3 S53 M3 C3 own3 e0 e1 e3 hseen hnear hNu hqx hqo hqL hLq hg2 hlkq y0 y1 y2 hy l1 l2 l3 l4 I hqv hz2 hlt
          rw [hW3] at htd
          have HW3 : Hid (W3 = w2.alloc (.cells #[.int .i64 q.k, .int .i64 q.n, .string q.s] 28)) := hW3
          rw [hW3] at hafter
          clear hW3
          generalize q.k = k1 at *
          generalize q.n = n1 at *
          generalize q.s = s1 at *
          by_cases hnw : wide < n
          · have hy0 := hbig hnw
            have g1 : decide (y = 0) = false := by simp; omega
            go_wp2_with (go_at_call 20; (with_reducible refine htd.mono ?_); rintro e w4 ⟨rfl, hs4⟩; obtain ⟨a0, a1, a2, a3, a4⟩ := hafter w4 hs4)
            go_roundg (gk - 1)
            case measure => have := (show _ ∧ _ from HR).2.1; omega
            case rel =>
              obtain ⟨f1, f2, f3, f4, f5, f6, f7⟩ := (show _ ∧ _ from HR)
              rw [← (show _ = _ from HW3)] at hs4
              have z4 := hs4.size
              refine ⟨L.erase q, f1.keep ((hs4.block c (by have := f3.size; omega)).trans (f4.block c (by have := f3.size; omega))) ((hs4.block r (by omega)).trans (f4.block r f5)), by omega, since_trans f3 (since_trans f4 hs4 (by omega)) (by omega), by omega⟩
          · have g1 : decide (wide < n) = false := by simp; omega
            go_wp2_with (go_at_call 20; (with_reducible refine htd.mono ?_); rintro e w4 ⟨rfl, hs4⟩; obtain ⟨a0, a1, a2, a3, a4⟩ := hafter w4 hs4)
            go_roundg (gk - 1)
            case measure => have := (show _ ∧ _ from HR).2.1; omega
            case rel =>
              obtain ⟨f1, f2, f3, f4, f5, f6, f7⟩ := (show _ ∧ _ from HR)
              rw [← (show _ = _ from HW3)] at hs4
              have z4 := hs4.size
              refine ⟨L.erase q, f1.keep ((hs4.block c (by have := f3.size; omega)).trans (f4.block c (by have := f3.size; omega))) ((hs4.block r (by omega)).trans (f4.block r f5)), by omega, since_trans f3 (since_trans f4 hs4 (by omega)) (by omega), by omega⟩
end Go.Proofs.Ytaaocppaepnhbaa
