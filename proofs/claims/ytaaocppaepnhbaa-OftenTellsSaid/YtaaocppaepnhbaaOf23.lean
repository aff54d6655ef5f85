/- OftenTells: the walk. Own work; no condition. -/
import Derived.Test.YtaaocppaepnhbaaOf22
namespace Go.Proofs.Ytaaocppaepnhbaa
open Go Go.RowKit Go.Deep Go.Sort Go.Shelf
set_option linter.unusedVariables false
set_option linter.unusedSimpArgs false

theorem turn_cell {w w' : World} {own : Nat → Prop} {g i : Nat} {v : Value} (T : Turn w w' own) (hg : ¬ own g) (hv : w.cell? ⟨g, i, none⟩ = some v) : w'.cell? ⟨g, i, none⟩ = some v :=
  (World.cell?_of_block (w := w) (T.block g (World.block_lt_of_cell? w _ hv) hg)).trans hv
set_option maxRecDepth 100000 in
set_option maxHeartbeats 4000000 in
theorem tells_w (k : Nat) (h : okK k = true) (v1 : Value) (n : Nat) (w : World) (h1 : Script w v1 n) : Calls Try.prog 4 #[.int .i64 k, v1] w fun e w' => e = .returned (.bool true) ∧ Below w.heap.size w w' := by
  have hk : 1 ≤ k ∧ k ≤ 1024 := by simp [okK] at h; omega
  obtain ⟨K, hK⟩ : ∃ K : Int, K = k := ⟨_, rfl⟩
  have hn := fun W => new_ok K (by rw [hK]; exact h) W
  have hK1 : ¬ K < 1 := by omega
  have hK2 : ¬ 1024 < K := by omega
  rw [← hK]
  have HK : Hid (K = k ∧ 1 ≤ k ∧ k ≤ 1024) := ⟨hK, hk⟩
  obtain ⟨a1, k1, rfl, g1, g2, g3⟩ := h1
  clear h hk hK
  go_enter Try.func4, Try.ntmps4
  go_wp2_with fail
  have S0 : St w.heap.size 0 ((w.alloc (.cells #[.pointer none, .pointer none, .pointer none] 43)).alloc (.cells #[.map none, .int .i64 0, .map none, .int .i64 0, .map none, .int .i64 0] 47)) k w.heap.size (w.heap.size + 1) (fun _ => ⟨0, 0, 0, 0, 0, [], []⟩) := by
    refine ⟨fun i hi => absurd hi (by omega), ⟨#[.pointer none, .pointer none, .pointer none], 43, (blk_alloc_lt _ _ _ (by simp)).trans (heap_alloc_new w _), rfl, fun i hi => absurd hi (by omega)⟩, ⟨#[.map none, .int .i64 0, .map none, .int .i64 0, .map none, .int .i64 0], 47, ?_, rfl, fun i hi => absurd hi (by omega), fun i _ hi => ?_⟩, by omega, fun i j q hi => absurd hi (by omega), fun i hi => absurd hi (by omega), by omega, by omega, fun i q hi => absurd hi (by omega)⟩
    · have := heap_alloc_new (w.alloc (.cells #[.pointer none, .pointer none, .pointer none] 43)) (.cells #[.map none, .int .i64 0, .map none, .int .i64 0, .map none, .int .i64 0] 47)
      simpa using this
    · match i, hi with
      | 0, _ => rfl
      | 1, _ => rfl
      | 2, _ => rfl
  have B0 : Below w.heap.size w ((w.alloc (.cells #[.pointer none, .pointer none, .pointer none] 43)).alloc (.cells #[.map none, .int .i64 0, .map none, .int .i64 0, .map none, .int .i64 0] 47)) := ((Below.refl _ w).alloc (Nat.le_refl _) _).alloc (by simp) _
  have Z0 : w.heap.size + 2 ≤ ((w.alloc (.cells #[.pointer none, .pointer none, .pointer none] 43)).alloc (.cells #[.map none, .int .i64 0, .map none, .int .i64 0, .map none, .int .i64 0] 47)).heap.size := by simp
  generalize ((w.alloc (.cells #[.pointer none, .pointer none, .pointer none] 43)).alloc (.cells #[.map none, .int .i64 0, .map none, .int .i64 0, .map none, .int .i64 0] 47)) = Wz at *
  generalize hB : w.heap.size + 1 = B at *
  generalize hA : w.heap.size = A at *
  go_loopg [7] 3 (fun g t wr => ∃ (i : Nat) (s : Nat → Sk), t = .int .i64 i ∧ g + i = 3 ∧ St A i wr k A B s ∧ Below A w wr ∧ A + 2 ≤ wr.heap.size)
  case atStart => exact ⟨0, _, rfl, rfl, S0, B0, Z0⟩
  case round =>
    obtain ⟨i, s, rfl, hgi, S, Bl, hz⟩ := hrel
    by_cases hi : i < 3
    · have hi1 : (i : Int) < 3 := by omega
      have hi0 : (0 : Int) ≤ (i : Int) := Int.natCast_nonneg _
      have hnw := hn wr
      have hl := S.ltA
      have HS : Hid (St A i wr k A B s ∧ Below A w wr ∧ A + 2 ≤ wr.heap.size ∧ B = A + 1) := ⟨S, Bl, hz, hB.symm⟩
      clear S Bl hn S0 B0 Z0 hz g3
      go_wp2_with (go_at_call 5; (with_reducible refine hnw.mono ?_); rintro e x1 ⟨rfl, M1, hs1⟩)
      refine (merge_nil _ x1).mono ?_
      rintro e x2 ⟨rfl, T2, hz2⟩
      have hz1 := hs1.size
      obtain ⟨hKk, hk⟩ := (show _ ∧ _ from HK)
      obtain ⟨S, Bl, hz, hBA⟩ := (show _ ∧ _ from HS)
      have TX : Turn wr x2 (fun _ => False) := Turn.trans (b := x1) (o := fun _ => False) ⟨hs1.os, hs1.tape, hs1.output, hs1.size, fun q hq _ => hs1.block q hq⟩ T2 (fun _ h => h) fun _ _ h => h
      have MX : OftAt x2 (wr.heap.size + 1) wr.heap.size K 0 0 [] := M1.keep (T2.block _ M1.lt id) (T2.block _ M1.map.lt id)
      have SX := St.keep S TX
      obtain ⟨⟨u, cu, fu⟩, u', cu', fu'⟩ := SX.slot hi
      obtain ⟨hA2, hB2⟩ := SX.ltA
      have hmk : (Instr.makeMap 44 none).run Try.prog (x2.setCell ⟨A, i, none⟩ (.pointer (some ⟨wr.heap.size + 1, 0, none⟩))) = .ok (.map (some x2.heap.size)) ((x2.setCell ⟨A, i, none⟩ (.pointer (some ⟨wr.heap.size + 1, 0, none⟩))).alloc (.map #[] 0)) := by
        simp [@run_makeMap Try.prog]
      have HX : Hid (Turn wr x2 (fun _ => False) ∧ OftAt x2 (wr.heap.size + 1) wr.heap.size K 0 0 [] ∧ x2.heap.size = x1.heap.size ∧ wr.heap.size + 1 < x1.heap.size ∧ A < x2.heap.size ∧ B < x2.heap.size) := ⟨TX, MX, hz2, M1.lt, hA2, hB2⟩
      clear M1 hs1 hz1 T2 hz2 TX MX SX hnw S Bl hz hKk hk hBA
      go_wp2_with fail
      go_roundg (gk - 1)
      case measure => omega
      case rel =>
        obtain ⟨S, Bl, hz, hBA⟩ := (show _ ∧ _ from HS)
        obtain ⟨TX, MX, hz2, hz3, hA2, hB2⟩ := (show _ ∧ _ from HX)
        obtain ⟨hKk, hk⟩ := (show _ ∧ _ from HK)
        rw [hKk] at MX
        have T3 : Turn wr (x2.alloc (.map #[] 0)) (fun _ => False) := TX.trans (Turn.since ((World.Since.refl _ _).alloc (Nat.le_refl _) _) (Nat.le_refl _) (own := fun _ => False)) (fun _ h => h) fun _ _ h => h
        have hg := St.grow S hi (by omega) hk (o := wr.heap.size + 1) (b := wr.heap.size) (c := x2.heap.size) (by omega) (Nat.le_refl _) (by omega) (by omega) (MX.keep (blk_alloc_lt _ _ _ (by omega)) (blk_alloc_lt _ _ _ (by omega))) (MapAt.made x2) T3
        rw [World.setCell_alloc_past _ _ _ _ hA2, World.setCell_alloc_past _ _ _ _ (by simpa using hB2)] at hg
        refine ⟨i + 1, _, by simp, by omega, hg, ?_, by simp; omega⟩
        have Tq : Turn wr (((x2.setCell ⟨A, i, none⟩ (.pointer (some ⟨wr.heap.size + 1, 0, none⟩))).setCell ⟨B, i * 2, none⟩ (.map (some x2.heap.size))).alloc (.map #[] 0)) (fun q => q = A ∨ q = B) := by
          refine TX.trans (o' := fun q => q = A ∨ q = B) ?_ (fun _ h => h.elim) fun _ _ h => h
          refine Turn.trans (o := fun q => q = A ∨ q = B) (o' := fun _ => False) ?_ (Turn.since ((World.Since.refl _ _).alloc (Nat.le_refl _) _) (Nat.le_refl _)) (fun _ h => h) fun _ _ h => h.elim
          exact (Turn.cell (w := x2) ⟨A, i, none⟩ _ (own := fun q => q = A ∨ q = B) (.inl rfl)).trans (Turn.cell ⟨B, i * 2, none⟩ _ (own := fun q => q = A ∨ q = B) (.inr rfl)) (fun _ h => h) fun _ _ h => h
        exact below_turn Bl Tq (by omega) fun q e => by omega
    · have ei : i = 3 := by omega
      subst ei
      have hi1 : ¬ ((3 : Nat) : Int) < 3 := by omega
      clear hn S0 B0 Z0
      go_wp2_with fail
      go_loopg [10] n (fun g t wr => ∃ (i : Nat) (s : Nat → Sk), t = .int .i64 i ∧ g + i = n ∧ i ≤ 2000 ∧ St A 3 wr k A B s ∧ Below A w wr ∧ A + 2 ≤ wr.heap.size)
      case atStart => exact ⟨0, s, rfl, rfl, by omega, S, Bl, hz⟩
      case round =>
        clear S Bl hz
        obtain ⟨i, s, rfl, hgi, hi2, S, Bl, hz⟩ := hrel
        by_cases hin : i < n ∧ i < 2000
        · obtain ⟨hin1, hin2⟩ := hin
          obtain ⟨sb, so, qv, x, mg, p, r, rfl, e0, e1, e2, e3, e4, e5, e6, hqo, hx, hp, hr⟩ := g3 i hin1
          have hsb : sb < A := by rw [← hA]; exact World.block_lt_of_cell? w _ e0
          have old : ∀ o v, w.cell? ⟨sb, o, none⟩ = some v → wr.cell? ⟨sb, o, none⟩ = some v := fun o v h => by rw [World.cell?_of_block (w := w) (Bl.block sb hsb)]; exact h
          have f0 := old _ _ e0
          have f1 := old _ _ e1
          have f2 := old _ _ e2
          have f3 := old _ _ e3
          have f4 := old _ _ e4
          have f5 := old _ _ e5
          have f6 := old _ _ e6
          have HS : Hid (St A 3 wr k A B s ∧ Below A w wr ∧ A + 2 ≤ wr.heap.size ∧ B = A + 1 ∧ qv.Ok ∧ gk + i = n ∧ i < n ∧ i < 2000 ∧ (-9223372036854775808 ≤ x ∧ x ≤ 9223372036854775807)) := ⟨S, Bl, hz, hB.symm, hqo, hgi, hin1, hin2, hx⟩
          have hi0 : (0 : Int) ≤ (i : Int) := Int.natCast_nonneg _
          have hi1 : (i : Int) < (n : Int) := by omega
          have hi3 : (i : Int) < 2000 := by omega
          clear S Bl hz old e0 e1 e2 e3 e4 e5 e6 g3 hsb hB hqo hgi hin1 hin2 hi2 hx
          generalize hq0 : qv.k = k0 at *
          generalize hq1 : qv.n = n0 at *
          generalize hq2 : qv.s = s0 at *
          have hqv : qv = ⟨k0, n0, s0⟩ := by rw [← hq0, ← hq1, ← hq2]
          subst hqv
          clear hq0 hq1 hq2
          go_wp2_with fail
          have HD : Hid (Turn wr (wr.alloc (.cells #[.int .i64 k0, .int .i64 n0, .string s0, .int .i64 x, .bool mg, .int .i64 p, .int .i64 r] 30)) (fun _ => False) ∧ (wr.alloc (.cells #[.int .i64 k0, .int .i64 n0, .string s0, .int .i64 x, .bool mg, .int .i64 p, .int .i64 r] 30)).heap[wr.heap.size]? = some (.cells #[.int .i64 k0, .int .i64 n0, .string s0, .int .i64 x, .bool mg, .int .i64 p, .int .i64 r] 30 (0, 0))) := ⟨Turn.since ((World.Since.refl _ wr).alloc (Nat.le_refl _) _) (Nat.le_refl _), heap_alloc_new _ _⟩
          have dd5 : (wr.alloc (.cells #[.int .i64 k0, .int .i64 n0, .string s0, .int .i64 x, .bool mg, .int .i64 p, .int .i64 r] 30)).cell? ⟨wr.heap.size, 5, none⟩ = some (.int .i64 p) := cell_of_heap (heap_alloc_new _ _) rfl
          have dd6 : (wr.alloc (.cells #[.int .i64 k0, .int .i64 n0, .string s0, .int .i64 x, .bool mg, .int .i64 p, .int .i64 r] 30)).cell? ⟨wr.heap.size, 6, none⟩ = some (.int .i64 r) := cell_of_heap (heap_alloc_new _ _) rfl
          clear f0 f1 f2 f3 f4 f5 f6
          generalize wr.alloc (.cells #[.int .i64 k0, .int .i64 n0, .string s0, .int .i64 x, .bool mg, .int .i64 p, .int .i64 r] 30) = W1 at *
          have hma := fun W => mod_w p 3 (by omega) (by omega) hp.1 hp.2 W
          have hmb := fun W => mod_w r 3 (by omega) (by omega) hr.1 hr.2 W
          obtain ⟨a, ha, ha3⟩ : ∃ a : Nat, p % 3 = a ∧ a < 3 := ⟨(p % 3).toNat, by omega, by omega⟩
          obtain ⟨bb, hbb, hb3⟩ : ∃ a : Nat, r % 3 = a ∧ a < 3 := ⟨(r % 3).toNat, by omega, by omega⟩
          rw [ha] at hma
          rw [hbb] at hmb
          clear ha hbb hp hr
          go_quiet (first | (go_at_call 6; with_reducible refine Calls.quiet_of_same (hma _)) | (go_at_call 6; with_reducible refine Calls.quiet_of_same (hmb _)))
          clear hma hmb
          generalize hW2 : W1.drewN _ = W2
          have HD2 : Hid (Turn wr W2 (fun _ => False) ∧ W2.heap[wr.heap.size]? = some (.cells #[.int .i64 k0, .int .i64 n0, .string s0, .int .i64 x, .bool mg, .int .i64 p, .int .i64 r] 30 (0, 0))) := by
            subst hW2
            obtain ⟨h1, h2⟩ := (show _ ∧ _ from HD)
            exact ⟨⟨h1.os, h1.tape, h1.output, h1.size, h1.block⟩, h2⟩
          clear HD dd5 dd6 hW2
          obtain ⟨T2, hb2⟩ := (show _ ∧ _ from HD2)
          have S2 := St.keep (show _ ∧ _ from HS).1 T2
          have Bl2 : Below A w W2 := below_turn (show _ ∧ _ from HS).2.1 T2 (by have := (show _ ∧ _ from HS).2.2.1; omega) fun _ h => h.elim
          have d0 : W2.cell? ⟨wr.heap.size, 0, none⟩ = some (.int .i64 k0) := cell_of_heap hb2 rfl
          have d1 : W2.cell? ⟨wr.heap.size, 1, none⟩ = some (.int .i64 n0) := cell_of_heap hb2 rfl
          have d2 : W2.cell? ⟨wr.heap.size, 2, none⟩ = some (.string s0) := cell_of_heap hb2 rfl
          have d3 : W2.cell? ⟨wr.heap.size, 3, none⟩ = some (.int .i64 x) := cell_of_heap hb2 rfl
          have d4 : W2.cell? ⟨wr.heap.size, 4, none⟩ = some (.bool mg) := cell_of_heap hb2 rfl
          have pb := St.ptr S2 hb3
          have pa := St.ptr S2 ha3
          obtain ⟨ca, ta, _⟩ := St.cnt S2 ha3
          obtain ⟨cb, tb, fb⟩ := St.cnt S2 hb3
          have hoff : wr.heap.size ≠ A ∧ wr.heap.size ≠ B ∧ ∀ j, j < 3 → ¬ (s j).foot wr.heap.size := by
            have h1 := (show _ ∧ _ from HS).1
            have := h1.ltA
            exact ⟨by omega, by omega, fun j hj h => by have := (h1.one j hj).lt h; omega⟩
          have HS2 : Hid (St A 3 W2 k A B s ∧ Below A w W2 ∧ Turn wr W2 (fun _ => False) ∧ W2.heap[wr.heap.size]? = some (.cells #[.int .i64 k0, .int .i64 n0, .string s0, .int .i64 x, .bool mg, .int .i64 p, .int .i64 r] 30 (0, 0)) ∧ wr.heap.size ≠ A ∧ wr.heap.size ≠ B ∧ ∀ j, j < 3 → ¬ (s j).foot wr.heap.size) := ⟨S2, Bl2, T2, hb2, hoff⟩
          clear S2 Bl2 T2 hb2 HD2 hoff
          have ha0 : (0 : Int) ≤ (a : Int) := Int.natCast_nonneg _
          have ha1 : (a : Int) < 3 := by omega
          have hb0 : (0 : Int) ≤ (bb : Int) := Int.natCast_nonneg _
          have hb1 : (bb : Int) < 3 := by omega
          cases mg with
          | false =>
            go_wp2_with fail
            by_cases hneg : x < 0
            · have hx1 : ¬ 0 ≤ x := by omega
              have g0 : decide (x < 0) = true := by simp; omega
              have g1 : decide (0 ≤ x) = false := by simp; omega
              have had := add_neg (some ⟨(s bb).o, 0, none⟩) ⟨k0, n0, s0⟩ x hneg W2.drew
              simp only [VK.val] at had
              go_region_held3 (fun W : World => W.cell? ⟨A, bb, none⟩ = some (.pointer (some ⟨(s bb).o, 0, none⟩)) ∧ W.cell? ⟨wr.heap.size, 0, none⟩ = some (.int .i64 k0) ∧ W.cell? ⟨wr.heap.size, 1, none⟩ = some (.int .i64 n0) ∧ W.cell? ⟨wr.heap.size, 2, none⟩ = some (.string s0) ∧ W.cell? ⟨wr.heap.size, 3, none⟩ = some (.int .i64 x))
                (first | exact ⟨pb, d0, d1, d2, d3⟩ | exact ⟨pb', c0, c1, c2, c3⟩)
                (first | (go_at_call 10; (with_reducible refine had.mono ?_); rintro e w3 ⟨rfl, hT3⟩; have pb' := turn_cell hT3 id pb; have c0 := turn_cell hT3 id d0; have c1 := turn_cell hT3 id d1; have c2 := turn_cell hT3 id d2; have c3 := turn_cell hT3 id d3))
              have HT3 : Hid (Turn W2 w3 (fun _ => False)) := ⟨hT3.os, hT3.tape, hT3.output, hT3.size, hT3.block⟩
              clear hT3 d0 d1 d2 d3 d4 pb pb' pa ca ta cb tb fb had
              go_wp2_with fail
              go_quiet (fail)
              generalize hW4 : w3.drewN _ = W4
              have HT4 : Hid (Turn W2 W4 (fun _ => False)) := by
                have h := (show Turn W2 w3 (fun _ => False) from HT3)
                subst hW4
                exact ⟨h.os, h.tape, h.output, h.size, h.block⟩
              have d0 : W4.cell? ⟨wr.heap.size, 0, none⟩ = some (.int .i64 k0) := by subst hW4; exact c0
              have d1 : W4.cell? ⟨wr.heap.size, 1, none⟩ = some (.int .i64 n0) := by subst hW4; exact c1
              have d2 : W4.cell? ⟨wr.heap.size, 2, none⟩ = some (.string s0) := by subst hW4; exact c2
              clear hW4 c0 c1 c2 c3 HT3
              go_wp2_with fail
              have S4 := St.keep (show _ ∧ _ from HS2).1 (show Turn W2 W4 (fun _ => False) from HT4)
              have HBW : Below A w W4 := below_turn (show _ ∧ _ from HS2).2.1 (show Turn W2 W4 (fun _ => False) from HT4) (by have := (show _ ∧ _ from HS2).2.2.1.size; have := (show _ ∧ _ from HS).2.2.1; omega) fun _ h => h.elim
              have pT := St.ptr S4 hb3
              obtain ⟨cT, tT, fT⟩ := St.cnt S4 hb3
              have hKk := (show _ ∧ _ from HK)
              have hqo : (⟨k0, n0, s0⟩ : VK).Ok := (show _ ∧ _ from HS).2.2.2.2.1
              have oneT := S4.one bb hb3
              have hof := often_w (s bb).o (s bb).b (s bb).c k (s bb).tot (s bb).lost (s bb).E (s bb).N ⟨k0, n0, s0⟩ hqo W4.drew (oneT.sk.keep rfl rfl) (oneT.cn.keep rfl) oneT.inv
              rw [← hKk.1] at hof
              simp only [VK.val] at hof
              have HT : Hid (St A 3 W4 k A B s ∧ Below A w W4) := ⟨S4, HBW⟩
              clear S4 oneT hKk hqo fT
              generalize (s bb).o = o1 at *
              generalize (s bb).c = c1 at *
              generalize (s bb).tot = t1 at *
              go_region_held3 (fun W : World => W.cell? ⟨A, bb, none⟩ = some (.pointer (some ⟨o1, 0, none⟩)) ∧ W.cell? ⟨B, bb * 2, none⟩ = some (.map (some c1)) ∧ W.cell? ⟨B, bb * 2 + 1, none⟩ = some (.int .i64 t1) ∧ W.cell? ⟨wr.heap.size, 0, none⟩ = some (.int .i64 k0) ∧ W.cell? ⟨wr.heap.size, 1, none⟩ = some (.int .i64 n0) ∧ W.cell? ⟨wr.heap.size, 2, none⟩ = some (.string s0))
                (first | exact ⟨pT, cT, tT, d0, d1, d2⟩ | exact ⟨pU, cU, tU, u0, u1, u2⟩)
                (first | (go_at_call 15; (with_reducible refine hof.mono ?_); rintro e w5 ⟨rfl, hs5⟩; have pU := since_cell hs5 (World.block_lt_of_cell? _ _ pT) pT; have cU := since_cell hs5 (World.block_lt_of_cell? _ _ cT) cT; have tU := since_cell hs5 (World.block_lt_of_cell? _ _ tT) tT; have u0 := since_cell hs5 (World.block_lt_of_cell? _ _ d0) d0; have u1 := since_cell hs5 (World.block_lt_of_cell? _ _ d1) d1; have u2 := since_cell hs5 (World.block_lt_of_cell? _ _ d2) d2))
              have HT5 : Hid (Turn W4 w5 (fun _ => False)) := ⟨hs5.os, hs5.tape, hs5.output, hs5.size, fun j hj _ => hs5.block j hj⟩
              clear pT cT tT pU cU tU u0 u1 u2 d0 d1 d2 hs5 hof
              go_wp2_with fail
              go_roundg (gk - 1)
              case measure => have := (show _ ∧ _ from HS); omega
              case rel =>
                obtain ⟨e1, e2⟩ := (show _ ∧ _ from HT)
                have T5 : Turn W4 w5 (fun _ => False) := HT5
                obtain ⟨_, _, q3, q4, _, q5, q6, q7, _⟩ := (show _ ∧ _ from HS)
                have z1 := e1.ltA
                have z2 := T5.size
                exact ⟨i + 1, s, by simp, by omega, by omega, e1.keep T5, below_turn e2 T5 (by omega) fun _ h => h.elim, by omega⟩

            · by_cases hbig : 4611686018427387904 - (s bb).tot < x
              · have hx0 : 0 ≤ x := by omega
                have g0 : decide (x < 0) = false := by simp; omega
                have g1 : decide (0 ≤ x) = true := by simp; omega
                have S2 := (show _ ∧ _ from HS2).1
                have one := S2.one bb hb3
                have hqo : (⟨k0, n0, s0⟩ : VK).Ok := (show _ ∧ _ from HS).2.2.2.2.1
                have hKk := (show _ ∧ _ from HK)
                have ht0 := one.inv.tot0
                have ht1 := one.inv.htot
                have had := add_large (s bb).o (s bb).b k (s bb).tot (s bb).lost (s bb).E W2.drew (one.sk.keep rfl rfl) ⟨k0, n0, s0⟩ x hx0 ⟨ht0, ht1⟩ hbig
                simp only [VK.val] at had
                have g2 : decide (4611686018427387904 - (s bb).tot < x) = true := by simp; omega
                clear S2 one hqo hKk
                go_region_held3 (fun W : World => W.cell? ⟨A, bb, none⟩ = some (.pointer (some ⟨(s bb).o, 0, none⟩)) ∧ W.cell? ⟨wr.heap.size, 0, none⟩ = some (.int .i64 k0) ∧ W.cell? ⟨wr.heap.size, 1, none⟩ = some (.int .i64 n0) ∧ W.cell? ⟨wr.heap.size, 2, none⟩ = some (.string s0) ∧ W.cell? ⟨wr.heap.size, 3, none⟩ = some (.int .i64 x))
                  (first | exact ⟨pb, d0, d1, d2, d3⟩ | exact ⟨pb', c0, c1, c2, c3⟩)
                  (first | (go_at_call 10; (with_reducible refine had.mono ?_); rintro e w3 ⟨rfl, hT3⟩; have pb' := turn_cell hT3 id pb; have c0 := turn_cell hT3 id d0; have c1 := turn_cell hT3 id d1; have c2 := turn_cell hT3 id d2; have c3 := turn_cell hT3 id d3; have c4 := turn_cell hT3 id tb))
                have HT3 : Hid (Turn W2 w3 (fun _ => False)) := ⟨hT3.os, hT3.tape, hT3.output, hT3.size, hT3.block⟩
                clear hT3 d0 d1 d2 d3 d4 pb pb' pa ca ta cb tb fb had
                go_wp2_with fail
                go_quiet (fail)
                generalize hW4 : w3.drewN _ = W4
                have HT4 : Hid (Turn W2 W4 (fun _ => False)) := by
                  have h := (show Turn W2 w3 (fun _ => False) from HT3)
                  subst hW4
                  exact ⟨h.os, h.tape, h.output, h.size, h.block⟩
                have d0 : W4.cell? ⟨wr.heap.size, 0, none⟩ = some (.int .i64 k0) := by subst hW4; exact c0
                have d1 : W4.cell? ⟨wr.heap.size, 1, none⟩ = some (.int .i64 n0) := by subst hW4; exact c1
                have d2 : W4.cell? ⟨wr.heap.size, 2, none⟩ = some (.string s0) := by subst hW4; exact c2
                clear hW4 c0 c1 c2 c3 c4 HT3 g0 g1 g2 ht0 ht1 hbig hx0
                go_wp2_with fail
                have S4 := St.keep (show _ ∧ _ from HS2).1 (show Turn W2 W4 (fun _ => False) from HT4)
                have HBW : Below A w W4 := below_turn (show _ ∧ _ from HS2).2.1 (show Turn W2 W4 (fun _ => False) from HT4) (by have := (show _ ∧ _ from HS2).2.2.1.size; have := (show _ ∧ _ from HS).2.2.1; omega) fun _ h => h.elim
                have pT := St.ptr S4 hb3
                obtain ⟨cT, tT, fT⟩ := St.cnt S4 hb3
                have hKk := (show _ ∧ _ from HK)
                have hqo : (⟨k0, n0, s0⟩ : VK).Ok := (show _ ∧ _ from HS).2.2.2.2.1
                have oneT := S4.one bb hb3
                have hof := often_w (s bb).o (s bb).b (s bb).c k (s bb).tot (s bb).lost (s bb).E (s bb).N ⟨k0, n0, s0⟩ hqo W4.drew (oneT.sk.keep rfl rfl) (oneT.cn.keep rfl) oneT.inv
                rw [← hKk.1] at hof
                simp only [VK.val] at hof
                have HT : Hid (St A 3 W4 k A B s ∧ Below A w W4) := ⟨S4, HBW⟩
                clear S4 oneT hKk hqo fT
                generalize (s bb).o = o1 at *
                generalize (s bb).c = c1 at *
                generalize (s bb).tot = t1 at *
                go_region_held3 (fun W : World => W.cell? ⟨A, bb, none⟩ = some (.pointer (some ⟨o1, 0, none⟩)) ∧ W.cell? ⟨B, bb * 2, none⟩ = some (.map (some c1)) ∧ W.cell? ⟨B, bb * 2 + 1, none⟩ = some (.int .i64 t1) ∧ W.cell? ⟨wr.heap.size, 0, none⟩ = some (.int .i64 k0) ∧ W.cell? ⟨wr.heap.size, 1, none⟩ = some (.int .i64 n0) ∧ W.cell? ⟨wr.heap.size, 2, none⟩ = some (.string s0))
                  (first | exact ⟨pT, cT, tT, d0, d1, d2⟩ | exact ⟨pU, cU, tU, u0, u1, u2⟩)
                  (first | (go_at_call 15; (with_reducible refine hof.mono ?_); rintro e w5 ⟨rfl, hs5⟩; have pU := since_cell hs5 (World.block_lt_of_cell? _ _ pT) pT; have cU := since_cell hs5 (World.block_lt_of_cell? _ _ cT) cT; have tU := since_cell hs5 (World.block_lt_of_cell? _ _ tT) tT; have u0 := since_cell hs5 (World.block_lt_of_cell? _ _ d0) d0; have u1 := since_cell hs5 (World.block_lt_of_cell? _ _ d1) d1; have u2 := since_cell hs5 (World.block_lt_of_cell? _ _ d2) d2))
                have HT5 : Hid (Turn W4 w5 (fun _ => False)) := ⟨hs5.os, hs5.tape, hs5.output, hs5.size, fun j hj _ => hs5.block j hj⟩
                clear pT cT tT pU cU tU u0 u1 u2 d0 d1 d2 hs5 hof
                go_wp2_with fail
                go_roundg (gk - 1)
                case measure => have := (show _ ∧ _ from HS); omega
                case rel =>
                  obtain ⟨e1, e2⟩ := (show _ ∧ _ from HT)
                  have T5 : Turn W4 w5 (fun _ => False) := HT5
                  obtain ⟨_, _, q3, q4, _, q5, q6, q7, _⟩ := (show _ ∧ _ from HS)
                  have z1 := e1.ltA
                  have z2 := T5.size
                  exact ⟨i + 1, s, by simp, by omega, by omega, e1.keep T5, below_turn e2 T5 (by omega) fun _ h => h.elim, by omega⟩

              · have hx0 : 0 ≤ x := by omega
                have g0 : decide (x < 0) = false := by simp; omega
                have g1 : decide (0 ≤ x) = true := by simp; omega
                have S2 := (show _ ∧ _ from HS2).1
                have one := S2.one bb hb3
                have hqo : (⟨k0, n0, s0⟩ : VK).Ok := (show _ ∧ _ from HS).2.2.2.2.1
                have hKk := (show _ ∧ _ from HK)
                have ht0 := one.inv.tot0
                have ht1 := one.inv.htot
                have g2 : decide (4611686018427387904 - (s bb).tot < x) = false := by simp; omega
                have hx1 : x ≤ 4611686018427387904 - (s bb).tot := by omega
                have hEu := one.sk.map.uniq
                have hbd := one.inv.bound hEu
                have hls := one.inv.hlost
                have had := add_w (s bb).o (s bb).b k (s bb).tot (s bb).lost (s bb).E W2.drew (one.sk.keep rfl rfl) hKk.2 (by have := one.inv.len; omega) ⟨k0, n0, s0⟩ hqo x hx0 ht0 hx1 (fun q hq => by
                  have h1 := hbd q.1
                  rw [(look_mem hEu (q := q.1) (x := q.2)).2 hq] at h1
                  have := (one.inv.pos q hq).1
                  simp at h1; omega) (by have := hbd ⟨k0, n0, s0⟩; omega)
                simp only [VK.val] at had
                have hoffA := S2.off bb hb3
                have hfo : ¬ (wr.heap.size = (s bb).o ∨ wr.heap.size = (s bb).b) := fun h => (show _ ∧ _ from HS2).2.2.2.2.2.2 bb hb3 (h.elim .inl fun h => .inr (.inl h))
                have hfA : ¬ (A = (s bb).o ∨ A = (s bb).b) := fun h => hoffA.1 (h.elim .inl fun h => .inr (.inl h))
                have hfB : ¬ (B = (s bb).o ∨ B = (s bb).b) := fun h => hoffA.2 (h.elim .inl fun h => .inr (.inl h))
                have hcn := one.cn
                have hin := one.inv
                have hbc := one.bc
                have hoc : (s bb).o ≠ (s bb).c := fun e => by
                  obtain ⟨t, ht⟩ := one.sk.blk
                  obtain ⟨es, clk, hb, _⟩ := hcn
                  rw [← e, ht] at hb; cases hb
                have hNu := hcn.uniq
                have HI : Hid (Inv k (s bb).tot (s bb).lost (s bb).E (s bb).N ∧ Uniq (s bb).E ∧ Uniq (s bb).N ∧ (s bb).b ≠ (s bb).c ∧ (s bb).o ≠ (s bb).c ∧ MapAt W2 (s bb).c (s bb).N ∧ x ≤ 4611686018427387904 - (s bb).tot ∧ 0 ≤ x) := ⟨hin, hEu, hNu, hbc, hoc, hcn, hx1, hx0⟩
                clear S2 one hKk hbd hls hin hcn hoffA hx1 hEu hbc hoc
                go_region_held3 (fun W : World => W.cell? ⟨A, bb, none⟩ = some (.pointer (some ⟨(s bb).o, 0, none⟩)) ∧ W.cell? ⟨wr.heap.size, 0, none⟩ = some (.int .i64 k0) ∧ W.cell? ⟨wr.heap.size, 1, none⟩ = some (.int .i64 n0) ∧ W.cell? ⟨wr.heap.size, 2, none⟩ = some (.string s0) ∧ W.cell? ⟨wr.heap.size, 3, none⟩ = some (.int .i64 x))
                  (first | exact ⟨pb, d0, d1, d2, d3⟩ | exact ⟨pb', c0, c1, c2, c3⟩)
                  (first | (go_at_call 10; (with_reducible refine had.mono ?_); rintro e w3 ⟨rfl, lost', E', M3, T3, hL⟩; have pb' := turn_cell T3 hfA pb; have c0 := turn_cell T3 hfo d0; have c1 := turn_cell T3 hfo d1; have c2 := turn_cell T3 hfo d2; have c3 := turn_cell T3 hfo d3; have c4 := turn_cell T3 hfB tb; have c5 := turn_cell T3 hfB cb; have c6 : w3.frozen? ⟨B, bb * 2 + 1, none⟩ = false := (World.frozen?_of_block (w := W2) (T3.block B (World.block_lt_of_cell? _ _ tb) hfB)).trans (fb _)))
                have HT3 : Hid (Turn W2 w3 (fun q => q = (s bb).o ∨ q = (s bb).b) ∧ OftAt w3 (s bb).o (s bb).b k ((s bb).tot + x) lost' E' ∧ Low k (s bb).lost (if 0 < x then put (s bb).E (cleanV ⟨k0, n0, s0⟩) ((lkE (s bb).E (cleanV ⟨k0, n0, s0⟩)).getD 0 + x) else (s bb).E) lost' E') := ⟨⟨T3.os, T3.tape, T3.output, T3.size, T3.block⟩, M3, hL⟩
                clear T3 M3 hL d0 d1 d2 d3 d4 pb pb' pa ca ta cb tb fb had hfo hfA
                go_wp2_with fail
                go_quiet (fail)
                generalize hW4 : w3.drewN _ = W4
                have HT4 : Hid (Turn W2 W4 (fun q => q = (s bb).o ∨ q = (s bb).b) ∧ OftAt W4 (s bb).o (s bb).b k ((s bb).tot + x) lost' E' ∧ Low k (s bb).lost (if 0 < x then put (s bb).E (cleanV ⟨k0, n0, s0⟩) ((lkE (s bb).E (cleanV ⟨k0, n0, s0⟩)).getD 0 + x) else (s bb).E) lost' E') := by
                  obtain ⟨h, h', h''⟩ := (show _ ∧ _ from HT3)
                  subst hW4
                  exact ⟨⟨h.os, h.tape, h.output, h.size, h.block⟩, h'.keep rfl rfl, h''⟩
                have d0 : W4.cell? ⟨wr.heap.size, 0, none⟩ = some (.int .i64 k0) := by subst hW4; exact c0
                have d1 : W4.cell? ⟨wr.heap.size, 1, none⟩ = some (.int .i64 n0) := by subst hW4; exact c1
                have d2 : W4.cell? ⟨wr.heap.size, 2, none⟩ = some (.string s0) := by subst hW4; exact c2
                have d3 : W4.cell? ⟨wr.heap.size, 3, none⟩ = some (.int .i64 x) := by subst hW4; exact c3
                have d4 : W4.cell? ⟨B, bb * 2 + 1, none⟩ = some (.int .i64 (s bb).tot) := by subst hW4; exact c4
                have d5 : W4.cell? ⟨B, bb * 2, none⟩ = some (.map (some (s bb).c)) := by subst hW4; exact c5
                have d6 : W4.frozen? ⟨B, bb * 2 + 1, none⟩ = false := by subst hW4; exact c6
                clear hW4 c0 c1 c2 c3 c4 c5 c6 HT3 g0 g1 g2 hfB
                go_wp2_with fail
                obtain ⟨T4, M4, hL4⟩ := (show _ ∧ _ from HT4)
                obtain ⟨hin, hEu, hNu, hbc, hoc, hcn, hx1, hx0'⟩ := (show _ ∧ _ from HI)
                have hz4 := T4.size
                have hcl := fun W => clean_w ⟨k0, n0, s0⟩ W
                have hco := cleanV_ok hqo
                have C4 : ∀ W : World, W4.drew.Since W4.drew.heap.size W → MapAt W (s bb).c (s bb).N := fun W h => hcn.keep ((h.block _ (by show (s bb).c < W4.heap.size; have := hcn.lt; omega)).trans (T4.block _ hcn.lt (by omega)))
                have hlc := hcn.lt
                have hNb := npos_look hin.npos hNu hin.tot0
                have hPre := hin.ofAdd hEu hNu ⟨k0, n0, s0⟩ hx0' hx1
                generalize cleanV ⟨k0, n0, s0⟩ = q at *
                obtain ⟨y, hy⟩ : ∃ y, y = (lkE (s bb).N q).getD 0 := ⟨_, rfl⟩
                have hyb := hNb q
                rw [← hy] at hyb hPre
                have hto := hin.htot
                obtain ⟨X, hX⟩ : ∃ X, X = y + x := ⟨_, rfl⟩
                have hw : IntKind.i64.wrap (y + x) = X := (IntWalk.i64_in (y + x) ⟨by omega, by omega⟩).trans hX.symm
                obtain ⟨Z, hZ⟩ : ∃ Z, Z = (s bb).tot + x := ⟨_, rfl⟩
                have hwz : IntKind.i64.wrap ((s bb).tot + x) = Z := (IntWalk.i64_in ((s bb).tot + x) ⟨by omega, by omega⟩).trans hZ.symm
                rw [← hX] at hPre
                have hqv : q.val = .agg #[.int .i64 q.k, .int .i64 q.n, .string q.s] := rfl
                have hbo : B ≠ (s bb).c := fun e => (show _ ∧ _ from HS2).1.off bb hb3 |>.2 (.inr (.inr e))
                have hwo : wr.heap.size ≠ (s bb).c := fun e => (show _ ∧ _ from HS2).2.2.2.2.2.2 bb hb3 (.inr (.inr e))
                have hBlt : B < W4.drew.heap.size := World.block_lt_of_cell? _ _ d4
                have hwlt : wr.heap.size < W4.drew.heap.size := World.block_lt_of_cell? _ _ d0
                have hy' : Hid (y = (lkE (s bb).N q).getD 0) := hy
                have HP : Hid (Pre k ((s bb).tot + x) (s bb).lost (if 0 < x then put (s bb).E q ((lkE (s bb).E q).getD 0 + x) else (s bb).E) (put (s bb).N q X) ∧ Z = (s bb).tot + x) := ⟨hPre, hZ⟩
                simp only [VK.val] at hcl
                clear hPre hX hZ hy hyb hNb hin hEu hNu hbc hoc hcn T4 M4 hL4 hto hx1 ht0 ht1
                go_region_held3 (fun W : World => W.cell? ⟨B, bb * 2, none⟩ = some (.map (some (s bb).c)) ∧ W.cell? ⟨wr.heap.size, 0, none⟩ = some (.int .i64 k0) ∧ W.cell? ⟨wr.heap.size, 1, none⟩ = some (.int .i64 n0) ∧ W.cell? ⟨wr.heap.size, 2, none⟩ = some (.string s0) ∧ W.cell? ⟨wr.heap.size, 3, none⟩ = some (.int .i64 x))
                  (first | exact ⟨d5, d0, d1, d2, d3⟩ | exact ⟨e5, e0, e1, e2, e3⟩ | exact ⟨p5, p0, p1, p2, p3⟩ | exact ⟨q5, q0, q1, q2, q3⟩)
                  (first | (go_at_call 14; (with_reducible refine (hcl _).mono ?_); rintro e w5 ⟨rfl, hs5, hd5⟩; have e5 := since_cell hs5 hBlt d5; have e0 := since_cell hs5 hwlt d0; have e1 := since_cell hs5 hwlt d1; have e2 := since_cell hs5 hwlt d2; have e3 := since_cell hs5 hwlt d3; have e4 := since_cell hs5 hBlt d4; have e6 : w5.frozen? ⟨B, bb * 2 + 1, none⟩ = false := (World.frozen?_of_block (w := W4) (hs5.block B hBlt)).trans d6;  have M5 := C4 w5 hs5; have hlk := M5.lookup hco mt44; obtain ⟨st, w6, hme, M6, hst, hm6⟩ := M5.entry hco mt44; have hlk3 := M6.lookup hco mt44; rw [look_put, if_pos rfl, Option.getD_some] at hlk3; obtain ⟨w7, hes, M7, hm7⟩ := M6.stamped hst X (mt := 44);  have p5 := cell_mapT hm6 hbo e5; have p0 := cell_mapT hm6 hwo e0; have p1 := cell_mapT hm6 hwo e1; have p2 := cell_mapT hm6 hwo e2; have p3 := cell_mapT hm6 hwo e3; have p4 := cell_mapT hm6 hbo e4;  have q5 := cell_mapT hm7 hbo p5; have q0 := cell_mapT hm7 hwo p0; have q1 := cell_mapT hm7 hwo p1; have q2 := cell_mapT hm7 hwo p2; have q3 := cell_mapT hm7 hwo p3; have q4 := cell_mapT hm7 hbo p4;  rw [← (show y = _ from hy')] at hlk hme hlk3; rw [hqv] at hlk hme hlk3; have hes2 : (Instr.entryStore 44 (.map (some (s bb).c)) (.int .i64 (st : Int)) (.int .i64 X)).run Try.prog w6 = .ok () w7 := hes))
                all_goals (
                  rw [put_put] at M7
                  have T57 := (Turn.mapT hm6).trans (Turn.mapT hm7) (own := fun q => q = (s bb).c) (fun _ h => h) fun _ _ h => h
                  have T45 : Turn W4 w5 (fun _ => False) := ⟨hs5.os, hs5.tape, hs5.output, hs5.size, fun j hj _ => hs5.block j hj⟩
                  have T47 := T45.trans T57 (own := fun q => q = (s bb).c) (fun _ h => h.elim) fun _ _ h => h
                  have q6 : w7.frozen? ⟨B, bb * 2 + 1, none⟩ = false := (World.frozen?_of_block (w := W4) (T47.block B hBlt hbo)).trans d6
                  have HM : Hid (Turn W4 w7 (fun q => q = (s bb).c) ∧ MapAt w7 (s bb).c (put (s bb).N q X) ∧ w7.heap[wr.heap.size]? = W4.heap[wr.heap.size]?) := ⟨T47, M7, T47.block _ hwlt hwo⟩
                  clear T57 T45 T47 M5 M6 M7 hm6 hm7 hst hes hes2 hlk hlk3 hme hs5 hd5 e0 e1 e2 e3 e4 e5 e6 p0 p1 p2 p3 p4 p5 d0 d1 d2 d3 d4 d5 d6 hcl hco hqv C4
                  go_wp2_with fail
                  go_still_tail 7, (by kernel_rfl)
                  change wpList _ _ _ _ _ w7.drew
                  go_wp2_with fail
                  obtain ⟨T4, M4, hL4⟩ := (show _ ∧ _ from HT4)
                  obtain ⟨hin, hEu, hNu, hbc, hoc, hcn, hx1, hx0'⟩ := (show _ ∧ _ from HI)
                  obtain ⟨T47, M7, hbx⟩ := (show _ ∧ _ from HM)
                  obtain ⟨hPre, hZ⟩ := (show _ ∧ _ from HP)
                  obtain ⟨S2, Bl2, T2, hb2, _⟩ := (show _ ∧ _ from HS2)
                  have hz2 := T2.size
                  have hz24 := T4.size
                  have hAs := (show _ ∧ _ from HS).2.2.1
                  have XO : One w7 k ⟨(s bb).o, (s bb).b, (s bb).c, (s bb).tot + x, lost', E', put (s bb).N q X⟩ := ⟨M4.keep (T47.block _ M4.lt hoc) (T47.block _ M4.map.lt hbc), M7, hPre.low (by split; exact put_uniq hEu; exact hEu) M7.uniq hL4, hbc⟩
                  have TT : Turn W2 w7 (s bb).foot := T4.trans T47 (fun _ h => h.elim .inl fun h => .inr (.inl h)) fun _ _ h => .inr (.inr h)
                  have hup := S2.upd (by omega) hb3 (Nat.le_refl _) XO (fun q' h => .inl h) rfl rfl TT
                  simp only [← hZ] at hup
                  have S9 : St A 3 (w7.setCell ⟨B, bb * 2 + 1, none⟩ (.int .i64 Z)).drew k A B (upd s bb ⟨(s bb).o, (s bb).b, (s bb).c, Z, lost', E', put (s bb).N q X⟩) := hup.keep ⟨rfl, rfl, rfl, Nat.le_refl _, fun _ _ _ => rfl⟩
                  have HBW : Below A w (w7.setCell ⟨B, bb * 2 + 1, none⟩ (.int .i64 Z)).drew := by
                    have h1 := below_turn Bl2 TT (by omega) fun q' h => S2.old.2.2 bb q' hb3 h
                    have h2 := below_turn h1 (Turn.cell (w := w7) ⟨B, bb * 2 + 1, none⟩ (.int .i64 Z) (own := fun q => q = B) rfl) (by have := TT.size; omega) fun q' h => by rw [h]; exact S2.old.2.1
                    exact ⟨h2.os, h2.tape, h2.output, h2.size, h2.block⟩
                  have d0 : (w7.setCell ⟨B, bb * 2 + 1, none⟩ (.int .i64 Z)).drew.cell? ⟨wr.heap.size, 0, none⟩ = some (.int .i64 k0) := (World.cell?_setCell_other _ _ _ _ (by first | (simp; done) | (simp; intro h; exact absurd h.symm (show _ ∧ _ from HS2).2.2.2.2.2.1))).trans q0
                  have d1 : (w7.setCell ⟨B, bb * 2 + 1, none⟩ (.int .i64 Z)).drew.cell? ⟨wr.heap.size, 1, none⟩ = some (.int .i64 n0) := (World.cell?_setCell_other _ _ _ _ (by first | (simp; done) | (simp; intro h; exact absurd h.symm (show _ ∧ _ from HS2).2.2.2.2.2.1))).trans q1
                  have d2 : (w7.setCell ⟨B, bb * 2 + 1, none⟩ (.int .i64 Z)).drew.cell? ⟨wr.heap.size, 2, none⟩ = some (.string s0) := (World.cell?_setCell_other _ _ _ _ (by first | (simp; done) | (simp; intro h; exact absurd h.symm (show _ ∧ _ from HS2).2.2.2.2.2.1))).trans q2
                  clear T4 M4 hL4 hin hEu hNu hbc hoc hcn hx1 hx0' T47 M7 hbx hPre hZ S2 Bl2 T2 hb2 hz2 hz24 hAs XO TT hup q0 q1 q2 q3 q4 q5 q6 HM HP hw hwz hlc hbo hwo hBlt hwlt hx0 hneg hbig hz4
                  generalize (w7.setCell ⟨B, bb * 2 + 1, none⟩ (.int .i64 Z)).drew = W9 at *
                  generalize hss : upd s bb ⟨(s bb).o, (s bb).b, (s bb).c, Z, lost', E', put (s bb).N q X⟩ = s9 at *
                  clear hss
                  have pT := St.ptr S9 hb3
                  obtain ⟨cT, tT, fT⟩ := St.cnt S9 hb3
                  have hKk := (show _ ∧ _ from HK)
                  have hqo : (⟨k0, n0, s0⟩ : VK).Ok := (show _ ∧ _ from HS).2.2.2.2.1
                  have oneT := S9.one bb hb3
                  have hof := often_w (s9 bb).o (s9 bb).b (s9 bb).c k (s9 bb).tot (s9 bb).lost (s9 bb).E (s9 bb).N ⟨k0, n0, s0⟩ hqo W9.drew (oneT.sk.keep rfl rfl) (oneT.cn.keep rfl) oneT.inv
                  rw [← hKk.1] at hof
                  simp only [VK.val] at hof
                  have HT : Hid (St A 3 W9 k A B s9 ∧ Below A w W9) := ⟨S9, HBW⟩
                  clear S9 oneT hKk hqo fT
                  generalize (s9 bb).o = o1 at *
                  generalize (s9 bb).c = c1 at *
                  generalize (s9 bb).tot = t1 at *
                  go_region_held3 (fun W : World => W.cell? ⟨A, bb, none⟩ = some (.pointer (some ⟨o1, 0, none⟩)) ∧ W.cell? ⟨B, bb * 2, none⟩ = some (.map (some c1)) ∧ W.cell? ⟨B, bb * 2 + 1, none⟩ = some (.int .i64 t1) ∧ W.cell? ⟨wr.heap.size, 0, none⟩ = some (.int .i64 k0) ∧ W.cell? ⟨wr.heap.size, 1, none⟩ = some (.int .i64 n0) ∧ W.cell? ⟨wr.heap.size, 2, none⟩ = some (.string s0))
                    (first | exact ⟨pT, cT, tT, d0, d1, d2⟩ | exact ⟨pU, cU, tU, u0, u1, u2⟩)
                    (first | (go_at_call 15; (with_reducible refine hof.mono ?_); rintro e w5 ⟨rfl, hs5⟩; have pU := since_cell hs5 (World.block_lt_of_cell? _ _ pT) pT; have cU := since_cell hs5 (World.block_lt_of_cell? _ _ cT) cT; have tU := since_cell hs5 (World.block_lt_of_cell? _ _ tT) tT; have u0 := since_cell hs5 (World.block_lt_of_cell? _ _ d0) d0; have u1 := since_cell hs5 (World.block_lt_of_cell? _ _ d1) d1; have u2 := since_cell hs5 (World.block_lt_of_cell? _ _ d2) d2))
                  have HT5 : Hid (Turn W9 w5 (fun _ => False)) := ⟨hs5.os, hs5.tape, hs5.output, hs5.size, fun j hj _ => hs5.block j hj⟩
                  clear pT cT tT pU cU tU u0 u1 u2 d0 d1 d2 hs5 hof
                  go_wp2_with fail
                  go_roundg (gk - 1)
                  case measure => have := (show _ ∧ _ from HS); omega
                  case rel =>
                    obtain ⟨e1, e2⟩ := (show _ ∧ _ from HT)
                    have T5 : Turn W9 w5 (fun _ => False) := HT5
                    obtain ⟨_, _, q3, q4, _, q5, q6, q7, _⟩ := (show _ ∧ _ from HS)
                    have z1 := e1.ltA
                    have z2 := T5.size
                    exact ⟨i + 1, s9, by simp, by omega, by omega, e1.keep T5, below_turn e2 T5 (by omega) fun _ h => h.elim, by omega⟩)

          | true =>
            go_wp2_with fail
            by_cases hbig : 4611686018427387904 - (s bb).tot < (s a).tot
            · have S2 := (show _ ∧ _ from HS2).1
              have one := S2.one bb hb3
              have onea := S2.one a ha3
              have hqo : (⟨k0, n0, s0⟩ : VK).Ok := (show _ ∧ _ from HS).2.2.2.2.1
              have hKk := (show _ ∧ _ from HK)
              have ht0 := one.inv.tot0
              have ht1 := one.inv.htot
              have ha0' := onea.inv.tot0
              have ha1' := onea.inv.htot
              have had := merge_large (s bb).o (s bb).b (s a).o (s a).b k (s bb).tot (s bb).lost (s a).tot (s a).lost (s bb).E (s a).E W2.drew (one.sk.keep rfl rfl) (onea.sk.keep rfl rfl) ⟨ht0, ht1⟩ hbig
              have g2 : decide (4611686018427387904 - (s bb).tot < (s a).tot) = true := by simp; omega
              clear S2 one onea hqo hKk
              go_region_held3 (fun W : World => W.cell? ⟨A, bb, none⟩ = some (.pointer (some ⟨(s bb).o, 0, none⟩)) ∧ W.cell? ⟨A, a, none⟩ = some (.pointer (some ⟨(s a).o, 0, none⟩)))
                (first | exact ⟨pb, pa⟩ | exact ⟨pb', pa'⟩)
                (first | (go_at_call 8; (with_reducible refine had.mono ?_); rintro e w3 ⟨rfl, hT3⟩; have pb' := turn_cell hT3 id pb; have pa' := turn_cell hT3 id pa; have c0 := turn_cell hT3 id d0; have c1 := turn_cell hT3 id d1; have c2 := turn_cell hT3 id d2; have c3 := turn_cell hT3 id ta; have c4 := turn_cell hT3 id tb))
              have HT3 : Hid (Turn W2 w3 (fun _ => False)) := ⟨hT3.os, hT3.tape, hT3.output, hT3.size, hT3.block⟩
              clear hT3 d0 d1 d2 d3 d4 pb pb' pa pa' ca ta cb tb fb had
              go_wp2_with fail
              go_quiet (fail)
              generalize hW4 : w3.drewN _ = W4
              have HT4 : Hid (Turn W2 W4 (fun _ => False)) := by
                have h := (show Turn W2 w3 (fun _ => False) from HT3)
                subst hW4
                exact ⟨h.os, h.tape, h.output, h.size, h.block⟩
              have d0 : W4.cell? ⟨wr.heap.size, 0, none⟩ = some (.int .i64 k0) := by subst hW4; exact c0
              have d1 : W4.cell? ⟨wr.heap.size, 1, none⟩ = some (.int .i64 n0) := by subst hW4; exact c1
              have d2 : W4.cell? ⟨wr.heap.size, 2, none⟩ = some (.string s0) := by subst hW4; exact c2
              clear hW4 c0 c1 c2 c3 c4 HT3 g2 ht0 ht1 hbig ha0' ha1'
              go_wp2_with fail
              have S4 := St.keep (show _ ∧ _ from HS2).1 (show Turn W2 W4 (fun _ => False) from HT4)
              have HBW : Below A w W4 := below_turn (show _ ∧ _ from HS2).2.1 (show Turn W2 W4 (fun _ => False) from HT4) (by have := (show _ ∧ _ from HS2).2.2.1.size; have := (show _ ∧ _ from HS).2.2.1; omega) fun _ h => h.elim
              have pT := St.ptr S4 hb3
              obtain ⟨cT, tT, fT⟩ := St.cnt S4 hb3
              have hKk := (show _ ∧ _ from HK)
              have hqo : (⟨k0, n0, s0⟩ : VK).Ok := (show _ ∧ _ from HS).2.2.2.2.1
              have oneT := S4.one bb hb3
              have hof := often_w (s bb).o (s bb).b (s bb).c k (s bb).tot (s bb).lost (s bb).E (s bb).N ⟨k0, n0, s0⟩ hqo W4.drew (oneT.sk.keep rfl rfl) (oneT.cn.keep rfl) oneT.inv
              rw [← hKk.1] at hof
              simp only [VK.val] at hof
              have HT : Hid (St A 3 W4 k A B s ∧ Below A w W4) := ⟨S4, HBW⟩
              clear S4 oneT hKk hqo fT
              generalize (s bb).o = o1 at *
              generalize (s bb).c = c1 at *
              generalize (s bb).tot = t1 at *
              go_region_held3 (fun W : World => W.cell? ⟨A, bb, none⟩ = some (.pointer (some ⟨o1, 0, none⟩)) ∧ W.cell? ⟨B, bb * 2, none⟩ = some (.map (some c1)) ∧ W.cell? ⟨B, bb * 2 + 1, none⟩ = some (.int .i64 t1) ∧ W.cell? ⟨wr.heap.size, 0, none⟩ = some (.int .i64 k0) ∧ W.cell? ⟨wr.heap.size, 1, none⟩ = some (.int .i64 n0) ∧ W.cell? ⟨wr.heap.size, 2, none⟩ = some (.string s0))
                (first | exact ⟨pT, cT, tT, d0, d1, d2⟩ | exact ⟨pU, cU, tU, u0, u1, u2⟩)
                (first | (go_at_call 15; (with_reducible refine hof.mono ?_); rintro e w5 ⟨rfl, hs5⟩; have pU := since_cell hs5 (World.block_lt_of_cell? _ _ pT) pT; have cU := since_cell hs5 (World.block_lt_of_cell? _ _ cT) cT; have tU := since_cell hs5 (World.block_lt_of_cell? _ _ tT) tT; have u0 := since_cell hs5 (World.block_lt_of_cell? _ _ d0) d0; have u1 := since_cell hs5 (World.block_lt_of_cell? _ _ d1) d1; have u2 := since_cell hs5 (World.block_lt_of_cell? _ _ d2) d2))
              have HT5 : Hid (Turn W4 w5 (fun _ => False)) := ⟨hs5.os, hs5.tape, hs5.output, hs5.size, fun j hj _ => hs5.block j hj⟩
              clear pT cT tT pU cU tU u0 u1 u2 d0 d1 d2 hs5 hof
              go_wp2_with fail
              go_roundg (gk - 1)
              case measure => have := (show _ ∧ _ from HS); omega
              case rel =>
                obtain ⟨e1, e2⟩ := (show _ ∧ _ from HT)
                have T5 : Turn W4 w5 (fun _ => False) := HT5
                obtain ⟨_, _, q3, q4, _, q5, q6, q7, _⟩ := (show _ ∧ _ from HS)
                have z1 := e1.ltA
                have z2 := T5.size
                exact ⟨i + 1, s, by simp, by omega, by omega, e1.keep T5, below_turn e2 T5 (by omega) fun _ h => h.elim, by omega⟩

            · obtain ⟨GK, rfl⟩ : ∃ G, G = gk := ⟨gk, rfl⟩
              have S2 := (show _ ∧ _ from HS2).1
              have one := S2.one bb hb3
              have onea := S2.one a ha3
              have hqo : (⟨k0, n0, s0⟩ : VK).Ok := (show _ ∧ _ from HS).2.2.2.2.1
              have hKk := (show _ ∧ _ from HK)
              have ht0 := one.inv.tot0
              have ht1 := one.inv.htot
              have ha0' := onea.inv.tot0
              have ha1' := onea.inv.htot
              have g2 : decide (4611686018427387904 - (s bb).tot < (s a).tot) = false := by simp; omega
              have hsum : (s bb).tot + (s a).tot ≤ 4611686018427387904 := by omega
              have hEu := one.sk.map.uniq
              have hEu2 := onea.sk.map.uniq
              have hbd := one.inv.bound hEu
              have hbd2 := onea.inv.bound hEu2
              have had := merge_w (s bb).o (s bb).b (s a).o (s a).b k (s bb).tot (s bb).lost (s a).tot (s a).lost (s bb).E (s a).E W2.drew (one.sk.keep rfl rfl) (onea.sk.keep rfl rfl) hKk.2 (by have := one.inv.len; omega) (by have := onea.inv.len; omega) hsum (fun q hq => by
                have h1 := hbd q.1
                rw [(look_mem hEu (q := q.1) (x := q.2)).2 hq] at h1
                simpa using h1) (fun q hq => by
                have h1 := hbd2 q.1
                rw [(look_mem hEu2 (q := q.1) (x := q.2)).2 hq] at h1
                simpa using h1) ⟨one.inv.hlost, by have := hbd ⟨k0, n0, s0⟩; omega⟩ ⟨onea.inv.hlost, by have := hbd2 ⟨k0, n0, s0⟩; omega⟩
              have hoffA := S2.off bb hb3
              have hfo : ¬ (wr.heap.size = (s bb).o) := fun h => (show _ ∧ _ from HS2).2.2.2.2.2.2 bb hb3 (.inl h)
              have hfA : ¬ (A = (s bb).o) := fun h => hoffA.1 (.inl h)
              have hfB : ¬ (B = (s bb).o) := fun h => hoffA.2 (.inl h)
              have hcn := one.cn
              have hcna := onea.cn
              have hin := one.inv
              have hina := onea.inv
              have hoc : ∀ j, j < 3 → (s bb).o ≠ (s j).c := fun j hj e => by
                obtain ⟨t, ht⟩ := one.sk.blk
                obtain ⟨es, clk, hb, _⟩ := (S2.one j hj).cn
                rw [← e, ht] at hb; cases hb
              have HI : Hid (Inv k (s bb).tot (s bb).lost (s bb).E (s bb).N ∧ Inv k (s a).tot (s a).lost (s a).E (s a).N ∧ Uniq (s bb).E ∧ Uniq (s a).E ∧ (∀ j, j < 3 → (s bb).o ≠ (s j).c) ∧ MapAt W2 (s bb).c (s bb).N ∧ MapAt W2 (s a).c (s a).N ∧ (s bb).tot + (s a).tot ≤ 4611686018427387904) := ⟨hin, hina, hEu, hEu2, hoc, hcn, hcna, hsum⟩
              clear S2 one onea hKk hbd hbd2 hin hina hcn hcna hoffA hEu hEu2 hoc
              go_region_held3 (fun W : World => W.cell? ⟨A, bb, none⟩ = some (.pointer (some ⟨(s bb).o, 0, none⟩)) ∧ W.cell? ⟨A, a, none⟩ = some (.pointer (some ⟨(s a).o, 0, none⟩)))
                (first | exact ⟨pb, pa⟩ | exact ⟨pb', pa'⟩)
                (first | (go_at_call 8; (with_reducible refine had.mono ?_); rintro e w3 ⟨rfl, m, D, lost', E', hm0, M3, T3, hD1, hD2, hD3, hL⟩; have pb' := turn_cell T3 hfA pb; have pa' := turn_cell T3 hfA pa; have c0 := turn_cell T3 hfo d0; have c1 := turn_cell T3 hfo d1; have c2 := turn_cell T3 hfo d2; have c3 := turn_cell T3 hfB ta; have c4 := turn_cell T3 hfB tb; have c5 := turn_cell T3 hfB ca; have c6 := turn_cell T3 hfB cb; have c7 : w3.frozen? ⟨B, bb * 2 + 1, none⟩ = false := (World.frozen?_of_block (w := W2) (T3.block B (World.block_lt_of_cell? _ _ tb) hfB)).trans (fb _)))
              have HT3 : Hid (W2.heap.size ≤ m ∧ Turn W2 w3 (fun q => q = (s bb).o) ∧ OftAt w3 (s bb).o m k ((s bb).tot + (s a).tot) lost' E' ∧ (∀ q, lkE D q = both (s bb).E (s a).E q) ∧ Uniq D ∧ Low k ((s bb).lost + (s a).lost) D lost' E') := ⟨hm0, ⟨T3.os, T3.tape, T3.output, T3.size, T3.block⟩, M3, hD1, hD2, hL⟩
              clear T3 M3 hL hm0 hD1 hD2 hD3 d0 d1 d2 d3 d4 pb pb' pa pa' ca ta cb tb fb had hfo hfA hfB
              go_wp2_with fail
              go_quiet (fail)
              generalize hW4 : w3.drewN _ = W4
              have HT4 : Hid (W2.heap.size ≤ m ∧ Turn W2 W4 (fun q => q = (s bb).o) ∧ OftAt W4 (s bb).o m k ((s bb).tot + (s a).tot) lost' E' ∧ (∀ q, lkE D q = both (s bb).E (s a).E q) ∧ Uniq D ∧ Low k ((s bb).lost + (s a).lost) D lost' E') := by
                obtain ⟨h0, h, h', h''⟩ := (show _ ∧ _ from HT3)
                subst hW4
                exact ⟨h0, ⟨h.os, h.tape, h.output, h.size, h.block⟩, h'.keep rfl rfl, h''⟩
              have d0 : W4.cell? ⟨wr.heap.size, 0, none⟩ = some (.int .i64 k0) := by subst hW4; exact c0
              have d1 : W4.cell? ⟨wr.heap.size, 1, none⟩ = some (.int .i64 n0) := by subst hW4; exact c1
              have d2 : W4.cell? ⟨wr.heap.size, 2, none⟩ = some (.string s0) := by subst hW4; exact c2
              have d3 : W4.cell? ⟨B, a * 2 + 1, none⟩ = some (.int .i64 (s a).tot) := by subst hW4; exact c3
              have d4 : W4.cell? ⟨B, bb * 2 + 1, none⟩ = some (.int .i64 (s bb).tot) := by subst hW4; exact c4
              have d5 : W4.cell? ⟨B, a * 2, none⟩ = some (.map (some (s a).c)) := by subst hW4; exact c5
              have d6 : W4.cell? ⟨B, bb * 2, none⟩ = some (.map (some (s bb).c)) := by subst hW4; exact c6
              have d7 : W4.frozen? ⟨B, bb * 2 + 1, none⟩ = false := by subst hW4; exact c7
              clear hW4 c0 c1 c2 c3 c4 c5 c6 c7 HT3 g2 ht0 ht1 ha0' ha1'
              obtain ⟨hm0, T4, M4, hD1, hD2, hL⟩ := (show _ ∧ _ from HT4)
              obtain ⟨hin, hina, hEu, hEu2, hoc, hcn, hcna, hsum⟩ := (show _ ∧ _ from HI)
              have hz4 := T4.size
              have C4 : MapAt W4 (s bb).c (s bb).N := hcn.keep (T4.block _ hcn.lt (fun e => hoc bb hb3 e.symm))
              have A4 : MapAt W4 (s a).c (s a).N := hcna.keep (T4.block _ hcna.lt (fun e => hoc a ha3 e.symm))
              have hmk : (Instr.makeMap 44 none).run Try.prog W4 = .ok (.map (some W4.heap.size)) (W4.alloc (.map #[] 0)) := by simp [@run_makeMap Try.prog]
              have A5 : MapAt (W4.alloc (.map #[] 0)) (s a).c (s a).N := A4.keep (blk_alloc_lt _ _ _ A4.lt)
              have D5 : MapAt (W4.alloc (.map #[] 0)) W4.heap.size [] := MapAt.made W4
              have ho5 : (W4.alloc (.map #[] 0)).cell? ⟨B, a * 2, none⟩ = some (.map (some (s a).c)) := cell_alloc _ d5
              obtain ⟨W6, hrg, hit6, hg6, hz6⟩ := A5.range mt44
              have hz5 : (W4.alloc (.map #[] 0)).heap.size = W4.heap.size + 1 := by simp
              have S6 : W4.Since W4.heap.size W6 := ((World.Since.refl _ W4).alloc (Nat.le_refl _) _).grown hg6 (by omega) (by simp)
              have D6 : MapAt W6 W4.heap.size [] := D5.keep (hg6.block _ (by omega) (by simp))
              have hlca := A4.lt
              have hlcb := C4.lt
              have HA : Hid (MapAt W4 (s bb).c (s bb).N ∧ MapAt W4 (s a).c (s a).N) := ⟨C4, A4⟩
              have hBlt := World.block_lt_of_cell? _ _ d4
              have hwlt := World.block_lt_of_cell? _ _ d0
              rw [hz5] at hrg hit6 hz6
              clear hm0 T4 M4 hD1 hD2 hL hin hina hEu hEu2 hoc hcn hcna hsum hz4 C4 A4 A5 D5 hg6 hz5
              go_wp2_with fail
              generalize hbx : wr.heap.size = bx at *
              clear hbx
              obtain ⟨u, hu⟩ : ∃ u, u = W4.heap.size := ⟨_, rfl⟩
              rw [← hu] at hit6 S6 D6 hz6 hlca hlcb
              have hu' : Hid (u = W4.heap.size) := hu
              clear hmk ho5 hrg
              rw [← hu]
              clear hu
              have hNu : Uniq (s a).N := (show _ ∧ _ from HA).2.uniq
              have P0 : Part (s a).N [] ((s a).N.map (·.1)) := ⟨by simp, by simp⟩
              go_loopg [16] (s a).N.length (fun g _ wl => ∃ (D : Ents) (L : List VK), MapAt wl u D ∧ ItAt wl (s a).c (u + 1) (s a).N L ∧ Part (s a).N D L ∧ g = L.length ∧ W4.Since u wl ∧ u + 1 < wl.heap.size)
              case atStart => exact ⟨[], _, D6, hit6, P0, by simp, S6, by omega⟩
              case round =>
                clear D6 hit6 S6 hz6 P0
                obtain ⟨D', L, hD, hit, hP, hg, hS, hlt⟩ := hrel
                have hnx := hit.next 0
                rcases hnx with ⟨rfl, hn⟩ | ⟨q, y, w2, hqL, hqx, hqo', hn, hit2, hen, hg2, hz2⟩
                · have hlook : ∀ q, lkE D' q = lkE (s a).N q := Part.lkE hNu hD.uniq hP
                  obtain ⟨hC4, hA4⟩ := (show _ ∧ _ from HA)
                  have hwu : bx < u ∧ B < u := by rw [show u = W4.heap.size from hu']; exact ⟨hwlt, hBlt⟩
                  have HC : Hid (W4.cell? ⟨bx, 0, none⟩ = some (.int .i64 k0) ∧ W4.cell? ⟨bx, 1, none⟩ = some (.int .i64 n0) ∧ W4.cell? ⟨bx, 2, none⟩ = some (.string s0) ∧ W4.cell? ⟨B, a * 2 + 1, none⟩ = some (.int .i64 (s a).tot) ∧ W4.cell? ⟨B, bb * 2 + 1, none⟩ = some (.int .i64 (s bb).tot) ∧ W4.cell? ⟨B, bb * 2, none⟩ = some (.map (some (s bb).c)) ∧ W4.frozen? ⟨B, bb * 2 + 1, none⟩ = false) := ⟨d0, d1, d2, d3, d4, d6, d7⟩
                  obtain ⟨W7, hrg, hit7, hg7, hz7⟩ := hD.range mt44
                  have C7 : MapAt W7 (s bb).c (s bb).N := hC4.keep ((hg7.block _ (by have := hS.size; omega) (by simp)).trans (hS.block _ hlcb))
                  have T7 : Turn W4 W7 (fun q => q = (s bb).c ∨ u ≤ q) := Turn.trans (o := fun _ => False) (o' := fun _ => False) ⟨hS.os, hS.tape, hS.output, hS.size, fun j hj _ => hS.block j (by rw [show u = W4.heap.size from hu']; exact hj)⟩ (Turn.grown hg7 (by simp)) (fun _ h => h.elim) fun _ _ h => h.elim
                  have hbo : B ≠ (s bb).c := fun e => (show _ ∧ _ from HS2).1.off bb hb3 |>.2 (.inr (.inr e))
                  have hwo : bx ≠ (s bb).c := fun e => (show _ ∧ _ from HS2).2.2.2.2.2.2 bb hb3 (.inr (.inr e))
                  have A0 : Add2 (s bb).N D' (s bb).N (D'.map (·.1)) := Add2.start fun _ => rfl
                  have hucb : (s bb).c < u := hlcb
                  have hDu := hD.uniq
                  clear hD hit hP hS hg7 d0 d1 d2 d3 d4 d5 d6 d7 hA4
                  generalize hr2 : wr.heap.size = r2 at *
                  go_wp2_with fail
                  have hC4u := hC4.uniq
                  go_loopg [18] D'.length (fun g _ wl => ∃ (M : Ents) (L : List VK), MapAt wl (s bb).c M ∧ ItAt wl u r2 D' L ∧ Add2 (s bb).N D' M L ∧ g = L.length ∧ Turn W4 wl (fun q => q = (s bb).c ∨ u ≤ q) ∧ r2 < wl.heap.size)
                  case atStart => exact ⟨_, _, C7, hit7, A0, by simp, T7, by omega⟩
                  case round =>
                    clear C7 hit7 A0 T7 hz7 hrg hC4
                    obtain ⟨M, L, hM, hit, hAd, hg, hT, hlt2⟩ := hrel
                    have hnx := hit.next 0
                    have nB : ¬ (B = (s bb).c ∨ u ≤ B) := by omega
                    have nx : ¬ (bx = (s bb).c ∨ u ≤ bx) := by omega
                    rcases hnx with ⟨rfl, hn⟩ | ⟨q, y, w2, hqL, hqx, hqo', hn, hit2, hen, hg2, hz2⟩
                    · obtain ⟨d0, d1, d2, d3, d4, _, d7⟩ := (show _ ∧ _ from HC)
                      obtain ⟨hin, hina, hEu, hEu2, hoc, hcn, hcna, hsum⟩ := (show _ ∧ _ from HI)
                      obtain ⟨hm0, T4, M4, hD1, hD2, hL⟩ := (show _ ∧ _ from HT4)
                      obtain ⟨S2, Bl2, T2, hb2, _⟩ := (show _ ∧ _ from HS2)
                      have e0 := turn_cell hT nx d0
                      have e1 := turn_cell hT nx d1
                      have e2 := turn_cell hT nx d2
                      have e3 := turn_cell hT nB d3
                      have e4 := turn_cell hT nB d4
                      have e7 : wr.frozen? ⟨B, bb * 2 + 1, none⟩ = false := (World.frozen?_of_block (w := W4) (hT.block B (World.block_lt_of_cell? _ _ d4) nB)).trans d7
                      have hz2 := T2.size
                      have hz24 := T4.size
                      have hzt := hT.size
                      have hAs := S2.ltA.1
                      have hu4 : u = W4.heap.size := hu'
                      have hlk2 : ∀ q, lkE M q = both (s bb).N (s a).N q := fun q => by
                        rw [hAd q]
                        simp only [List.not_mem_nil, if_false]
                        unfold both
                        rw [hlook]
                      have hcb2 := hcn.lt
                      have XO : One wr k ⟨(s bb).o, m, (s bb).c, (s bb).tot + (s a).tot, lost', E', M⟩ := ⟨M4.keep (hT.block _ M4.lt (fun h => by have := M4.lt; have := hoc bb hb3; omega)) (hT.block _ M4.map.lt (fun h => by have := M4.map.lt; omega)), hM, (hin.ofMerge hina hEu hEu2 hC4u hNu hD2 hM.uniq hD1 hlk2 hsum).low hD2 hM.uniq hL, by show m ≠ (s bb).c; omega⟩
                      have TT : Turn W2 wr (s bb).foot := T4.trans hT (fun _ h => .inl h) fun q' hq' h => by
                        rcases h with h | h
                        · exact .inr (.inr h)
                        · omega
                      have hup := S2.upd (by omega) hb3 (Nat.le_refl _) XO (fun q' h => by
                        rcases h with h | h | h
                        · exact .inl (.inl h)
                        · exact .inr (by rw [h]; exact hm0)
                        · exact .inl (.inr (.inr h))) rfl rfl TT
                      obtain ⟨Z, hZ⟩ : ∃ Z, Z = (s bb).tot + (s a).tot := ⟨_, rfl⟩
                      have hin0 := hin.tot0
                      have hina0 := hina.tot0
                      have hwz : IntKind.i64.wrap ((s bb).tot + (s a).tot) = Z := (IntWalk.i64_in ((s bb).tot + (s a).tot) ⟨by omega, by omega⟩).trans hZ.symm
                      simp only [← hZ] at hup
                      have hBx : bx ≠ B := (show _ ∧ _ from HS2).2.2.2.2.2.1
                      have S9 : St A 3 (wr.setCell ⟨B, bb * 2 + 1, none⟩ (.int .i64 Z)).drew k A B (upd s bb ⟨(s bb).o, m, (s bb).c, Z, lost', E', M⟩) := hup.keep ⟨rfl, rfl, rfl, Nat.le_refl _, fun _ _ _ => rfl⟩
                      have HBW : Below A w (wr.setCell ⟨B, bb * 2 + 1, none⟩ (.int .i64 Z)).drew := by
                        have h1 := below_turn Bl2 TT (by omega) fun q' h => S2.old.2.2 bb q' hb3 h
                        have h2 := below_turn h1 (Turn.cell (w := wr) ⟨B, bb * 2 + 1, none⟩ (.int .i64 Z) (own := fun q => q = B) rfl) (by have := TT.size; omega) fun q' h => by rw [h]; exact S2.old.2.1
                        exact ⟨h2.os, h2.tape, h2.output, h2.size, h2.block⟩
                      have d0 : (wr.setCell ⟨B, bb * 2 + 1, none⟩ (.int .i64 Z)).drew.cell? ⟨bx, 0, none⟩ = some (.int .i64 k0) := (World.cell?_setCell_other _ _ _ _ (by intro h; simp only [Addr.mk.injEq] at h; exact hBx h.1.symm)).trans e0
                      have d1 : (wr.setCell ⟨B, bb * 2 + 1, none⟩ (.int .i64 Z)).drew.cell? ⟨bx, 1, none⟩ = some (.int .i64 n0) := (World.cell?_setCell_other _ _ _ _ (by intro h; simp only [Addr.mk.injEq] at h; exact hBx h.1.symm)).trans e1
                      have d2 : (wr.setCell ⟨B, bb * 2 + 1, none⟩ (.int .i64 Z)).drew.cell? ⟨bx, 2, none⟩ = some (.string s0) := (World.cell?_setCell_other _ _ _ _ (by intro h; simp only [Addr.mk.injEq] at h; exact hBx h.1.symm)).trans e2
                      clear hin hina hEu hEu2 hoc hcn hcna hsum hm0 T4 M4 hD1 hD2 hL S2 Bl2 T2 hb2 hz2 hz24 hzt hAs hu4 hlk2 hcb2 XO TT hup hZ hin0 hina0 hBx hM hit hAd hT d3 d4 d7 e0 e1 e2 hbig
                      go_wp2_with fail
                      go_still_tail 9, (by kernel_rfl)
                      change wpList _ _ _ _ _ wr.drew
                      go_wp2_with fail
                      clear e3 e4 e7 hwz hwu nB nx hn hbo hwo hNu hC4u hDu hlook
                      generalize (wr.setCell ⟨B, bb * 2 + 1, none⟩ (.int .i64 Z)).drew = W9 at *
                      generalize hss : upd s bb ⟨(s bb).o, m, (s bb).c, Z, lost', E', M⟩ = s9 at *
                      clear hss
                      have pT := St.ptr S9 hb3
                      obtain ⟨cT, tT, fT⟩ := St.cnt S9 hb3
                      have hKk := (show _ ∧ _ from HK)
                      have hqo : (⟨k0, n0, s0⟩ : VK).Ok := (show _ ∧ _ from HS).2.2.2.2.1
                      have oneT := S9.one bb hb3
                      have hof := often_w (s9 bb).o (s9 bb).b (s9 bb).c k (s9 bb).tot (s9 bb).lost (s9 bb).E (s9 bb).N ⟨k0, n0, s0⟩ hqo W9.drew (oneT.sk.keep rfl rfl) (oneT.cn.keep rfl) oneT.inv
                      rw [← hKk.1] at hof
                      simp only [VK.val] at hof
                      have HT : Hid (St A 3 W9 k A B s9 ∧ Below A w W9) := ⟨S9, HBW⟩
                      clear S9 oneT hKk hqo fT
                      generalize (s9 bb).o = o1 at *
                      generalize (s9 bb).c = c1 at *
                      generalize (s9 bb).tot = t1 at *
                      go_region_held3 (fun W : World => W.cell? ⟨A, bb, none⟩ = some (.pointer (some ⟨o1, 0, none⟩)) ∧ W.cell? ⟨B, bb * 2, none⟩ = some (.map (some c1)) ∧ W.cell? ⟨B, bb * 2 + 1, none⟩ = some (.int .i64 t1) ∧ W.cell? ⟨bx, 0, none⟩ = some (.int .i64 k0) ∧ W.cell? ⟨bx, 1, none⟩ = some (.int .i64 n0) ∧ W.cell? ⟨bx, 2, none⟩ = some (.string s0))
                        (first | exact ⟨pT, cT, tT, d0, d1, d2⟩ | exact ⟨pU, cU, tU, u0, u1, u2⟩)
                        (first | (go_at_call 15; (with_reducible refine hof.mono ?_); rintro e w5 ⟨rfl, hs5⟩; have pU := since_cell hs5 (World.block_lt_of_cell? _ _ pT) pT; have cU := since_cell hs5 (World.block_lt_of_cell? _ _ cT) cT; have tU := since_cell hs5 (World.block_lt_of_cell? _ _ tT) tT; have u0 := since_cell hs5 (World.block_lt_of_cell? _ _ d0) d0; have u1 := since_cell hs5 (World.block_lt_of_cell? _ _ d1) d1; have u2 := since_cell hs5 (World.block_lt_of_cell? _ _ d2) d2))
                      have HT5 : Hid (Turn W9 w5 (fun _ => False)) := ⟨hs5.os, hs5.tape, hs5.output, hs5.size, fun j hj _ => hs5.block j hj⟩
                      clear pT cT tT pU cU tU u0 u1 u2 d0 d1 d2 hs5 hof
                      go_wp2_with fail
                      go_roundg (GK - 1)
                      case measure => have := (show _ ∧ _ from HS); omega
                      case rel =>
                        obtain ⟨e1, e2⟩ := (show _ ∧ _ from HT)
                        have T5 : Turn W9 w5 (fun _ => False) := HT5
                        obtain ⟨_, _, q3, q4, _, q5, q6, q7, _⟩ := (show _ ∧ _ from HS)
                        have z1 := e1.ltA
                        have z2 := T5.size
                        exact ⟨i + 1, s9, by simp, by omega, by omega, e1.keep T5, below_turn e2 T5 (by omega) fun _ h => h.elim, by omega⟩
                    · have hLq := erase_len hqL
                      obtain ⟨_, _, _, _, _, d6, _⟩ := (show _ ∧ _ from HC)
                      obtain ⟨hin, hina, hEu, hEu2, hoc, hcn, hcna, hsum⟩ := (show _ ∧ _ from HI)
                      have hyN : lkE (s a).N q = some y := by rw [← hlook]; exact hqx
                      have hyb := npos_look hina.npos hNu hina.tot0 q
                      rw [hyN] at hyb
                      simp only [Option.getD_some] at hyb
                      obtain ⟨yy, hyy⟩ : ∃ z, z = (lkE M q).getD 0 := ⟨_, rfl⟩
                      have hyE : yy = (lkE (s bb).N q).getD 0 := by rw [hyy, hAd q, if_pos hqL]
                      have hyyb := npos_look hin.npos hC4u hin.tot0 q
                      rw [← hyE] at hyyb
                      obtain ⟨X, hX⟩ : ∃ X, X = yy + y := ⟨_, rfl⟩
                      have hw : IntKind.i64.wrap (yy + y) = X := (IntWalk.i64_in (yy + y) ⟨by omega, by omega⟩).trans hX.symm
                      have hMlt := hM.lt
                      have hcr : (s bb).c ≠ r2 := fun e => by
                        obtain ⟨_, _, h1, _⟩ := hM
                        obtain ⟨_, _, _, _, _, _, _, h2, _⟩ := hit
                        rw [← e, h1] at h2; cases h2
                      have hcu : (s bb).c ≠ u := by omega
                      have hur : u ≠ r2 := fun e => hit.ne e.symm
                      have hult := hit.map.lt
                      have hM2 : MapAt (w2.alloc (.cells #[.int .i64 q.k, .int .i64 q.n, .string q.s] 28)).drew (s bb).c M := hM.keep ((blk_alloc_lt _ _ _ (by omega)).trans (hg2.block _ hMlt (fun e => hcr (by simpa using e))))
                      have hit3 : ItAt (w2.alloc (.cells #[.int .i64 q.k, .int .i64 q.n, .string q.s] 28)).drew u r2 D' (L.erase q) := hit2.keep (blk_alloc_lt _ _ _ (by omega)) (blk_alloc_lt _ _ _ (by omega))
                      have hlk := hM2.lookup hqo' mt44
                      obtain ⟨st, w4, hme, hM4, hst, hm4⟩ := hM2.entry hqo' mt44
                      have hlk4 := hM4.lookup hqo' mt44
                      rw [look_put, if_pos rfl, Option.getD_some] at hlk4
                      obtain ⟨w5, hes, hM5, hm5⟩ := hM4.stamped hst X (mt := 44)
                      rw [put_put] at hM5
                      rw [← hyy] at hlk hme hlk4
                      have hes2 : (Instr.entryStore 44 (.map (some (s bb).c)) (.int .i64 (st : Int)) (.int .i64 X)).run Try.prog w4 = .ok () w5 := hes
                      have T5 := (Turn.mapT hm4).trans (Turn.mapT hm5) (own := fun q => q = (s bb).c) (fun _ h => h) fun _ _ h => h
                      have hz5 := T5.size
                      have hz5' : w2.heap.size + 1 ≤ w5.heap.size := by simpa using hz5
                      have hit5 : ItAt w5 u r2 D' (L.erase q) := hit3.keep (T5.block u (by show u < (w2.alloc _).heap.size; simp; omega) (by omega)) (T5.block r2 (by show r2 < (w2.alloc _).heap.size; simp; omega) (fun e => hcr e.symm))
                      have T2w : Turn W4 w2 (fun q => q = (s bb).c ∨ u ≤ q) := hT.trans (Turn.grown hg2 (own := fun q => q = r2) (fun k e _ => by simpa using e.symm)) (fun _ h => h) fun q hq e => by rw [← show u = W4.heap.size from hu'] at hq; omega
                      have e6 := turn_cell T2w nB d6
                      have T3w : Turn W4 (w2.alloc (.cells #[.int .i64 q.k, .int .i64 q.n, .string q.s] 28)).drew (fun q => q = (s bb).c ∨ u ≤ q) := T2w.trans (o' := fun _ => False) ⟨rfl, rfl, rfl, by simp, fun j hj _ => blk_alloc_lt _ _ _ hj⟩ (fun _ h => h) fun _ _ h => h.elim
                      have T5w : Turn W4 w5 (fun q => q = (s bb).c ∨ u ≤ q) := T3w.trans T5 (fun _ h => h) fun _ _ h => .inl h
                      have HR : Hid (MapAt w5 (s bb).c (put M q X) ∧ ItAt w5 u r2 D' (L.erase q) ∧ Add2 (s bb).N D' (put M q X) (L.erase q) ∧ (L.erase q).length + 1 = L.length ∧ Turn W4 w5 (fun q => q = (s bb).c ∨ u ≤ q) ∧ r2 < w5.heap.size) := ⟨hM5, hit5, by rw [hX, hyy]; exact hAd.next hit.nodup hqL hqx, hLq, T5w, by omega⟩
                      have hqv : q.val = .agg #[.int .i64 q.k, .int .i64 q.n, .string q.s] := rfl
                      rw [hqv] at hn hen hlk hme hlk4
                      have c6 := cell_alloc (.cells #[.int .i64 q.k, .int .i64 q.n, .string q.s] 28) e6
                      clear hLq hM2 hit3 hM4 hm4 T5 hz5 hz5' hit5 T2w T3w T5w hqv hit2 hg2 hM hit hAd hT hqL hqx hqo' hz2 hes hst hM5 hm5 hX hyy hyE hyb hyyb hMlt hcr hcu hur hult hin hina hEu hEu2 hoc hcn hcna hsum hyN e6 d6
                      generalize q.k = k2 at *
                      generalize q.n = n2 at *
                      generalize q.s = s2 at *
                      have hbx3 : (w2.alloc (.cells #[.int .i64 k2, .int .i64 n2, .string s2] 28)).heap[w2.heap.size]? = some (.cells #[.int .i64 k2, .int .i64 n2, .string s2] 28 (0, 0)) := heap_alloc_new _ _
                      have v0 : (w2.alloc (.cells #[.int .i64 k2, .int .i64 n2, .string s2] 28)).cell? ⟨w2.heap.size, 0, none⟩ = some (.int .i64 k2) := cell_of_heap hbx3 rfl
                      have v1 : (w2.alloc (.cells #[.int .i64 k2, .int .i64 n2, .string s2] 28)).cell? ⟨w2.heap.size, 1, none⟩ = some (.int .i64 n2) := cell_of_heap hbx3 rfl
                      have v2 : (w2.alloc (.cells #[.int .i64 k2, .int .i64 n2, .string s2] 28)).cell? ⟨w2.heap.size, 2, none⟩ = some (.string s2) := cell_of_heap hbx3 rfl
                      clear hbx3
                      go_wp2_with fail
                      go_region
                      all_goals (
                        go_wp2_with fail
                        go_roundg (gk - 1)
                        case measure => have := (show _ ∧ _ from HR).2.2.2.1; omega
                        case rel =>
                          obtain ⟨f1, f2, f3, f4, f5, f6⟩ := (show _ ∧ _ from HR)
                          exact ⟨_, L.erase q, f1, f2, f3, by omega, f5, f6⟩)
                · have hLq := erase_len hqL
                  have hD2 : MapAt (w2.alloc (.cells #[.int .i64 q.k, .int .i64 q.n, .string q.s] 28)) u D' := hD.keep ((blk_alloc_lt _ _ _ (by omega)).trans (hg2.block u (by omega) (by simp)))
                  have hit3 : ItAt (w2.alloc (.cells #[.int .i64 q.k, .int .i64 q.n, .string q.s] 28)) (s a).c (u + 1) (s a).N (L.erase q) := hit2.keep (blk_alloc_lt _ _ _ (by omega)) (blk_alloc_lt _ _ _ (by omega))
                  obtain ⟨w4, hup, hD4, hm4⟩ := hD2.store hqo' y mt44
                  have T4 := Turn.mapT hm4
                  have hz4 := T4.size
                  have hit4 : ItAt w4 (s a).c (u + 1) (s a).N (L.erase q) := hit3.keep (T4.block (s a).c (by simp; omega) (by omega)) (T4.block (u + 1) (by simp; omega) (by omega))
                  have hS2 : W4.Since u w2 := hS.grown hg2 (by omega) (fun k e => by simp at e; omega)
                  have hS4 : W4.Since u w4 := ⟨T4.os.trans hS2.os, T4.tape.trans hS2.tape, T4.output.trans hS2.output, by have := hS2.size; simp at hz4; omega, fun j hj => (T4.block j (by simp; omega) (by omega)).trans ((blk_alloc_lt _ _ _ (by omega)).trans (hS2.block j hj))⟩
                  have HR : Hid (MapAt w4 u (put D' q y) ∧ ItAt w4 (s a).c (u + 1) (s a).N (L.erase q) ∧ Part (s a).N (put D' q y) (L.erase q) ∧ (L.erase q).length + 1 = L.length ∧ W4.Since u w4 ∧ u + 1 < w4.heap.size) := ⟨hD4, hit4, hP.put hNu hqL hqx, hLq, hS4, by simp at hz4; omega⟩
                  have hqv : q.val = .agg #[.int .i64 q.k, .int .i64 q.n, .string q.s] := rfl
                  rw [hqv] at hn hen hup
                  clear hLq hD2 hit3 hD4 hm4 T4 hz4 hit4 hS2 hS4 hqv hit2 hg2 hD hit hP hS hqL hqx hqo' hz2
                  clear d0 d1 d2 d3 d4 d5 d6 d7
                  generalize q.k = k2 at *
                  generalize q.n = n2 at *
                  generalize q.s = s2 at *
                  go_wp2_with fail
                  go_roundg (gk - 1)
                  case measure => have := (show _ ∧ _ from HR).2.2.2.1; omega
                  case rel =>
                    obtain ⟨f1, f2, f3, f4, f5, f6⟩ := (show _ ∧ _ from HR)
                    exact ⟨_, L.erase q, f1, f2, f3, by omega, f5, f6⟩

        · have p0 := St.ptr S (i := 0) (by omega)
          obtain ⟨c0, t0, _⟩ := St.cnt S (i := 0) (by omega)
          simp only [Nat.zero_mul, Nat.zero_add] at c0 t0
          have one := S.one 0 (by omega)
          have hKk := (show _ ∧ _ from HK)
          have hzo : (⟨0, 0, ⟨#[]⟩⟩ : VK).Ok := ⟨rfl, rfl, Nat.zero_le _⟩
          have hof := often_w (s 0).o (s 0).b (s 0).c k (s 0).tot (s 0).lost (s 0).E (s 0).N ⟨0, 0, ⟨#[]⟩⟩ hzo wr one.sk one.cn one.inv
          rw [← hKk.1] at hof
          simp only [VK.val] at hof
          have HE : Hid (Below A w wr ∧ A ≤ wr.heap.size) := ⟨Bl, by omega⟩
          have hi0 : (0 : Int) ≤ (i : Int) := Int.natCast_nonneg _
          have hlst : ∀ w' : World, wr.Since wr.heap.size w' → Below A w w' := fun w' h => by
            obtain ⟨h1, h2⟩ := (show _ ∧ _ from HE)
            exact below_turn h1 (⟨h.os, h.tape, h.output, h.size, fun j hj _ => h.block j hj⟩ : Turn wr w' (fun _ => False)) h2 fun _ h => h.elim
          have HLs : Hid (∀ w' : World, wr.Since wr.heap.size w' → Below A w w') := hlst
          clear S one hKk hzo Bl hz hlst g3 hB
          generalize (s 0).o = o1 at *
          generalize (s 0).c = c1 at *
          generalize (s 0).tot = t1 at *
          by_cases hin1 : i < n
          · have hi1 : (i : Int) < (n : Int) := by omega
            have hi3 : ¬ (i : Int) < 2000 := by omega
            clear hin hgi hi2
            go_wp2_with (go_at_call 15; (with_reducible refine hof.mono ?_); rintro e w5 ⟨rfl, hs5⟩)
            go_ret
            exact ⟨rfl, by rw [hA]; exact (show ∀ w' : World, wr.Since wr.heap.size w' → Below A w w' from HLs) _ hs5⟩
          · have hi1 : ¬ (i : Int) < (n : Int) := by omega
            clear hin hgi hi2
            go_wp2_with (go_at_call 15; (with_reducible refine hof.mono ?_); rintro e w5 ⟨rfl, hs5⟩)
            go_ret
            exact ⟨rfl, by rw [hA]; exact (show ∀ w' : World, wr.Since wr.heap.size w' → Below A w w' from HLs) _ hs5⟩
end Go.Proofs.Ytaaocppaepnhbaa
