/- OftenMemory: the walk. Own work; no condition. -/
import Derived.Test.YtaaocppaepnhbaaOm4
import Derived.Deep.CutRange
namespace Go.Proofs.Ytaaocppaepnhbaa
open Go Go.RowKit Go.Deep Go.Sort Go.Shelf
set_option linter.unusedVariables false
set_option linter.unusedSimpArgs false

theorem new_m (k : Nat) (hk : 1 ≤ k ∧ k ≤ 1024) (w : World) : Calls Try.prog 5 #[.int .i64 k] w fun e w' => e = .returned (.tuple #[.pointer (some ⟨w.heap.size + 1, 0, none⟩), .int .i64 0]) ∧ OneM w' k ⟨w.heap.size + 1, w.heap.size, 0, 0, 0, [], []⟩ ∧ w.Since w.heap.size w' :=
  (new_ok k (by simp [okK]; omega) w).mono fun e w' ⟨h1, h2, h3⟩ => ⟨h1, ⟨h2, Inv.start hk, by simp [Uniq]⟩, h3⟩
def three (x y z : Sk) (i : Nat) : Sk := if i = 0 then x else if i = 1 then y else z
theorem Sm.three {H : Nat} {w : World} {k : Nat} {x y z : Sk} (hx : OneM w k x) (hy : OneM w k y) (hz : OneM w k z) (h1 : ∀ q, ft x q → ¬ ft y q ∧ ¬ ft z q) (h2 : ∀ q, ft y q → ¬ ft z q) (h3 : ∀ q, ft x q ∨ ft y q ∨ ft z q → H ≤ q) : Sm H w k (Go.Proofs.Ytaaocppaepnhbaa.three x y z) := by
  refine ⟨fun i hi => ?_, fun i j q hi hj hij hq hq' => ?_, fun i q hi hq => ?_⟩
  · match i, hi with
    | 0, _ => exact hx
    | 1, _ => exact hy
    | 2, _ => exact hz
  · match i, j, hi, hj with
    | 0, 0, _, _ => exact hij rfl
    | 0, 1, _, _ => exact (h1 q hq).1 hq'
    | 0, 2, _, _ => exact (h1 q hq).2 hq'
    | 1, 0, _, _ => exact (h1 q hq').1 hq
    | 1, 1, _, _ => exact hij rfl
    | 1, 2, _, _ => exact h2 q hq hq'
    | 2, 0, _, _ => exact (h1 q hq').2 hq
    | 2, 1, _, _ => exact h2 q hq' hq
    | 2, 2, _, _ => exact hij rfl
  · match i, hi with
    | 0, _ => exact h3 q (.inl hq)
    | 1, _ => exact h3 q (.inr (.inl hq))
    | 2, _ => exact h3 q (.inr (.inr hq))
theorem turn_cell {w w' : World} {own : Nat → Prop} {g i : Nat} {v : Value} (T : Turn w w' own) (hg : ¬ own g) (hv : w.cell? ⟨g, i, none⟩ = some v) : w'.cell? ⟨g, i, none⟩ = some v :=
  (World.cell?_of_block (w := w) (T.block g (World.block_lt_of_cell? w _ hv) hg)).trans hv
theorem run_append_row {P : Program} (w : World) (base base2 : Nat) (t ty e : TypeId) (i : TypeInfo) (z : Value) (size bytes : Nat) (ht : P.underlying t = some (.slice e)) (hi : P.info? e = some i) (hz : i.zero = some z) (hsize : i.size = size) (hby : i.bytes = bytes) (hzs : z.cells.size = size) (hsz : 0 < size)
    (v : Value) (n : Nat) (xs : List Value) (hown : w.ownsRow base e size v n xs) (x : Value) (m : Nat) (ys : List Value) (hx : w.ownsRow base2 e size x m ys) (h1 : ∀ u ∈ ys, u.oneCell' = true)
    (h63 : n + m ≤ maxLen) (hbytes : (n + m) * bytes ≤ 140737488355328) (hbase : base ≤ w.heap.size) :
    ∃ v' w', (Builtin.append_ #[t, t] ty #[v, x]).run P w = .ok v' w' ∧ w'.ownsRow base e size v' (n + m) (xs ++ ys) ∧ w.grownBy w' v.ownBlock ∧ (v'.ownBlock = v.ownBlock ∨ v'.ownBlock = some w.heap.size) := by
  rcases hx.2 with ⟨rfl, rfl⟩ | ⟨g, cap, cur, rfl, _⟩
  · have hy : ys = [] := List.eq_nil_of_length_eq_zero (by simpa using hx.1)
    subst hy
    refine ⟨v, w, ?_, by simpa using hown, World.grownBy.refl _ _, .inl rfl⟩
    rcases hown.2 with ⟨rfl, rfl⟩ | ⟨g, cap, cur, rfl, h3, h4, h5, h6, h7, h8⟩
    · simp [Builtin.append_, run_underlying ht, sizeOf, typeInfo, hi, Builtin.lenOf, Builtin.firstCells]
    · simp [Builtin.append_, run_underlying ht, sizeOf, typeInfo, hi, Builtin.lenOf, Builtin.firstCells, loadCells, storeCells, h5]
  · obtain ⟨v', w', h2, h3, h4, _, h5⟩ := run_append_own_at (P := P) w base t ty e i z size bytes ht hi hz hsize hby hzs hsz v n xs hown ⟨g, 0, none⟩ m cap ys hx.1 (hx.cells (g := g) rfl) h1 h63 hbytes hbase
    exact ⟨v', w', h2, h3, h4, h5⟩
theorem wpList_append_row {P : Program} (w : World) {ops : Array Oper} {rest : List Oper} {o : Oper} {a : Act} {Q : Exit → Act → World → Prop} (hgd : o.guard = none) (s x : Operand) (t : TypeId)
    (ho : o.op = .call { callee := .builtin .append, args := #[s, x], argTypes := #[t, t] })
    (base base2 : Nat) (e : TypeId) (i : TypeInfo) (z : Value) (size bytes : Nat) (ht : P.underlying t = some (.slice e)) (hi : P.info? e = some i) (hz : i.zero = some z) (hsize : i.size = size) (hby : i.bytes = bytes) (hzs : z.cells.size = size) (hsz : 0 < size)
    (v : Value) (n : Nat) (xs : List Value) (hs : a.eval s = v) (hown : w.ownsRow base e size v n xs) (xv : Value) (m : Nat) (ys : List Value) (hxv : a.eval x = xv) (hx : w.ownsRow base2 e size xv m ys) (h1 : ∀ u ∈ ys, u.oneCell' = true)
    (h63 : n + m ≤ maxLen) (hbytes : (n + m) * bytes ≤ 140737488355328) (hbase : base ≤ w.heap.size)
    (h : ∀ v' w', w'.ownsRow base e size v' (n + m) (xs ++ ys) → w.grownBy w' v.ownBlock → (v'.ownBlock = v.ownBlock ∨ v'.ownBlock = some w.heap.size) → wpList P ops Q rest (a.put o.dst v') w') : wpList P ops Q (o :: rest) a w := by
  obtain ⟨v', w', hr, h2, h3, h4⟩ := run_append_row (P := P) w base base2 t o.type e i z size bytes ht hi hz hsize hby hzs hsz v n xs hown xv m ys hx h1 h63 hbytes hbase
  refine wpList_plain hgd fun _ hK => ?_
  unfold Oper.wp execOp
  simp only [ho, resolve, invoke, builtin, Sem.run_bind, Sem.run_pure, Result.andThen_ok, List.map_toArray, List.map_cons, List.map_nil, hs, hxv, hr]
  exact hK _ _ (h v' w' h2 h3 h4)
theorem flatF_one (F : List FV) : ∀ u ∈ flatF F, u.oneCell' = true := fun u hu => by
  obtain ⟨y, _, h2⟩ := List.mem_flatMap.1 hu
  simp [encF] at h2
  rcases h2 with rfl | rfl | rfl | rfl | rfl <;> rfl
set_option maxRecDepth 100000 in
set_option maxHeartbeats 4000000 in
theorem memory_w (k : Int) (v1 : Value) (n : Nat) (w : World) (h1 : Script w v1 n) : Calls Try.prog 3 #[.int .i64 k, v1] w fun e w' => e = .returned (.bool true) ∧ Below w.heap.size w w' := by
  obtain ⟨a1, k1, rfl, g1, g2, g3⟩ := h1
  go_enter Try.func3, Try.ntmps3
  go_upto_region 1 with fail
  go_cut [22] from 17 (fun t22 wx => t22 = .bool (decide (k < 1) || decide (1024 < k)) ∧ wx = w)
  case first =>
    by_cases h : k < 1
    · go_wp2_with fail
      go_meet
      case rel => exact ⟨by simp [h], rfl⟩
    · go_wp2_with fail
      go_meet
      case rel =>
        have h' : decide (k < 1) = false := by simp; omega
        exact ⟨by simp only [h', Bool.false_or], rfl⟩
  case rest =>
    obtain ⟨hc1, hc2⟩ := hcut
    subst hc1
    have hc3 := hc2.symm
    clear hc2
    subst hc3
    go_upto_if 22 with fail
    go_cut [0] from 17 to 22 (fun t0 wx => ∃ K : Nat, t0 = .int .i64 K ∧ (1 ≤ K ∧ K ≤ 1024) ∧ wx = w)
    case first =>
      by_cases h : k < 1
      · go_wp2_with fail
        go_meet
        case rel => exact ⟨3, rfl, by omega, rfl⟩
      · by_cases h2 : 1024 < k
        · go_wp2_with fail
          go_meet
          case rel => exact ⟨3, rfl, by omega, rfl⟩
        · go_wp2_with fail
          go_meet
          case rel => exact ⟨k.toNat, by congr 1; omega, by omega, rfl⟩
    case rest =>
      obtain ⟨K, hc1, hK, hc2⟩ := hcut
      subst hc1
      have hc3 := hc2.symm
      clear hc2
      subst hc3
      go_wp2_with fail
      refine (new_m K hK w).mono ?_
      rintro e x1 ⟨rfl, M1, S1⟩
      go_wp2_with fail
      refine (new_m K hK x1).mono ?_
      rintro e x2 ⟨rfl, M2, S2⟩
      go_wp2_with fail
      refine (new_m K hK x2).mono ?_
      rintro e x3 ⟨rfl, M3, S3⟩
      have z1 := S1.size
      have z2 := S2.size
      have z3 := S3.size
      have y1 := M1.lt (.inl rfl)
      have y2 := M2.lt (.inl rfl)
      have y3 := M3.lt (.inl rfl)
      simp only at y1 y2 y3
      have B3 : Below w.heap.size w x3 := ⟨(S3.os.trans S2.os).trans S1.os, (S3.tape.trans S2.tape).trans S1.tape, (S3.output.trans S2.output).trans S1.output, by omega, fun j hj => (S3.block j (by omega)).trans ((S2.block j (by omega)).trans (S1.block j hj))⟩
      have N2 := M1.keep fun q hq => S2.block q (M1.lt hq)
      have N3 := N2.keep fun q hq => S3.block q (N2.lt hq)
      have P3 := M2.keep fun q hq => S3.block q (M2.lt hq)
      have T0 : Sm w.heap.size x3 K (three ⟨w.heap.size + 1, w.heap.size, 0, 0, 0, [], []⟩ ⟨x1.heap.size + 1, x1.heap.size, 0, 0, 0, [], []⟩ ⟨x2.heap.size + 1, x2.heap.size, 0, 0, 0, [], []⟩) :=
        Sm.three N3 P3 M3 (fun q hq => by simp only [ft] at hq ⊢; omega) (fun q hq => by simp only [ft] at hq ⊢; omega) (fun q hq => by simp only [ft] at hq; omega)
      have hS0 : SameT (⟨w.heap.size + 1, w.heap.size, 0, 0, 0, [], []⟩ : Sk) ⟨x1.heap.size + 1, x1.heap.size, 0, 0, 0, [], []⟩ := ⟨rfl, rfl, fun _ => rfl⟩
      go_wp2_with fail
      have L0 : ∃ s : Nat → Sk, Sm w.heap.size x3 K s ∧ (s 0).o = w.heap.size + 1 ∧ (s 1).o = x1.heap.size + 1 ∧ (s 2).o = x2.heap.size + 1 ∧ SameT (s 0) (s 1) := ⟨_, T0, rfl, rfl, rfl, hS0⟩
      have hx3 : w.heap.size ≤ x3.heap.size := by omega
      have HK : Hid (1 ≤ K ∧ K ≤ 1024) := hK
      clear M1 S1 M2 S2 M3 S3 z1 z2 z3 y1 y2 y3 N2 N3 P3 T0 hS0 hK
      generalize w.heap.size + 1 = o0 at *
      generalize x1.heap.size + 1 = o1 at *
      generalize x2.heap.size + 1 = o2 at *
      generalize hA : w.heap.size = A at *
      clear x1 x2
      go_loopg [11] n (fun g t wr => ∃ (i : Nat) (s : Nat → Sk), t = .int .i64 i ∧ g + i = n ∧ i ≤ 500 ∧ Sm A wr K s ∧ (s 0).o = o0 ∧ (s 1).o = o1 ∧ (s 2).o = o2 ∧ SameT (s 0) (s 1) ∧ Below A w wr ∧ A ≤ wr.heap.size)
      case atStart =>
        obtain ⟨s, l1, l2, l3, l4, l5⟩ := L0
        exact ⟨0, s, rfl, rfl, by omega, l1, l2, l3, l4, l5, B3, hx3⟩
      case round =>
        clear L0 B3 hx3
        obtain ⟨i, s, rfl, hgi, hi2, S, so0, so1, so2, hsm, Bl, hz⟩ := hrel
        by_cases hin : i < n ∧ i < 500
        · obtain ⟨hin1, hin2⟩ := hin
          obtain ⟨sb, so, qv, x, mg, p, r, rfl, e0, e1, e2, e3, e4, e5, e6, hqo, hx, hp, hr⟩ := g3 i hin1
          have hsb : sb < A := by rw [← hA]; exact World.block_lt_of_cell? w _ e0
          have old : ∀ o v, w.cell? ⟨sb, o, none⟩ = some v → wr.cell? ⟨sb, o, none⟩ = some v := fun o v h => by rw [World.cell?_of_block (w := w) (Bl.block sb hsb)]; exact h
          have f0 := old _ _ e0
          have f1 := old _ _ e1
          have f2 := old _ _ e2
          have f3 := old _ _ e3
          have f4 := old _ _ e4
          have f5 := old _ _ e5
          have f6 := old _ _ e6
          have HS : Hid (Sm A wr K s ∧ (s 0).o = o0 ∧ (s 1).o = o1 ∧ (s 2).o = o2 ∧ SameT (s 0) (s 1) ∧ Below A w wr ∧ A ≤ wr.heap.size ∧ qv.Ok ∧ gk + i = n ∧ i < n ∧ i < 500) := ⟨S, so0, so1, so2, hsm, Bl, hz, hqo, hgi, hin1, hin2⟩
          have hi0 : (0 : Int) ≤ (i : Int) := Int.natCast_nonneg _
          have hi1 : (i : Int) < (n : Int) := by omega
          have hi3 : (i : Int) < 500 := by omega
          clear S so0 so1 so2 hsm Bl hz old e0 e1 e2 e3 e4 e5 e6 g3 hsb hqo hgi hin1 hin2 hi2 hx
          generalize hq0 : qv.k = k0 at *
          generalize hq1 : qv.n = n0 at *
          generalize hq2 : qv.s = s0 at *
          have hqv : qv = ⟨k0, n0, s0⟩ := by rw [← hq0, ← hq1, ← hq2]
          subst hqv
          clear hq0 hq1 hq2
          have hma := fun W => mod_w p 4 (by omega) (by omega) hp.1 hp.2 W
          generalize hpm : p % 4 = pm at *
          clear hpm
          cases mg with
          | false =>
            go_wp2_with fail
            have HDB : Hid (wr.Since wr.heap.size (wr.alloc (.cells #[.int .i64 k0, .int .i64 n0, .string s0, .int .i64 x, .bool false, .int .i64 p, .int .i64 r] 30)) ∧ (wr.alloc (.cells #[.int .i64 k0, .int .i64 n0, .string s0, .int .i64 x, .bool false, .int .i64 p, .int .i64 r] 30)).heap[wr.heap.size]? = some (.cells #[.int .i64 k0, .int .i64 n0, .string s0, .int .i64 x, .bool false, .int .i64 p, .int .i64 r] 30 (0, 0))) := ⟨(World.Since.refl _ wr).alloc (Nat.le_refl _) _, heap_alloc_new _ _⟩
            have hlt1 : wr.heap.size < (wr.alloc (.cells #[.int .i64 k0, .int .i64 n0, .string s0, .int .i64 x, .bool false, .int .i64 p, .int .i64 r] 30)).heap.size := by simp
            clear f0 f1 f2 f3 f4 f5 f6
            generalize wr.alloc (.cells #[.int .i64 k0, .int .i64 n0, .string s0, .int .i64 x, .bool false, .int .i64 p, .int .i64 r] 30) = W1 at *
            obtain ⟨SB, hb1⟩ := (show _ ∧ _ from HDB)
            obtain ⟨S, so0, so1, so2, hsm, Bl, hz, hqo, _⟩ := (show _ ∧ _ from HS)
            have TB : Turn wr W1 (fun _ => False) := Turn.since SB (Nat.le_refl _)
            have SS := S.keep TB
            have HBW : Below A w W1 := below_turn Bl TB hz fun _ h => h.elim
            have hzW : A ≤ W1.heap.size := by omega
            have d0 : W1.cell? ⟨wr.heap.size, 0, none⟩ = some (.int .i64 k0) := cell_of_heap hb1 rfl
            have d1 : W1.cell? ⟨wr.heap.size, 1, none⟩ = some (.int .i64 n0) := cell_of_heap hb1 rfl
            have d2 : W1.cell? ⟨wr.heap.size, 2, none⟩ = some (.string s0) := cell_of_heap hb1 rfl
            have d3 : W1.cell? ⟨wr.heap.size, 3, none⟩ = some (.int .i64 x) := cell_of_heap hb1 rfl
            have hoff : ∀ j, j < 3 → ¬ ft (s j) wr.heap.size := fun j hj h => by have := (S.one j hj).lt h; omega
            clear S Bl hz TB SB hb1 HDB
            generalize hbx : wr.heap.size = bx at *
            clear hbx
            have hcode : codeA (s 1).tot x = codeA (s 0).tot x := by rw [hsm.tot]
            have one0 := SS.one 0 (by omega)
            have one1 := SS.one 1 (by omega)
            have had0 := add_m (s 0) K ⟨k0, n0, s0⟩ hqo x W1.drew (one0.keep fun _ _ => rfl)
            have had1 := fun (W : World) (hW : OneM W K (s 1)) => add_m (s 1) K ⟨k0, n0, s0⟩ hqo x W hW
            rw [so0] at had0
            rw [so1, hcode] at had1
            simp only [VK.val] at had0 had1
            generalize codeA (s 0).tot x = cc at *
            have hS1 : ∀ (w1 : World), Turn W1.drew w1 (ft (s 0)) → OneM w1 K (s 1) := fun w1 T => one1.keep fun q hq => T.block q (one1.lt hq) (SS.dis 1 0 q (by omega) (by omega) (by omega) hq)
            have hn0 := hoff 0 (by omega)
            have hn1 := hoff 1 (by omega)
            have HT : Hid (Sm A W1 K s ∧ (s 0).o = o0 ∧ (s 1).o = o1 ∧ (s 2).o = o2 ∧ SameT (s 0) (s 1) ∧ Below A w W1 ∧ A ≤ W1.heap.size) := ⟨SS, so0, so1, so2, hsm, HBW, hzW⟩
            clear SS so0 so1 so2 hsm HBW hzW one0 one1 hcode
            go_region_held3 (fun W : World => W.cell? ⟨bx, 0, none⟩ = some (.int .i64 k0) ∧ W.cell? ⟨bx, 1, none⟩ = some (.int .i64 n0) ∧ W.cell? ⟨bx, 2, none⟩ = some (.string s0) ∧ W.cell? ⟨bx, 3, none⟩ = some (.int .i64 x))
              (first | exact ⟨d0, d1, d2, d3⟩ | exact ⟨c0, c1, c2, c3⟩ | exact ⟨b0, b1, b2, b3⟩)
              (first | (go_at_call 10; (with_reducible refine had0.mono ?_); rintro e w1 ⟨rfl, y0, Y0, A0, T1⟩; have c0 := turn_cell T1 hn0 d0; have c1 := turn_cell T1 hn0 d1; have c2 := turn_cell T1 hn0 d2; have c3 := turn_cell T1 hn0 d3; have had1' := had1 w1 (hS1 w1 T1)) | (go_at_call 10; (with_reducible refine had1'.mono ?_); rintro e w2 ⟨rfl, y1, Y1, A1, T2⟩; have b0 := turn_cell T2 hn1 c0; have b1 := turn_cell T2 hn1 c1; have b2 := turn_cell T2 hn1 c2; have b3 := turn_cell T2 hn1 c3))
            obtain ⟨SS, so0, so1, so2, hsm, HBW, hzW⟩ := (show _ ∧ _ from HT)
            have z1 := T1.size
            have z2 := T2.size
            have z0 : W1.drew.heap.size = W1.heap.size := rfl
            have Sd : Sm A W1.drew K s := SS.keep ⟨rfl, rfl, rfl, Nat.le_refl _, fun _ _ _ => rfl⟩
            have Sa := Sd.upd (by omega) (j := 0) (by omega) Y0 (fun q h => .inl (by simpa only [ft, A0.o, A0.b] using h)) T1
            have e1 : upd s 0 y0 1 = s 1 := upd_ne _ _ (by omega)
            have Sb := Sa.upd (by omega) (j := 1) (by omega) Y1 (fun q h => .inl (by rw [e1]; simpa only [ft, A1.o, A1.b] using h)) (by rw [e1]; exact T2)
            have hu0 := (SS.one 0 (by omega)).sk.map.uniq
            have hu1 := (SS.one 1 (by omega)).sk.map.uniq
            have hsm' := AddRel.same hu0 hu1 hsm A0 A1
            have f0 : upd (upd s 0 y0) 1 y1 0 = y0 := by rw [upd_ne _ _ (by omega), upd_same]
            have f1 : upd (upd s 0 y0) 1 y1 1 = y1 := upd_same _ _ _
            have f2 : upd (upd s 0 y0) 1 y1 2 = s 2 := by rw [upd_ne _ _ (by omega), upd_ne _ _ (by omega)]
            have HB2 : Below A w w2 := below_turn (below_turn HBW (⟨T1.os, T1.tape, T1.output, T1.size, T1.block⟩ : Turn W1 w1 (ft (s 0))) hzW fun q h => SS.old 0 q (by omega) h) T2 (by omega) fun q h => SS.old 1 q (by omega) h
            have L4 : ∃ s4 : Nat → Sk, Sm A w2 K s4 ∧ (s4 0).o = o0 ∧ (s4 1).o = o1 ∧ (s4 2).o = o2 ∧ SameT (s4 0) (s4 1) := ⟨_, Sb, by rw [f0, A0.o, so0], by rw [f1, A1.o, so1], by rw [f2, so2], by rw [f0, f1]; exact hsm'⟩
            obtain ⟨s4, S4, so0, so1, so2, hsm⟩ := L4
            have hz4 : A ≤ w2.heap.size := by omega
            clear SS HBW hzW z1 z2 z0 Sd Sa e1 Sb hu0 hu1 hsm' f0 f1 f2 T1 T2 A0 A1 Y0 Y1 had0 had1 had1' hS1 hn0 hn1 HT c0 c1 c2 c3 b0 b1 b2 b3 d0 d1 d2 d3 hoff
            have hal0 : ∀ W : World, OneM W K (s4 0) → Calls Try.prog 7 #[.pointer (some ⟨o0, 0, none⟩)] W fun e w' => ∃ t F, e = .returned t ∧ w'.ownsRow W.heap.size 39 5 t F.length (flatF F) ∧ W.Since W.heap.size w' ∧ Told (s4 0).E (s4 0).lost F ∧ SortedIn (ltOf ordF) 0 F.length F.toArray := fun W h => so0 ▸ all_m (s4 0) K W h
            have hal1 : ∀ W : World, OneM W K (s4 1) → Calls Try.prog 7 #[.pointer (some ⟨o1, 0, none⟩)] W fun e w' => ∃ t F, e = .returned t ∧ w'.ownsRow W.heap.size 39 5 t F.length (flatF F) ∧ W.Since W.heap.size w' ∧ Told (s4 1).E (s4 1).lost F ∧ SortedIn (ltOf ordF) 0 F.length F.toArray := fun W h => so1 ▸ all_m (s4 1) K W h
            have hlen : ∀ j F, j < 3 → Told (s4 j).E (s4 j).lost F → F.length ≤ 1024 := fun j F hj hT => by
              have h1 := hT.keys.length_eq
              have h2 := (S4.one j hj).inv.len
              have h3 := (S4.one j hj).inv.hk
              simp at h1; omega
            have HM : Hid (Sm A w2 K s4 ∧ (s4 0).o = o0 ∧ (s4 1).o = o1 ∧ (s4 2).o = o2 ∧ SameT (s4 0) (s4 1) ∧ Below A w w2 ∧ A ≤ w2.heap.size) := ⟨S4, so0, so1, so2, hsm, HB2, hz4⟩
            have HL : Hid (∀ j F, j < 3 → Told (s4 j).E (s4 j).lost F → F.length ≤ 1024) := hlen
            have hne : decide (cc = cc) = true := by simp
            clear so0 so1 so2 hsm HB2 hz4 hlen
            go_wp2_with fail
            refine (hal0 w2 (S4.one 0 (by omega))).mono ?_
            rintro e w3 ⟨tv, F, rfl, hown, hs3, hto3, _⟩
            go_wp2_with fail
            refine (spoilt_w tv F.length ⟨⟨0, 0, ⟨#[]⟩⟩, 9999, 0⟩ w3 (Own.of (ownsRow_mono hown (Nat.zero_le _))) (by have := (show ∀ j F, j < 3 → Told (s4 j).E (s4 j).lost F → F.length ≤ 1024 from HL) 0 F (by omega) hto3; omega)).mono ?_
            rintro e w4 ⟨rfl, T4⟩
            have S5 : Sm A w4 K s4 := by
              refine (S4.keep (w' := w3) (Turn.since hs3 (Nat.le_refl _))).keepF T4 fun j q hj hq e => ?_
              have h1 := (hown.lt q e).1
              have h2 := (S4.one j hj).lt hq
              omega
            have T24 : Turn w2 w4 (fun _ => False) := (Turn.since (own := fun _ => False) hs3 (Nat.le_refl _)).trans T4 (fun _ h => h) fun q hq e => by have := (hown.lt q e).1; omega
            have HT24 : Hid (Turn w2 w4 (fun _ => False)) := T24
            clear S4 hown hs3 hto3 T4 T24
            go_wp2_with fail
            refine (hal0 w4 (S5.one 0 (by omega))).mono ?_
            rintro e w5 ⟨t5, F5, rfl, own5, hs5, hto5, hsd5⟩
            have S6 : Sm A w5 K s4 := S5.keep (Turn.since hs5 (Nat.le_refl _))
            go_wp2_with fail
            refine (hal1 w5 (S6.one 1 (by omega))).mono ?_
            rintro e w6 ⟨t6, F6, rfl, own6, hs6, hto6, hsd6⟩
            have S7 : Sm A w6 K s4 := S6.keep (Turn.since hs6 (Nat.le_refl _))
            have hsm := (show _ ∧ _ from HM).2.2.2.2.1
            have o0' := S7.one 0 (by omega)
            have o1' := S7.one 1 (by omega)
            have hFF : F5 = F6 := Told.same o0'.sk.map.uniq o1'.sk.map.uniq (fun q hq => (o0'.inv.pos q hq).2) (fun q hq => (o1'.inv.pos q hq).2) hsm.look hto5 (by rw [hsm.lost]; exact hto6) hsd5 hsd6
            subst hFF
            have own5' := ownsRow_keep own5 fun q e => hs6.block q (own5.lt q e).2
            have hl5 := (show ∀ j F, j < 3 → Told (s4 j).E (s4 j).lost F → F.length ≤ 1024 from HL) 0 F5 (by omega) hto5
            have hsf := sameF_w t5 t6 F5 w6 _ _ own5' own6 (by omega)
            have HT26 : Hid (Turn w2 w6 (fun _ => False)) := ((show Turn w2 w4 (fun _ => False) from HT24).trans (Turn.since hs5 (Nat.le_refl _) (own := fun _ => False)) (fun _ h => h) fun _ _ h => h).trans (Turn.since hs6 (Nat.le_refl _) (own := fun _ => False)) (fun _ h => h) fun _ _ h => h
            clear S5 S6 own5 own6 own5' hs5 hs6 hto5 hto6 hsd5 hsd6 hl5 hal0 hal1 HT24 o0' o1' hsm
            go_wp2_with fail
            refine hsf.mono ?_
            rintro e w7 ⟨rfl, T7, hz7⟩
            obtain ⟨S4', so0, so1, so2, hsm, HB2, hz4⟩ := (show _ ∧ _ from HM)
            have S8 : Sm A w7 K s4 := S7.keep T7
            have ht0 := total_w (s4 0).o (s4 0).b K (s4 0).tot (s4 0).lost (s4 0).E w7 (S8.one 0 (by omega)).sk
            have ht1 := total_w (s4 1).o (s4 1).b K (s4 1).tot (s4 1).lost (s4 1).E w7 (S8.one 1 (by omega)).sk
            rw [so0] at ht0
            rw [so1, ← hsm.tot] at ht1
            have HT27 : Hid (Turn w2 w7 (fun _ => False)) := (show Turn w2 w6 (fun _ => False) from HT26).trans T7 (fun _ h => h) fun _ _ h => h
            clear S7 T7 hz7 hsf S4' so0 so1 so2 hsm HB2 hz4 S8 HT26
            generalize (s4 0).tot = tt at *
            go_wp2_with (first | (go_at_call 9; (with_reducible refine ht0.mono ?_); rintro e w8 ⟨rfl, rfl⟩) | (go_at_call 9; (with_reducible refine ht1.mono ?_); rintro e w8 ⟨rfl, rfl⟩))
            go_roundg (gk - 1)
            case measure => have := (show _ ∧ _ from HS); omega
            case rel =>
              obtain ⟨S4', so0, so1, so2, hsm, HB2, hz4⟩ := (show _ ∧ _ from HM)
              have T27 : Turn w2 _ (fun _ => False) := HT27
              obtain ⟨_, _, _, _, _, _, _, _, q5, q6, q7⟩ := (show _ ∧ _ from HS)
              have z2 := T27.size
              exact ⟨i + 1, s4, by simp, by omega, by omega, S4'.keep T27, so0, so1, so2, hsm, below_turn HB2 T27 (by omega) fun _ h => h.elim, by omega⟩
          | true =>
            by_cases hp0 : pm = 0
            · subst hp0
              go_wp2_with (first | (go_at_call 6; (with_reducible refine (hma _).mono ?_); rintro e w5 ⟨rfl, rfl⟩))
              have HDB : Hid (wr.Since wr.heap.size (wr.alloc (.cells #[.int .i64 k0, .int .i64 n0, .string s0, .int .i64 x, .bool true, .int .i64 p, .int .i64 r] 30)) ∧ (wr.alloc (.cells #[.int .i64 k0, .int .i64 n0, .string s0, .int .i64 x, .bool true, .int .i64 p, .int .i64 r] 30)).heap[wr.heap.size]? = some (.cells #[.int .i64 k0, .int .i64 n0, .string s0, .int .i64 x, .bool true, .int .i64 p, .int .i64 r] 30 (0, 0))) := ⟨(World.Since.refl _ wr).alloc (Nat.le_refl _) _, heap_alloc_new _ _⟩
              have hlt1 : wr.heap.size < (wr.alloc (.cells #[.int .i64 k0, .int .i64 n0, .string s0, .int .i64 x, .bool true, .int .i64 p, .int .i64 r] 30)).heap.size := by simp
              clear f0 f1 f2 f3 f4 f5 f6
              generalize wr.alloc (.cells #[.int .i64 k0, .int .i64 n0, .string s0, .int .i64 x, .bool true, .int .i64 p, .int .i64 r] 30) = W1 at *
              obtain ⟨SB, hb1⟩ := (show _ ∧ _ from HDB)
              obtain ⟨S, so0, so1, so2, hsm, Bl, hz, hqo, _⟩ := (show _ ∧ _ from HS)
              have TB : Turn wr W1 (fun _ => False) := Turn.since SB (Nat.le_refl _)
              have SS := S.keep TB
              have HBW : Below A w W1 := below_turn Bl TB hz fun _ h => h.elim
              have hzW : A ≤ W1.heap.size := by omega
              have d0 : W1.cell? ⟨wr.heap.size, 0, none⟩ = some (.int .i64 k0) := cell_of_heap hb1 rfl
              have d1 : W1.cell? ⟨wr.heap.size, 1, none⟩ = some (.int .i64 n0) := cell_of_heap hb1 rfl
              have d2 : W1.cell? ⟨wr.heap.size, 2, none⟩ = some (.string s0) := cell_of_heap hb1 rfl
              have d3 : W1.cell? ⟨wr.heap.size, 3, none⟩ = some (.int .i64 x) := cell_of_heap hb1 rfl
              have hoff : ∀ j, j < 3 → ¬ ft (s j) wr.heap.size := fun j hj h => by have := (S.one j hj).lt h; omega
              clear S Bl hz TB SB hb1 HDB
              generalize hbx : wr.heap.size = bx at *
              clear hbx
              have one1 := SS.one 1 (by omega)
              have hal := all_m (s 1) K W1 one1
              rw [so1] at hal
              refine hal.mono ?_
              rintro e w2 ⟨ta, F, rfl, hown, hs2, hto, hsd⟩
              have hlF : F.length ≤ 1024 := by
                have h1 := hto.keys.length_eq
                have h2 := one1.inv.len
                have h3 := one1.inv.hk
                simp at h1; omega
              have S2 : Sm A w2 K s := SS.keep (Turn.since hs2 (Nat.le_refl _))
              have hz2 := hs2.size
              have HBW2 : Below A w w2 := below_turn HBW (Turn.since hs2 (Nat.le_refl _) (own := fun _ => False)) hzW fun _ h => h.elim
              have c0 := since_cell hs2 (World.block_lt_of_cell? _ _ d0) d0
              have c1 := since_cell hs2 (World.block_lt_of_cell? _ _ d1) d1
              have c2 := since_cell hs2 (World.block_lt_of_cell? _ _ d2) d2
              have c3 := since_cell hs2 (World.block_lt_of_cell? _ _ d3) d3
              have hbl := World.block_lt_of_cell? _ _ d0
              have hwl : ∀ j q, j < 3 → ft (s j) q → q < W1.heap.size := fun j q hj hq => (SS.one j hj).lt hq
              obtain ⟨i0, hi0', hz0, hzs, hzb⟩ := info_parts info39
              have HA : Hid (Sm A w2 K s ∧ (s 0).o = o0 ∧ (s 1).o = o1 ∧ (s 2).o = o2 ∧ SameT (s 0) (s 1) ∧ Below A w w2 ∧ A ≤ w2.heap.size ∧ (∀ j, j < 3 → ¬ ft (s j) bx) ∧ Told (s 1).E (s 1).lost F ∧ SortedIn (ltOf ordF) 0 F.length F.toArray ∧ w2.ownsRow W1.heap.size 39 5 ta F.length (flatF F) ∧ W1.heap.size ≤ w2.heap.size ∧ (∀ j q, j < 3 → ft (s j) q → q < W1.heap.size)) := ⟨S2, so0, so1, so2, hsm, HBW2, by omega, hoff, hto, hsd, hown, hz2, hwl⟩
              have hown2 := hown.alloc (.cells #[] 39)
              have hmade : (w2.alloc (.cells #[] 39)).ownsRow w2.heap.size 39 5 (.slice (some ⟨w2.heap.size, 0, none⟩) 0 0) 0 [] := World.ownsRow_made w2 #[] 0 (Nat.le_refl _) (by simp) rfl
              have hf1 := flatF_one F
              clear SS so0 so1 so2 hsm HBW hzW hoff one1 hal S2 HBW2 hs2 hto hsd hown hz2 d0 d1 d2 d3 hwl
              go_wp2_with (at_builtin; go_must (refine wpList_append_row _ rfl _ _ _ rfl w2.heap.size W1.heap.size 39 i0 _ 5 48 Try.underlying32 hi0' hz0 hzs hzb rfl (by omega) (.slice (some ⟨w2.heap.size, 0, none⟩) 0 0) 0 [] rfl hmade ta F.length (flatF F) rfl hown2 hf1 (by simp only [maxLen]; omega) (by omega) (by simp) ?_); intro was w3 hwas hg3 hat3; clear hmade hown2)
              obtain ⟨S2, so0, so1, so2, hsm, HBW2, hA2, hoff, hto, hsd, hown, hz12, hwl⟩ := (show _ ∧ _ from HA)
              have hwas' : w3.ownsRow w2.heap.size 39 5 was F.length (flatF F) := by simpa using hwas
              have T23 : Turn w2 w3 (fun _ => False) := Turn.trans (b := w2.alloc (.cells #[] 39)) (o := fun _ => False) (o' := fun q => q = w2.heap.size) (Turn.since ((World.Since.refl _ w2).alloc (Nat.le_refl _) _) (Nat.le_refl _)) (Turn.grown hg3 fun q e _ => by simp [Value.ownBlock] at e; exact e.symm) (fun _ h => h) fun q hq e => by omega
              have z23 := T23.size
              have S3 := S2.keep T23
              have hmg := merge_m (s 2) (s 1) K w3 (S3.one 2 (by omega)) (S3.one 1 (by omega))
              rw [so2, so1] at hmg
              have e0 := turn_cell T23 id c0
              have e1 := turn_cell T23 id c1
              have e2 := turn_cell T23 id c2
              have e3 := turn_cell T23 id c3
              have HB3 : Hid (Sm A w3 K s ∧ w3.ownsRow w2.heap.size 39 5 was F.length (flatF F) ∧ Turn w2 w3 (fun _ => False) ∧ w2.heap.size ≤ w3.heap.size) := ⟨S3, hwas', T23, z23⟩
              clear S2 so0 so1 so2 hsm HBW2 hA2 hoff hto hsd hown hz12 hwl hwas hwas' T23 S3 hg3 hat3 z23 c0 c1 c2 c3 hf1
              refine hmg.mono ?_
              rintro e w4 ⟨c, rfl, z1, Z1, hz1o, hz1f, T4, hc⟩
              have HZ : Hid (OneM w4 K z1 ∧ z1.o = o2 ∧ (∀ q, ft z1 q → ft (s 2) q ∨ w3.heap.size ≤ q) ∧ Turn w3 w4 (ft (s 2))) := ⟨Z1, hz1o, hz1f, T4⟩
              have S2' := (show _ ∧ _ from HA)
              have hfo : ¬ ft (s 2) bx := S2'.2.2.2.2.2.2.2.1 2 (by omega)
              have i0' := turn_cell T4 hfo e0
              have i1' := turn_cell T4 hfo e1
              have i2' := turn_cell T4 hfo e2
              have i3' := turn_cell T4 hfo e3
              have S3 := (show _ ∧ _ from HB3).1
              have one1 : OneM w4 K (s 1) := (S3.one 1 (by omega)).keep fun q hq => T4.block q ((S3.one 1 (by omega)).lt hq) (S3.dis 1 2 q (by omega) (by omega) (by omega) hq)
              have ht1 := total_w (s 1).o (s 1).b K (s 1).tot (s 1).lost (s 1).E w4 one1.sk
              have ht2 := total_w z1.o z1.b K z1.tot z1.lost z1.E w4 Z1.sk
              rw [S2'.2.2.1] at ht1
              rw [hz1o] at ht2
              have hadd := add_m z1 K ⟨k0, n0, s0⟩ (show _ ∧ _ from HS).2.2.2.2.2.2.2.1 1 w4 Z1
              rw [hz1o] at hadd
              simp only [VK.val] at hadd
              clear S2' hmg Z1 hz1o hz1f T4 S3 one1 hfo e0 e1 e2 e3
              have hcc : ∀ P : Prop, (c = 0 → P) → (c = 3 ∧ 1099511627776 ≤ (s 1).tot → P) → (c = 3 ∧ (s 1).tot < 1099511627776 ∧ 1099511627776 ≤ z1.tot → P) → P := fun P h1 h2 h3 => by
                rcases hc with h | ⟨h, h', h''⟩
                · exact h1 h
                · rcases Int.lt_or_le (s 1).tot 1099511627776 with g | g
                  · exact h3 ⟨h, g, by omega⟩
                  · exact h2 ⟨h, g⟩
              generalize (s 1).tot = tt1 at ht1 hcc
              generalize z1.tot = tt2 at ht2 hcc
              clear hc
              have hparts : c = 0 ∨ (c = 3 ∧ 1099511627776 ≤ tt1) ∨ (c = 3 ∧ tt1 < 1099511627776 ∧ 1099511627776 ≤ tt2) := hcc _ .inl (fun h => .inr (.inl h)) fun h => .inr (.inr h)
              clear hcc
              rcases hparts with rfl | ⟨rfl, hg⟩ | ⟨rfl, hg, hg'⟩
              all_goals (
                go_wp2_with (first | (go_at_call 9; (with_reducible refine ht1.mono ?_); rintro e w8 ⟨rfl, e8⟩; have e9 := e8.symm; clear e8; subst e9) | (go_at_call 9; (with_reducible refine ht2.mono ?_); rintro e w8 ⟨rfl, e8⟩; have e9 := e8.symm; clear e8; subst e9))
                refine hadd.mono ?_
                rintro e w5 ⟨rfl, z2, Z2, Ad, T5⟩
                obtain ⟨S2, so0, so1, so2, hsm, HBW2, hA2, hoff, hto, hsd, hown, hz12, hwl⟩ := (show _ ∧ _ from HA)
                obtain ⟨S3, hwas, T23, hz23⟩ := (show _ ∧ _ from HB3)
                obtain ⟨Z1, hz1o, hz1f, T4⟩ := (show _ ∧ _ from HZ)
                have hq2 : ∀ q, ft z2 q → ft z1 q := fun q h => by simpa only [ft, Ad.o, Ad.b] using h
                have hz1b : ∀ q, ft z1 q → q < W1.heap.size ∨ w3.heap.size ≤ q := fun q h => (hz1f q h).imp (fun h => hwl 2 q (by omega) h) id
                have z34 := T4.size
                have z45 := T5.size
                have HB4 : Below A w w4 := below_turn (below_turn HBW2 T23 hA2 fun _ h => h.elim) T4 (by omega) fun q h => S2.old 2 q (by omega) h
                have S4 := S3.upd (by omega) (j := 2) (by omega) Z1 hz1f T4
                have eu : upd s 2 z1 2 = z1 := upd_same _ _ _
                have S5 := S4.upd (by omega) (j := 2) (by omega) Z2 (fun q h => .inl (by rw [eu]; exact hq2 q h)) (by rw [eu]; exact T5)
                have HB5 : Below A w w5 := below_turn HB4 T5 (by omega) fun q h => by
                  have := S4.old 2 q (by omega) (by rw [eu]; exact h)
                  exact this
                have rowA : w5.ownsRow W1.heap.size 39 5 ta F.length (flatF F) := ownsRow_keep hown fun q e => by
                  have hq := hown.lt q e
                  exact (T5.block q (by omega) (fun h => by have := hz1b q h; omega)).trans ((T4.block q (by omega) (fun h => by have := hwl 2 q (by omega) h; omega)).trans (T23.block q hq.2 id))
                have rowW : w5.ownsRow w2.heap.size 39 5 was F.length (flatF F) := ownsRow_keep hwas fun q e => by
                  have hq := hwas.lt q e
                  exact (T5.block q (by omega) (fun h => by have := hz1b q h; omega)).trans (T4.block q hq.2 (fun h => by have := hwl 2 q (by omega) h; omega))
                have g0 : upd (upd s 2 z1) 2 z2 0 = s 0 := by rw [upd_ne _ _ (by omega), upd_ne _ _ (by omega)]
                have g1' : upd (upd s 2 z1) 2 z2 1 = s 1 := by rw [upd_ne _ _ (by omega), upd_ne _ _ (by omega)]
                have g2' : upd (upd s 2 z1) 2 z2 2 = z2 := upd_same _ _ _
                have hfoot : ∀ j q, j < 3 → ft (upd (upd s 2 z1) 2 z2 j) q → q < W1.heap.size ∨ w3.heap.size ≤ q := fun j q hj h => by
                  match j, hj with
                  | 0, _ => rw [g0] at h; exact .inl (hwl 0 q (by omega) h)
                  | 1, _ => rw [g1'] at h; exact .inl (hwl 1 q (by omega) h)
                  | 2, _ => rw [g2'] at h; exact hz1b q (hq2 q h)
                have hoff5 : ∀ j, j < 3 → ¬ ft (upd (upd s 2 z1) 2 z2 j) bx := fun j hj h => by
                  match j, hj with
                  | 0, _ => rw [g0] at h; exact hoff 0 (by omega) h
                  | 1, _ => rw [g1'] at h; exact hoff 1 (by omega) h
                  | 2, _ =>
                    rw [g2'] at h
                    rcases hz1f bx (hq2 bx h) with h | h
                    · exact hoff 2 (by omega) h
                    · omega
                have nz1 : ¬ ft z1 bx := fun h => by
                  rcases hz1f bx h with h | h
                  · exact hoff 2 (by omega) h
                  · omega
                have j0 := turn_cell T5 nz1 i0'
                have j1 := turn_cell T5 nz1 i1'
                have j2 := turn_cell T5 nz1 i2'
                have j3 := turn_cell T5 nz1 i3'
                have L5 : ∃ s5 : Nat → Sk, Sm A w5 K s5 ∧ (s5 0).o = o0 ∧ (s5 1).o = o1 ∧ (s5 2).o = o2 ∧ SameT (s5 0) (s5 1) ∧ (∀ j, j < 3 → ¬ ft (s5 j) bx) ∧ (∀ j q, j < 3 → ft (s5 j) q → q < W1.heap.size ∨ w3.heap.size ≤ q) ∧ s5 1 = s 1 := ⟨_, S5, by rw [g0, so0], by rw [g1', so1], by rw [g2', Ad.o, hz1o], by rw [g0, g1']; exact hsm, hoff5, hfoot, g1'⟩
                obtain ⟨s5, S5', so0, so1, so2, hsm, hoff, hfoot, hs51⟩ := L5
                have HC : Hid (Sm A w5 K s5 ∧ (s5 0).o = o0 ∧ (s5 1).o = o1 ∧ (s5 2).o = o2 ∧ SameT (s5 0) (s5 1) ∧ (∀ j, j < 3 → ¬ ft (s5 j) bx) ∧ Below A w w5 ∧ A ≤ w5.heap.size ∧ Told (s 1).E (s 1).lost F ∧ SortedIn (ltOf ordF) 0 F.length F.toArray ∧ s5 1 = s 1) := ⟨S5', so0, so1, so2, hsm, hoff, HB5, by omega, hto, hsd, hs51⟩
                have hlA := rowA.lt
                have hlW := rowW.lt
                have hbl5 : bx < W1.heap.size := hbl
                have hHZ : Hid (W1.heap.size ≤ w2.heap.size ∧ w2.heap.size ≤ w3.heap.size) := ⟨hz12, hz23⟩
                have hownA : ∀ q, ta.ownBlock = some q → W1.heap.size ≤ q ∧ q < w2.heap.size := fun q e => hown.lt q e
                clear S2 HBW2 hA2 hto hsd hown hwl S3 hwas T23 Z1 hz1o hz1f T4 hq2 hz1b z34 HB4 S4 eu S5 HB5 g0 g1' g2' hoff5 nz1 Z2 Ad T5 i0' i1' i2' i3' so0 so1 so2 hsm hs51 z45 hadd ht1 ht2
                go_wp2_with fail
                refine (spoilt_w ta F.length ⟨⟨0, 0, ⟨#[]⟩⟩, 9999, 0⟩ w5 (Own.of (ownsRow_mono rowA (Nat.zero_le _))) (by omega)).mono ?_
                rintro e w6 ⟨rfl, T6⟩
                have S6 : Sm A w6 K s5 := S5'.keepF T6 fun j q hj hq e => by
                  have h1 := hownA q e
                  have h2 := hfoot j q hj hq
                  omega
                have rowW6 : w6.ownsRow w2.heap.size 39 5 was F.length (flatF F) := ownsRow_keep rowW fun q e => T6.block q (rowW.lt q e).2 fun h => by have := hownA q h; have := rowW.lt q e; omega
                have nb : ¬ ta.ownBlock = some bx := fun e => by have := hownA bx e; omega
                have m0 := turn_cell T6 nb j0
                have m1 := turn_cell T6 nb j1
                have m2 := turn_cell T6 nb j2
                have m3 := turn_cell T6 nb j3
                have oneP := S6.one 1 (by omega)
                have hal := all_m (s5 1) K w6 oneP
                have hz6 := T6.size
                have HD : Hid (Below A w w6 ∧ Sm A w6 K s5 ∧ w6.ownsRow w2.heap.size 39 5 was F.length (flatF F)) := ⟨below_turn (show _ ∧ _ from HC).2.2.2.2.2.2.1 T6 (show _ ∧ _ from HC).2.2.2.2.2.2.2.1 fun q e => by
                  have h1 := hownA q e
                  have h2 := (show _ ∧ _ from HA).2.2.2.2.2.2.1
                  have h3 := (show _ ∧ _ from HC).1.old 0 _ (by omega) (.inl rfl)
                  have h4 := (show _ ∧ _ from HA).1.old 0 _ (by omega) (.inl rfl)
                  have h5 := (show _ ∧ _ from HA).2.2.2.2.2.2.2.2.2.2.2.2 0 _ (by omega) (.inl rfl)
                  omega, S6, rowW6⟩
                rw [(show _ ∧ _ from HC).2.2.1] at hal
                clear S5' T6 S6 rowA rowW rowW6 j0 j1 j2 j3 oneP hlA hlW hownA hfoot hoff nb
                go_wp2_with fail
                refine hal.mono ?_
                rintro e w7 ⟨t7, F7, rfl, own7, hs7, hto7, hsd7⟩
                obtain ⟨_, so0, so1, so2, hsm, hoff, _, hA5, hto, hsd, hs51⟩ := (show _ ∧ _ from HC)
                obtain ⟨HB6, S6, rowW⟩ := (show _ ∧ _ from HD)
                have S7 := S6.keep (Turn.since hs7 (Nat.le_refl _))
                have HBW7 : Below A w w7 := below_turn HB6 (Turn.since hs7 (Nat.le_refl _) (own := fun _ => False)) (by omega) fun _ h => h.elim
                have oneP := S7.one 1 (by omega)
                have hFF : F7 = F := by
                  rw [hs51] at hto7 oneP
                  exact Told.same oneP.sk.map.uniq oneP.sk.map.uniq (fun q hq => (oneP.inv.pos q hq).2) (fun q hq => (oneP.inv.pos q hq).2) (fun _ => rfl) hto7 hto hsd7 hsd
                subst hFF
                have rowW7 := ownsRow_keep rowW fun q e => hs7.block q (rowW.lt q e).2
                have hsf := sameF_w t7 was F7 w7 _ _ own7 rowW7 (by omega)
                have p0 := since_cell hs7 (World.block_lt_of_cell? _ _ m0) m0
                have p1 := since_cell hs7 (World.block_lt_of_cell? _ _ m1) m1
                have p2 := since_cell hs7 (World.block_lt_of_cell? _ _ m2) m2
                have p3 := since_cell hs7 (World.block_lt_of_cell? _ _ m3) m3
                have hz7 := hs7.size
                have HE : Hid (Sm A w7 K s5 ∧ Below A w w7 ∧ A ≤ w7.heap.size) := ⟨S7, HBW7, by omega⟩
                clear S6 rowW S7 HBW7 oneP rowW7 own7 hs7 hto7 hsd7 hto hsd HB6 m0 m1 m2 m3 hal so0 so1 so2 hsm hoff hs51 hz7 hA5 hz6
                go_wp2_with fail
                refine hsf.mono ?_
                rintro e w8 ⟨rfl, T8, _⟩
                obtain ⟨S7, HBW7, hA7⟩ := (show _ ∧ _ from HE)
                obtain ⟨_, so0, so1, so2, hsm, hoff, _, _, _, _, _⟩ := (show _ ∧ _ from HC)
                have SS : Sm A w8 K s5 := S7.keep T8
                have HBW : Below A w w8 := below_turn HBW7 T8 hA7 fun _ h => h.elim
                have hzW : A ≤ w8.heap.size := Nat.le_trans hA7 T8.size
                have d0 := turn_cell T8 id p0
                have d1 := turn_cell T8 id p1
                have d2 := turn_cell T8 id p2
                have d3 := turn_cell T8 id p3
                clear S7 HBW7 hA7 T8 hsf p0 p1 p2 p3
                go_wp2_with fail
                have hcode : codeA (s5 1).tot x = codeA (s5 0).tot x := by rw [hsm.tot]
                have one0 := SS.one 0 (by omega)
                have one1 := SS.one 1 (by omega)
                have had0 := add_m (s5 0) K ⟨k0, n0, s0⟩ hqo x w8.drew (one0.keep fun _ _ => rfl)
                have had1 := fun (W : World) (hW : OneM W K (s5 1)) => add_m (s5 1) K ⟨k0, n0, s0⟩ hqo x W hW
                rw [so0] at had0
                rw [so1, hcode] at had1
                simp only [VK.val] at had0 had1
                generalize codeA (s5 0).tot x = cc at *
                have hS1 : ∀ (w1 : World), Turn w8.drew w1 (ft (s5 0)) → OneM w1 K (s5 1) := fun w1 T => one1.keep fun q hq => T.block q (one1.lt hq) (SS.dis 1 0 q (by omega) (by omega) (by omega) hq)
                have hn0 := hoff 0 (by omega)
                have hn1 := hoff 1 (by omega)
                have HT : Hid (Sm A w8 K s5 ∧ (s5 0).o = o0 ∧ (s5 1).o = o1 ∧ (s5 2).o = o2 ∧ SameT (s5 0) (s5 1) ∧ Below A w w8 ∧ A ≤ w8.heap.size) := ⟨SS, so0, so1, so2, hsm, HBW, hzW⟩
                clear SS so0 so1 so2 hsm HBW hzW one0 one1 hcode
                go_region_held3 (fun W : World => W.cell? ⟨bx, 0, none⟩ = some (.int .i64 k0) ∧ W.cell? ⟨bx, 1, none⟩ = some (.int .i64 n0) ∧ W.cell? ⟨bx, 2, none⟩ = some (.string s0) ∧ W.cell? ⟨bx, 3, none⟩ = some (.int .i64 x))
                  (first | exact ⟨d0, d1, d2, d3⟩ | exact ⟨c0, c1, c2, c3⟩ | exact ⟨b0, b1, b2, b3⟩)
                  (first | (go_at_call 10; (with_reducible refine had0.mono ?_); rintro e w1 ⟨rfl, y0, Y0, A0, T1⟩; have c0 := turn_cell T1 hn0 d0; have c1 := turn_cell T1 hn0 d1; have c2 := turn_cell T1 hn0 d2; have c3 := turn_cell T1 hn0 d3; have had1' := had1 w1 (hS1 w1 T1)) | (go_at_call 10; (with_reducible refine had1'.mono ?_); rintro e w2 ⟨rfl, y1, Y1, A1, T2⟩; have b0 := turn_cell T2 hn1 c0; have b1 := turn_cell T2 hn1 c1; have b2 := turn_cell T2 hn1 c2; have b3 := turn_cell T2 hn1 c3))
                obtain ⟨SS, so0, so1, so2, hsm, HBW, hzW⟩ := (show _ ∧ _ from HT)
                have z1 := T1.size
                have z2 := T2.size
                have z0 : w8.drew.heap.size = w8.heap.size := rfl
                have Sd : Sm A w8.drew K s5 := SS.keep ⟨rfl, rfl, rfl, Nat.le_refl _, fun _ _ _ => rfl⟩
                have Sa := Sd.upd (by omega) (j := 0) (by omega) Y0 (fun q h => .inl (by simpa only [ft, A0.o, A0.b] using h)) T1
                have e1 : upd s5 0 y0 1 = s5 1 := upd_ne _ _ (by omega)
                have Sb := Sa.upd (by omega) (j := 1) (by omega) Y1 (fun q h => .inl (by rw [e1]; simpa only [ft, A1.o, A1.b] using h)) (by rw [e1]; exact T2)
                have hu0 := (SS.one 0 (by omega)).sk.map.uniq
                have hu1 := (SS.one 1 (by omega)).sk.map.uniq
                have hsm' := AddRel.same hu0 hu1 hsm A0 A1
                have f0 : upd (upd s5 0 y0) 1 y1 0 = y0 := by rw [upd_ne _ _ (by omega), upd_same]
                have f1 : upd (upd s5 0 y0) 1 y1 1 = y1 := upd_same _ _ _
                have f2 : upd (upd s5 0 y0) 1 y1 2 = s5 2 := by rw [upd_ne _ _ (by omega), upd_ne _ _ (by omega)]
                have HB2 : Below A w w2 := below_turn (below_turn HBW (⟨T1.os, T1.tape, T1.output, T1.size, T1.block⟩ : Turn w8 w1 (ft (s5 0))) hzW fun q h => SS.old 0 q (by omega) h) T2 (by omega) fun q h => SS.old 1 q (by omega) h
                have L4 : ∃ s4 : Nat → Sk, Sm A w2 K s4 ∧ (s4 0).o = o0 ∧ (s4 1).o = o1 ∧ (s4 2).o = o2 ∧ SameT (s4 0) (s4 1) := ⟨_, Sb, by rw [f0, A0.o, so0], by rw [f1, A1.o, so1], by rw [f2, so2], by rw [f0, f1]; exact hsm'⟩
                obtain ⟨s4, S4, so0, so1, so2, hsm⟩ := L4
                have hz4 : A ≤ w2.heap.size := by omega
                clear SS HBW hzW z1 z2 z0 Sd Sa e1 Sb hu0 hu1 hsm' f0 f1 f2 T1 T2 A0 A1 Y0 Y1 had0 had1 had1' hS1 hn0 hn1 HT c0 c1 c2 c3 b0 b1 b2 b3 d0 d1 d2 d3 hoff
                have hal0 : ∀ W : World, OneM W K (s4 0) → Calls Try.prog 7 #[.pointer (some ⟨o0, 0, none⟩)] W fun e w' => ∃ t F, e = .returned t ∧ w'.ownsRow W.heap.size 39 5 t F.length (flatF F) ∧ W.Since W.heap.size w' ∧ Told (s4 0).E (s4 0).lost F ∧ SortedIn (ltOf ordF) 0 F.length F.toArray := fun W h => so0 ▸ all_m (s4 0) K W h
                have hal1 : ∀ W : World, OneM W K (s4 1) → Calls Try.prog 7 #[.pointer (some ⟨o1, 0, none⟩)] W fun e w' => ∃ t F, e = .returned t ∧ w'.ownsRow W.heap.size 39 5 t F.length (flatF F) ∧ W.Since W.heap.size w' ∧ Told (s4 1).E (s4 1).lost F ∧ SortedIn (ltOf ordF) 0 F.length F.toArray := fun W h => so1 ▸ all_m (s4 1) K W h
                have hlen : ∀ j F, j < 3 → Told (s4 j).E (s4 j).lost F → F.length ≤ 1024 := fun j F hj hT => by
                  have h1 := hT.keys.length_eq
                  have h2 := (S4.one j hj).inv.len
                  have h3 := (S4.one j hj).inv.hk
                  simp at h1; omega
                have HM : Hid (Sm A w2 K s4 ∧ (s4 0).o = o0 ∧ (s4 1).o = o1 ∧ (s4 2).o = o2 ∧ SameT (s4 0) (s4 1) ∧ Below A w w2 ∧ A ≤ w2.heap.size) := ⟨S4, so0, so1, so2, hsm, HB2, hz4⟩
                have HL : Hid (∀ j F, j < 3 → Told (s4 j).E (s4 j).lost F → F.length ≤ 1024) := hlen
                have hne : decide (cc = cc) = true := by simp
                clear so0 so1 so2 hsm HB2 hz4 hlen
                go_wp2_with fail
                refine (hal0 w2 (S4.one 0 (by omega))).mono ?_
                rintro e w3 ⟨tv, F, rfl, hown, hs3, hto3, _⟩
                go_wp2_with fail
                refine (spoilt_w tv F.length ⟨⟨0, 0, ⟨#[]⟩⟩, 9999, 0⟩ w3 (Own.of (ownsRow_mono hown (Nat.zero_le _))) (by have := (show ∀ j F, j < 3 → Told (s4 j).E (s4 j).lost F → F.length ≤ 1024 from HL) 0 F (by omega) hto3; omega)).mono ?_
                rintro e w4 ⟨rfl, T4⟩
                have S5 : Sm A w4 K s4 := by
                  refine (S4.keep (w' := w3) (Turn.since hs3 (Nat.le_refl _))).keepF T4 fun j q hj hq e => ?_
                  have h1 := (hown.lt q e).1
                  have h2 := (S4.one j hj).lt hq
                  omega
                have T24 : Turn w2 w4 (fun _ => False) := (Turn.since (own := fun _ => False) hs3 (Nat.le_refl _)).trans T4 (fun _ h => h) fun q hq e => by have := (hown.lt q e).1; omega
                have HT24 : Hid (Turn w2 w4 (fun _ => False)) := T24
                clear S4 hown hs3 hto3 T4 T24
                go_wp2_with fail
                refine (hal0 w4 (S5.one 0 (by omega))).mono ?_
                rintro e w5 ⟨t5, F5, rfl, own5, hs5, hto5, hsd5⟩
                have S6 : Sm A w5 K s4 := S5.keep (Turn.since hs5 (Nat.le_refl _))
                go_wp2_with fail
                refine (hal1 w5 (S6.one 1 (by omega))).mono ?_
                rintro e w6 ⟨t6, F6, rfl, own6, hs6, hto6, hsd6⟩
                have S7 : Sm A w6 K s4 := S6.keep (Turn.since hs6 (Nat.le_refl _))
                have hsm := (show _ ∧ _ from HM).2.2.2.2.1
                have o0' := S7.one 0 (by omega)
                have o1' := S7.one 1 (by omega)
                have hFF : F5 = F6 := Told.same o0'.sk.map.uniq o1'.sk.map.uniq (fun q hq => (o0'.inv.pos q hq).2) (fun q hq => (o1'.inv.pos q hq).2) hsm.look hto5 (by rw [hsm.lost]; exact hto6) hsd5 hsd6
                subst hFF
                have own5' := ownsRow_keep own5 fun q e => hs6.block q (own5.lt q e).2
                have hl5 := (show ∀ j F, j < 3 → Told (s4 j).E (s4 j).lost F → F.length ≤ 1024 from HL) 0 F5 (by omega) hto5
                have hsf := sameF_w t5 t6 F5 w6 _ _ own5' own6 (by omega)
                have HT26 : Hid (Turn w2 w6 (fun _ => False)) := ((show Turn w2 w4 (fun _ => False) from HT24).trans (Turn.since hs5 (Nat.le_refl _) (own := fun _ => False)) (fun _ h => h) fun _ _ h => h).trans (Turn.since hs6 (Nat.le_refl _) (own := fun _ => False)) (fun _ h => h) fun _ _ h => h
                clear S5 S6 own5 own6 own5' hs5 hs6 hto5 hto6 hsd5 hsd6 hl5 hal0 hal1 HT24 o0' o1' hsm
                go_wp2_with fail
                refine hsf.mono ?_
                rintro e w7 ⟨rfl, T7, hz7⟩
                obtain ⟨S4', so0, so1, so2, hsm, HB2, hz4⟩ := (show _ ∧ _ from HM)
                have S8 : Sm A w7 K s4 := S7.keep T7
                have ht0 := total_w (s4 0).o (s4 0).b K (s4 0).tot (s4 0).lost (s4 0).E w7 (S8.one 0 (by omega)).sk
                have ht1 := total_w (s4 1).o (s4 1).b K (s4 1).tot (s4 1).lost (s4 1).E w7 (S8.one 1 (by omega)).sk
                rw [so0] at ht0
                rw [so1, ← hsm.tot] at ht1
                have HT27 : Hid (Turn w2 w7 (fun _ => False)) := (show Turn w2 w6 (fun _ => False) from HT26).trans T7 (fun _ h => h) fun _ _ h => h
                clear S7 T7 hz7 hsf S4' so0 so1 so2 hsm HB2 hz4 S8 HT26
                generalize (s4 0).tot = tt at *
                go_wp2_with (first | (go_at_call 9; (with_reducible refine ht0.mono ?_); rintro e w8 ⟨rfl, rfl⟩) | (go_at_call 9; (with_reducible refine ht1.mono ?_); rintro e w8 ⟨rfl, rfl⟩))
                go_roundg (gk - 1)
                case measure => have := (show _ ∧ _ from HS); omega
                case rel =>
                  obtain ⟨S4', so0, so1, so2, hsm, HB2, hz4⟩ := (show _ ∧ _ from HM)
                  have T27 : Turn w2 _ (fun _ => False) := HT27
                  obtain ⟨_, _, _, _, _, _, _, _, q5, q6, q7⟩ := (show _ ∧ _ from HS)
                  have z2 := T27.size
                  exact ⟨i + 1, s4, by simp, by omega, by omega, S4'.keep T27, so0, so1, so2, hsm, below_turn HB2 T27 (by omega) fun _ h => h.elim, by omega⟩)
            · go_wp2_with (first | (go_at_call 6; (with_reducible refine (hma _).mono ?_); rintro e w5 ⟨rfl, rfl⟩))
              have HDB : Hid (wr.Since wr.heap.size (wr.alloc (.cells #[.int .i64 k0, .int .i64 n0, .string s0, .int .i64 x, .bool true, .int .i64 p, .int .i64 r] 30)) ∧ (wr.alloc (.cells #[.int .i64 k0, .int .i64 n0, .string s0, .int .i64 x, .bool true, .int .i64 p, .int .i64 r] 30)).heap[wr.heap.size]? = some (.cells #[.int .i64 k0, .int .i64 n0, .string s0, .int .i64 x, .bool true, .int .i64 p, .int .i64 r] 30 (0, 0))) := ⟨(World.Since.refl _ wr).alloc (Nat.le_refl _) _, heap_alloc_new _ _⟩
              have hlt1 : wr.heap.size < (wr.alloc (.cells #[.int .i64 k0, .int .i64 n0, .string s0, .int .i64 x, .bool true, .int .i64 p, .int .i64 r] 30)).heap.size := by simp
              clear f0 f1 f2 f3 f4 f5 f6
              generalize wr.alloc (.cells #[.int .i64 k0, .int .i64 n0, .string s0, .int .i64 x, .bool true, .int .i64 p, .int .i64 r] 30) = W1 at *
              obtain ⟨SB, hb1⟩ := (show _ ∧ _ from HDB)
              obtain ⟨S, so0, so1, so2, hsm, Bl, hz, hqo, _⟩ := (show _ ∧ _ from HS)
              have TB : Turn wr W1 (fun _ => False) := Turn.since SB (Nat.le_refl _)
              have SS := S.keep TB
              have HBW : Below A w W1 := below_turn Bl TB hz fun _ h => h.elim
              have hzW : A ≤ W1.heap.size := by omega
              have d0 : W1.cell? ⟨wr.heap.size, 0, none⟩ = some (.int .i64 k0) := cell_of_heap hb1 rfl
              have d1 : W1.cell? ⟨wr.heap.size, 1, none⟩ = some (.int .i64 n0) := cell_of_heap hb1 rfl
              have d2 : W1.cell? ⟨wr.heap.size, 2, none⟩ = some (.string s0) := cell_of_heap hb1 rfl
              have d3 : W1.cell? ⟨wr.heap.size, 3, none⟩ = some (.int .i64 x) := cell_of_heap hb1 rfl
              have hoff : ∀ j, j < 3 → ¬ ft (s j) wr.heap.size := fun j hj h => by have := (S.one j hj).lt h; omega
              clear S Bl hz TB SB hb1 HDB
              generalize hbx : wr.heap.size = bx at *
              clear hbx
              have hcode : codeA (s 1).tot x = codeA (s 0).tot x := by rw [hsm.tot]
              have one0 := SS.one 0 (by omega)
              have one1 := SS.one 1 (by omega)
              have had0 := add_m (s 0) K ⟨k0, n0, s0⟩ hqo x W1.drew (one0.keep fun _ _ => rfl)
              have had1 := fun (W : World) (hW : OneM W K (s 1)) => add_m (s 1) K ⟨k0, n0, s0⟩ hqo x W hW
              rw [so0] at had0
              rw [so1, hcode] at had1
              simp only [VK.val] at had0 had1
              generalize codeA (s 0).tot x = cc at *
              have hS1 : ∀ (w1 : World), Turn W1.drew w1 (ft (s 0)) → OneM w1 K (s 1) := fun w1 T => one1.keep fun q hq => T.block q (one1.lt hq) (SS.dis 1 0 q (by omega) (by omega) (by omega) hq)
              have hn0 := hoff 0 (by omega)
              have hn1 := hoff 1 (by omega)
              have HT : Hid (Sm A W1 K s ∧ (s 0).o = o0 ∧ (s 1).o = o1 ∧ (s 2).o = o2 ∧ SameT (s 0) (s 1) ∧ Below A w W1 ∧ A ≤ W1.heap.size) := ⟨SS, so0, so1, so2, hsm, HBW, hzW⟩
              clear SS so0 so1 so2 hsm HBW hzW one0 one1 hcode
              go_region_held3 (fun W : World => W.cell? ⟨bx, 0, none⟩ = some (.int .i64 k0) ∧ W.cell? ⟨bx, 1, none⟩ = some (.int .i64 n0) ∧ W.cell? ⟨bx, 2, none⟩ = some (.string s0) ∧ W.cell? ⟨bx, 3, none⟩ = some (.int .i64 x))
                (first | exact ⟨d0, d1, d2, d3⟩ | exact ⟨c0, c1, c2, c3⟩ | exact ⟨b0, b1, b2, b3⟩)
                (first | (go_at_call 10; (with_reducible refine had0.mono ?_); rintro e w1 ⟨rfl, y0, Y0, A0, T1⟩; have c0 := turn_cell T1 hn0 d0; have c1 := turn_cell T1 hn0 d1; have c2 := turn_cell T1 hn0 d2; have c3 := turn_cell T1 hn0 d3; have had1' := had1 w1 (hS1 w1 T1)) | (go_at_call 10; (with_reducible refine had1'.mono ?_); rintro e w2 ⟨rfl, y1, Y1, A1, T2⟩; have b0 := turn_cell T2 hn1 c0; have b1 := turn_cell T2 hn1 c1; have b2 := turn_cell T2 hn1 c2; have b3 := turn_cell T2 hn1 c3))
              obtain ⟨SS, so0, so1, so2, hsm, HBW, hzW⟩ := (show _ ∧ _ from HT)
              have z1 := T1.size
              have z2 := T2.size
              have z0 : W1.drew.heap.size = W1.heap.size := rfl
              have Sd : Sm A W1.drew K s := SS.keep ⟨rfl, rfl, rfl, Nat.le_refl _, fun _ _ _ => rfl⟩
              have Sa := Sd.upd (by omega) (j := 0) (by omega) Y0 (fun q h => .inl (by simpa only [ft, A0.o, A0.b] using h)) T1
              have e1 : upd s 0 y0 1 = s 1 := upd_ne _ _ (by omega)
              have Sb := Sa.upd (by omega) (j := 1) (by omega) Y1 (fun q h => .inl (by rw [e1]; simpa only [ft, A1.o, A1.b] using h)) (by rw [e1]; exact T2)
              have hu0 := (SS.one 0 (by omega)).sk.map.uniq
              have hu1 := (SS.one 1 (by omega)).sk.map.uniq
              have hsm' := AddRel.same hu0 hu1 hsm A0 A1
              have f0 : upd (upd s 0 y0) 1 y1 0 = y0 := by rw [upd_ne _ _ (by omega), upd_same]
              have f1 : upd (upd s 0 y0) 1 y1 1 = y1 := upd_same _ _ _
              have f2 : upd (upd s 0 y0) 1 y1 2 = s 2 := by rw [upd_ne _ _ (by omega), upd_ne _ _ (by omega)]
              have HB2 : Below A w w2 := below_turn (below_turn HBW (⟨T1.os, T1.tape, T1.output, T1.size, T1.block⟩ : Turn W1 w1 (ft (s 0))) hzW fun q h => SS.old 0 q (by omega) h) T2 (by omega) fun q h => SS.old 1 q (by omega) h
              have L4 : ∃ s4 : Nat → Sk, Sm A w2 K s4 ∧ (s4 0).o = o0 ∧ (s4 1).o = o1 ∧ (s4 2).o = o2 ∧ SameT (s4 0) (s4 1) := ⟨_, Sb, by rw [f0, A0.o, so0], by rw [f1, A1.o, so1], by rw [f2, so2], by rw [f0, f1]; exact hsm'⟩
              obtain ⟨s4, S4, so0, so1, so2, hsm⟩ := L4
              have hz4 : A ≤ w2.heap.size := by omega
              clear SS HBW hzW z1 z2 z0 Sd Sa e1 Sb hu0 hu1 hsm' f0 f1 f2 T1 T2 A0 A1 Y0 Y1 had0 had1 had1' hS1 hn0 hn1 HT c0 c1 c2 c3 b0 b1 b2 b3 d0 d1 d2 d3 hoff
              have hal0 : ∀ W : World, OneM W K (s4 0) → Calls Try.prog 7 #[.pointer (some ⟨o0, 0, none⟩)] W fun e w' => ∃ t F, e = .returned t ∧ w'.ownsRow W.heap.size 39 5 t F.length (flatF F) ∧ W.Since W.heap.size w' ∧ Told (s4 0).E (s4 0).lost F ∧ SortedIn (ltOf ordF) 0 F.length F.toArray := fun W h => so0 ▸ all_m (s4 0) K W h
              have hal1 : ∀ W : World, OneM W K (s4 1) → Calls Try.prog 7 #[.pointer (some ⟨o1, 0, none⟩)] W fun e w' => ∃ t F, e = .returned t ∧ w'.ownsRow W.heap.size 39 5 t F.length (flatF F) ∧ W.Since W.heap.size w' ∧ Told (s4 1).E (s4 1).lost F ∧ SortedIn (ltOf ordF) 0 F.length F.toArray := fun W h => so1 ▸ all_m (s4 1) K W h
              have hlen : ∀ j F, j < 3 → Told (s4 j).E (s4 j).lost F → F.length ≤ 1024 := fun j F hj hT => by
                have h1 := hT.keys.length_eq
                have h2 := (S4.one j hj).inv.len
                have h3 := (S4.one j hj).inv.hk
                simp at h1; omega
              have HM : Hid (Sm A w2 K s4 ∧ (s4 0).o = o0 ∧ (s4 1).o = o1 ∧ (s4 2).o = o2 ∧ SameT (s4 0) (s4 1) ∧ Below A w w2 ∧ A ≤ w2.heap.size) := ⟨S4, so0, so1, so2, hsm, HB2, hz4⟩
              have HL : Hid (∀ j F, j < 3 → Told (s4 j).E (s4 j).lost F → F.length ≤ 1024) := hlen
              have hne : decide (cc = cc) = true := by simp
              clear so0 so1 so2 hsm HB2 hz4 hlen
              go_wp2_with fail
              refine (hal0 w2 (S4.one 0 (by omega))).mono ?_
              rintro e w3 ⟨tv, F, rfl, hown, hs3, hto3, _⟩
              go_wp2_with fail
              refine (spoilt_w tv F.length ⟨⟨0, 0, ⟨#[]⟩⟩, 9999, 0⟩ w3 (Own.of (ownsRow_mono hown (Nat.zero_le _))) (by have := (show ∀ j F, j < 3 → Told (s4 j).E (s4 j).lost F → F.length ≤ 1024 from HL) 0 F (by omega) hto3; omega)).mono ?_
              rintro e w4 ⟨rfl, T4⟩
              have S5 : Sm A w4 K s4 := by
                refine (S4.keep (w' := w3) (Turn.since hs3 (Nat.le_refl _))).keepF T4 fun j q hj hq e => ?_
                have h1 := (hown.lt q e).1
                have h2 := (S4.one j hj).lt hq
                omega
              have T24 : Turn w2 w4 (fun _ => False) := (Turn.since (own := fun _ => False) hs3 (Nat.le_refl _)).trans T4 (fun _ h => h) fun q hq e => by have := (hown.lt q e).1; omega
              have HT24 : Hid (Turn w2 w4 (fun _ => False)) := T24
              clear S4 hown hs3 hto3 T4 T24
              go_wp2_with fail
              refine (hal0 w4 (S5.one 0 (by omega))).mono ?_
              rintro e w5 ⟨t5, F5, rfl, own5, hs5, hto5, hsd5⟩
              have S6 : Sm A w5 K s4 := S5.keep (Turn.since hs5 (Nat.le_refl _))
              go_wp2_with fail
              refine (hal1 w5 (S6.one 1 (by omega))).mono ?_
              rintro e w6 ⟨t6, F6, rfl, own6, hs6, hto6, hsd6⟩
              have S7 : Sm A w6 K s4 := S6.keep (Turn.since hs6 (Nat.le_refl _))
              have hsm := (show _ ∧ _ from HM).2.2.2.2.1
              have o0' := S7.one 0 (by omega)
              have o1' := S7.one 1 (by omega)
              have hFF : F5 = F6 := Told.same o0'.sk.map.uniq o1'.sk.map.uniq (fun q hq => (o0'.inv.pos q hq).2) (fun q hq => (o1'.inv.pos q hq).2) hsm.look hto5 (by rw [hsm.lost]; exact hto6) hsd5 hsd6
              subst hFF
              have own5' := ownsRow_keep own5 fun q e => hs6.block q (own5.lt q e).2
              have hl5 := (show ∀ j F, j < 3 → Told (s4 j).E (s4 j).lost F → F.length ≤ 1024 from HL) 0 F5 (by omega) hto5
              have hsf := sameF_w t5 t6 F5 w6 _ _ own5' own6 (by omega)
              have HT26 : Hid (Turn w2 w6 (fun _ => False)) := ((show Turn w2 w4 (fun _ => False) from HT24).trans (Turn.since hs5 (Nat.le_refl _) (own := fun _ => False)) (fun _ h => h) fun _ _ h => h).trans (Turn.since hs6 (Nat.le_refl _) (own := fun _ => False)) (fun _ h => h) fun _ _ h => h
              clear S5 S6 own5 own6 own5' hs5 hs6 hto5 hto6 hsd5 hsd6 hl5 hal0 hal1 HT24 o0' o1' hsm
              go_wp2_with fail
              refine hsf.mono ?_
              rintro e w7 ⟨rfl, T7, hz7⟩
              obtain ⟨S4', so0, so1, so2, hsm, HB2, hz4⟩ := (show _ ∧ _ from HM)
              have S8 : Sm A w7 K s4 := S7.keep T7
              have ht0 := total_w (s4 0).o (s4 0).b K (s4 0).tot (s4 0).lost (s4 0).E w7 (S8.one 0 (by omega)).sk
              have ht1 := total_w (s4 1).o (s4 1).b K (s4 1).tot (s4 1).lost (s4 1).E w7 (S8.one 1 (by omega)).sk
              rw [so0] at ht0
              rw [so1, ← hsm.tot] at ht1
              have HT27 : Hid (Turn w2 w7 (fun _ => False)) := (show Turn w2 w6 (fun _ => False) from HT26).trans T7 (fun _ h => h) fun _ _ h => h
              clear S7 T7 hz7 hsf S4' so0 so1 so2 hsm HB2 hz4 S8 HT26
              generalize (s4 0).tot = tt at *
              go_wp2_with (first | (go_at_call 9; (with_reducible refine ht0.mono ?_); rintro e w8 ⟨rfl, rfl⟩) | (go_at_call 9; (with_reducible refine ht1.mono ?_); rintro e w8 ⟨rfl, rfl⟩))
              go_roundg (gk - 1)
              case measure => have := (show _ ∧ _ from HS); omega
              case rel =>
                obtain ⟨S4', so0, so1, so2, hsm, HB2, hz4⟩ := (show _ ∧ _ from HM)
                have T27 : Turn w2 _ (fun _ => False) := HT27
                obtain ⟨_, _, _, _, _, _, _, _, q5, q6, q7⟩ := (show _ ∧ _ from HS)
                have z2 := T27.size
                exact ⟨i + 1, s4, by simp, by omega, by omega, S4'.keep T27, so0, so1, so2, hsm, below_turn HB2 T27 (by omega) fun _ h => h.elim, by omega⟩
        · have HE : Hid (Below A w wr ∧ A ≤ wr.heap.size) := ⟨Bl, hz⟩
          clear g3 S so0 so1 so2 hsm Bl hz
          have hi0 : (0 : Int) ≤ (i : Int) := Int.natCast_nonneg _
          by_cases hin1 : i < n
          · have hi1 : (i : Int) < (n : Int) := by omega
            have hi3 : ¬ (i : Int) < 500 := by omega
            clear hin hgi hi2
            go_wp2_with fail
            refine (new_m 1 (by omega) wr).mono ?_
            rintro e x1 ⟨rfl, X1, s1⟩
            go_wp2_with fail
            refine (mark_w x1).mono ?_
            rintro e x2 ⟨rfl, s2⟩
            have X2 := X1.keep fun q hq => s2.block q (X1.lt hq)
            have hmk : markV.Ok := ⟨rfl, rfl, by decide⟩
            have hmv : markV.val = .agg #[.int .i64 2, .int .i64 0, .string ⟨#[115, 112, 111, 105, 108, 116]⟩] := rfl
            have hadd := add_m _ 1 markV hmk 5 x2 X2
            have hc : codeA 0 5 = 0 := by decide
            simp only [hc, hmv] at hadd ⊢
            have zx : wr.heap.size ≤ x2.heap.size := Nat.le_trans s1.size s2.size
            have Tx : Turn wr x2 (fun _ => False) := (Turn.since (own := fun _ => False) s1 (Nat.le_refl _)).trans (Turn.since s2 (Nat.le_refl _) (own := fun _ => False)) (fun _ h => h) fun _ _ h => h
            clear X1 s1 X2 s2 hmk
            go_wp2_with fail
            refine hadd.mono ?_
            rintro e x3 ⟨rfl, y, Y, Ad, Ty⟩
            have hy : y.tot = 5 ∧ y.E.length = 1 := by
              rcases Ad.ex with ⟨h, _⟩ | ⟨_, h2, h3⟩
              · exact absurd hc h
              · refine ⟨by simpa using h2, ?_⟩
                rcases h3.ex with ⟨_, _, h4⟩ | ⟨h5, _⟩
                · rw [h4]; simp [put]
                · simp [put] at h5
            have hyo := Ad.o
            simp only at hyo
            have ht := total_w y.o y.b 1 y.tot y.lost y.E x3 Y.sk
            have hal := all_m y 1 x3 Y
            rw [hyo] at ht hal
            rw [hy.1] at ht
            have HY : Hid (y.E.length = 1) := hy.2
            have T13 : Turn wr x3 (fun _ => False) := Tx.trans Ty (fun _ h => h) fun q hq e => by
              rcases e with e | e
              · simp only at e; omega
              · simp only at e; omega
            have HT : Hid (Turn wr x3 (fun _ => False)) := T13
            clear hadd Y Ad Ty hy hyo T13 Tx zx
            go_wp2_with (first | (go_at_call 9; (with_reducible refine ht.mono ?_); rintro e w8 ⟨rfl, e8⟩; have e9 := e8.symm; clear e8; subst e9))
            refine hal.mono ?_
            rintro e x4 ⟨tv, F, rfl, own, hs4, hto, _⟩
            obtain ⟨ua, uc, rfl⟩ := ownsRow_slice own
            have hF1 : F.length = 1 := by
              have h1 := hto.keys.length_eq
              have h2 : y.E.length = 1 := HY
              simp at h1; omega
            rw [hF1]
            have HT4 : Hid (Turn wr x4 (fun _ => False)) := (show Turn wr x3 (fun _ => False) from HT).trans (Turn.since hs4 (Nat.le_refl _) (own := fun _ => False)) (fun _ h => h) fun _ _ h => h
            clear own hs4 hto hF1
            go_wp2_with fail
            go_ret
            obtain ⟨h1, h2⟩ := (show _ ∧ _ from HE)
            refine ⟨rfl, ?_⟩
            rw [hA]
            exact below_turn h1 (show Turn wr x4 (fun _ => False) from HT4) h2 fun _ h => h.elim
          · have hi1 : ¬ (i : Int) < (n : Int) := by omega
            clear hin hgi hi2
            go_wp2_with fail
            refine (new_m 1 (by omega) wr).mono ?_
            rintro e x1 ⟨rfl, X1, s1⟩
            go_wp2_with fail
            refine (mark_w x1).mono ?_
            rintro e x2 ⟨rfl, s2⟩
            have X2 := X1.keep fun q hq => s2.block q (X1.lt hq)
            have hmk : markV.Ok := ⟨rfl, rfl, by decide⟩
            have hmv : markV.val = .agg #[.int .i64 2, .int .i64 0, .string ⟨#[115, 112, 111, 105, 108, 116]⟩] := rfl
            have hadd := add_m _ 1 markV hmk 5 x2 X2
            have hc : codeA 0 5 = 0 := by decide
            simp only [hc, hmv] at hadd ⊢
            have zx : wr.heap.size ≤ x2.heap.size := Nat.le_trans s1.size s2.size
            have Tx : Turn wr x2 (fun _ => False) := (Turn.since (own := fun _ => False) s1 (Nat.le_refl _)).trans (Turn.since s2 (Nat.le_refl _) (own := fun _ => False)) (fun _ h => h) fun _ _ h => h
            clear X1 s1 X2 s2 hmk
            go_wp2_with fail
            refine hadd.mono ?_
            rintro e x3 ⟨rfl, y, Y, Ad, Ty⟩
            have hy : y.tot = 5 ∧ y.E.length = 1 := by
              rcases Ad.ex with ⟨h, _⟩ | ⟨_, h2, h3⟩
              · exact absurd hc h
              · refine ⟨by simpa using h2, ?_⟩
                rcases h3.ex with ⟨_, _, h4⟩ | ⟨h5, _⟩
                · rw [h4]; simp [put]
                · simp [put] at h5
            have hyo := Ad.o
            simp only at hyo
            have ht := total_w y.o y.b 1 y.tot y.lost y.E x3 Y.sk
            have hal := all_m y 1 x3 Y
            rw [hyo] at ht hal
            rw [hy.1] at ht
            have HY : Hid (y.E.length = 1) := hy.2
            have T13 : Turn wr x3 (fun _ => False) := Tx.trans Ty (fun _ h => h) fun q hq e => by
              rcases e with e | e
              · simp only at e; omega
              · simp only at e; omega
            have HT : Hid (Turn wr x3 (fun _ => False)) := T13
            clear hadd Y Ad Ty hy hyo T13 Tx zx
            go_wp2_with (first | (go_at_call 9; (with_reducible refine ht.mono ?_); rintro e w8 ⟨rfl, e8⟩; have e9 := e8.symm; clear e8; subst e9))
            refine hal.mono ?_
            rintro e x4 ⟨tv, F, rfl, own, hs4, hto, _⟩
            obtain ⟨ua, uc, rfl⟩ := ownsRow_slice own
            have hF1 : F.length = 1 := by
              have h1 := hto.keys.length_eq
              have h2 : y.E.length = 1 := HY
              simp at h1; omega
            rw [hF1]
            have HT4 : Hid (Turn wr x4 (fun _ => False)) := (show Turn wr x3 (fun _ => False) from HT).trans (Turn.since hs4 (Nat.le_refl _) (own := fun _ => False)) (fun _ h => h) fun _ _ h => h
            clear own hs4 hto hF1
            go_wp2_with fail
            go_ret
            obtain ⟨h1, h2⟩ := (show _ ∧ _ from HE)
            refine ⟨rfl, ?_⟩
            rw [hA]
            exact below_turn h1 (show Turn wr x4 (fun _ => False) from HT4) h2 fun _ h => h.elim
end Go.Proofs.Ytaaocppaepnhbaa
