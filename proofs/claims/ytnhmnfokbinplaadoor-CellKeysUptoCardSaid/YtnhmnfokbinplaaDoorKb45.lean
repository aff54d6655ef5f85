/- strings; strings. Own work; no condition. -/
import Derived.Lib.Builder
import Derived.Lib.AppendStr
import Derived.Lib.ReplaceLaws
import Derived.Lib.SlicesS
import Derived.Lib.SplitLaws
import Derived.Lib.IndexMore
import Derived.Lib.IndexBytes
import Derived.Deep.LoopGhost
import Derived.Shelf.Strings.Builder2
import Derived.Shelf.RegionOpenPlain
import Derived.Lib.Walk
import Derived.Laws.Externs
import Derived.Lib.UnsafeStr
import Derived.WalkKit
import Derived.ProofKit
import Derived.Test.YtnhmnfokbinplaaDoorTy
namespace Go.Proofs
open Go.RowKit Go.Lib

theorem Tryd.hidR {p : Prop} (h : p) : Hid p := h
set_option maxHeartbeats 1000000 in
set_option maxRecDepth 100000 in
theorem Tryd.Builder_copyCheck_used (b : Nat) (w : World) (h0 : w.cell? ⟨b, 0, none⟩ = some (.pointer (some ⟨b, 0, none⟩))) :
    Calls Tryd.prog 43 #[.pointer (some ⟨b, 0, none⟩)] w fun e w' => e = .returned (.tuple #[]) ∧ w' = w := by
  obtain ⟨j, hj, _⟩ := Option.map_eq_some_iff.1 (show (Tryd.prog.info? 55).map (·.size) = some 2 by kernel_rfl)
  have mixed := (show Tryd.prog.follows .mixedOrders = true by kernel_rfl)
  have t72 := Tryd.underlying55; have a72 := Tryd.isAgg55; have z72 := Tryd.sizeOf55; have v72 := Tryd.zeroValue55; have u72 := run_underlying Tryd.underlying55
  have t70 := Tryd.underlying53; have a70 := Tryd.isAgg53; have z70 := Tryd.sizeOf53; have v70 := Tryd.zeroValue53; have u70 := run_underlying Tryd.underlying53
  have t9 := Tryd.underlying9; have a9 := Tryd.isAgg9; have z9 := Tryd.sizeOf9; have v9 := Tryd.zeroValue9; have u9 := run_underlying Tryd.underlying9
  have t4 := Tryd.underlying4; have a4 := Tryd.isAgg4; have z4 := Tryd.sizeOf4; have v4 := Tryd.zeroValue4; have u4 := run_underlying Tryd.underlying4
  have t164 := Tryd.underlying70; have a164 := Tryd.isAgg70; have z164 := Tryd.sizeOf70; have v164 := Tryd.zeroValue70; have u164 := run_underlying Tryd.underlying70
  go_enter Tryd.func43, Tryd.ntmps43
  go_wp2
  rw [Lib.run_neq_ptr_same w _ Tryd.underlying53 hj]
  go_wp2
  go_end0
  exact ⟨rfl, rfl⟩

set_option maxHeartbeats 1000000 in
set_option maxRecDepth 100000 in
theorem Tryd.Builder_copyCheck_fresh (b : Nat) (w : World) (h0 : w.cell? ⟨b, 0, none⟩ = some (.pointer none)) (hsh : w.shape? b = some (55, 2)) (hfz : w.frozen? ⟨b, 0, none⟩ = false) :
    Calls Tryd.prog 43 #[.pointer (some ⟨b, 0, none⟩)] w fun e w' => e = .returned (.tuple #[]) ∧ w' = w.setCell ⟨b, 0, none⟩ (.pointer (some ⟨b, 0, none⟩)) := by
  obtain ⟨j, hj, hjs⟩ := Option.map_eq_some_iff.1 (show (Tryd.prog.info? 55).map (·.size) = some 2 by kernel_rfl)
  have mixed := (show Tryd.prog.follows .mixedOrders = true by kernel_rfl)
  have t72 := Tryd.underlying55; have a72 := Tryd.isAgg55; have z72 := Tryd.sizeOf55; have v72 := Tryd.zeroValue55; have u72 := run_underlying Tryd.underlying55
  have t70 := Tryd.underlying53; have a70 := Tryd.isAgg53; have z70 := Tryd.sizeOf53; have v70 := Tryd.zeroValue53; have u70 := run_underlying Tryd.underlying53
  have t9 := Tryd.underlying9; have a9 := Tryd.isAgg9; have z9 := Tryd.sizeOf9; have v9 := Tryd.zeroValue9; have u9 := run_underlying Tryd.underlying9
  have t4 := Tryd.underlying4; have a4 := Tryd.isAgg4; have z4 := Tryd.sizeOf4; have v4 := Tryd.zeroValue4; have u4 := run_underlying Tryd.underlying4
  have t164 := Tryd.underlying70; have a164 := Tryd.isAgg70; have z164 := Tryd.sizeOf70; have v164 := Tryd.zeroValue70; have u164 := run_underlying Tryd.underlying70
  go_enter Tryd.func43, Tryd.ntmps43
  go_wp2
  rw [Lib.run_to_unsafe w ⟨b, 0, none⟩ Tryd.underlying53 Tryd.underlying70 hj (by rw [hjs]; decide) hsh (Nat.zero_lt_succ 1)]
  simp only [Result.andThen]
  rw [Oper.upon_value]
  go_wp2
  rw [run_callFunc_extern Tryd.func51 (by kernel_rfl) (by kernel_rfl) (by kernel_rfl) (e := Extern.AbiNoEscape.same) (by kernel_rfl)]
  rw [Lib.run_noEscape]
  simp only [Result.andThen]
  rw [Oper.upon_value]
  go_wp2
  rw [Lib.run_from_unsafe w ⟨b, 0, none⟩ Tryd.underlying70 Tryd.underlying53 hj hsh (by kernel_rfl)]
  simp only [Result.andThen]
  rw [Oper.upon_value]
  go_wp2
  go_end0
  exact ⟨rfl, rfl⟩

theorem Tryd.Builder_copyCheck (B b : Nat) (bs : List Value) (w : World) (h : Lib.IsBuilder 55 5 B b bs w) :
    Calls Tryd.prog 43 #[.pointer (some ⟨b, 0, none⟩)] w fun e w' => e = .returned (.tuple #[]) ∧ (Lib.BuilderAt 55 5 B b (.pointer (some ⟨b, 0, none⟩)) bs w' ∧ Below B w w') := by
  rcases h with h | h
  · refine (Tryd.Builder_copyCheck_fresh b w h.cell0 h.shape h.frozen0).mono ?_
    rintro e w' ⟨rfl, rfl⟩
    exact ⟨rfl, h.used _, (Below.refl B w).setCell (p := ⟨b, 0, none⟩) h.1 _⟩
  · refine (Tryd.Builder_copyCheck_used b w h.cell0).mono ?_
    rintro e w' ⟨rfl, rfl⟩
    exact ⟨rfl, h, Below.refl B _⟩

set_option maxHeartbeats 2000000 in
set_option maxRecDepth 100000 in
theorem Tryd.Builder_WriteByte (B b : Nat) (bs : List Value) (c : Int) (w : World) (h : Lib.IsBuilder 55 5 B b bs w) (hlen : bs.length + 1 ≤ 140737488355328) (hBw : B ≤ w.heap.size) :
    Calls Tryd.prog 35 #[.pointer (some ⟨b, 0, none⟩), .int .u8 c] w fun e w' => e = .returned .nilIface ∧ (Lib.BuilderAt 55 5 B b (.pointer (some ⟨b, 0, none⟩)) (bs ++ [.int .u8 c]) w' ∧ Below B w w') := by
  obtain ⟨i0, hi, hz0, hz1, hz2⟩ := info_parts (show (Tryd.prog.info? 5).map (fun i => (i.zero, i.size, i.bytes)) = some (some (.int .u8 0), 1, 1) by kernel_rfl)
  have mixed := (show Tryd.prog.follows .mixedOrders = true by kernel_rfl)
  have t72 := Tryd.underlying55; have a72 := Tryd.isAgg55; have z72 := Tryd.sizeOf55; have v72 := Tryd.zeroValue55; have u72 := run_underlying Tryd.underlying55
  have t70 := Tryd.underlying53; have a70 := Tryd.isAgg53; have z70 := Tryd.sizeOf53; have v70 := Tryd.zeroValue53; have u70 := run_underlying Tryd.underlying53
  have t5 := Tryd.underlying5; have a5 := Tryd.isAgg5; have z5 := Tryd.sizeOf5; have v5 := Tryd.zeroValue5; have u5 := run_underlying Tryd.underlying5
  have t37 := Tryd.underlying35; have a37 := Tryd.isAgg35; have z37 := Tryd.sizeOf35; have v37 := Tryd.zeroValue35; have u37 := run_underlying Tryd.underlying35
  have t9 := Tryd.underlying9; have a9 := Tryd.isAgg9; have z9 := Tryd.sizeOf9; have v9 := Tryd.zeroValue9; have u9 := run_underlying Tryd.underlying9
  have t4 := Tryd.underlying4; have a4 := Tryd.isAgg4; have z4 := Tryd.sizeOf4; have v4 := Tryd.zeroValue4; have u4 := run_underlying Tryd.underlying4
  have t164 := Tryd.underlying70; have a164 := Tryd.isAgg70; have z164 := Tryd.sizeOf70; have v164 := Tryd.zeroValue70; have u164 := run_underlying Tryd.underlying70
  have e240 : ∀ args w, (callFunc 43 args).run Tryd.prog w = .ok (.enter 43 args) w := enters_of Tryd.func43 (by kernel_rfl) rfl
  go_enter Tryd.func35, Tryd.ntmps35
  go_wp2_with (go_at_fn 43; refine (Tryd.Builder_copyCheck  B b bs _ h).mono ?_)
  rintro e w1 ⟨rfl, h1, hb1⟩
  obtain ⟨hB, v, hbk, hown, hne⟩ := h1
  have c0 : w1.cell? ⟨b, 0, none⟩ = some (.pointer (some ⟨b, 0, none⟩)) := by rw [Lib.cell_of_heap hbk]; rfl
  have c1 : w1.cell? ⟨b, 1, none⟩ = some v := by rw [Lib.cell_of_heap hbk]; rfl
  go_wp2_with (at_builtin; refine wpList_append_own _ rfl _ _ 35 rfl B 5 i0 (.int .u8 0) 1 1 Tryd.underlying35 hi hz0 hz1 hz2 rfl (by decide) _ _ _ rfl (hown.alloc _) ⟨w1.heap.size, 0, none⟩ 1 1 [.int .u8 c] rfl rfl ?c1 ?c2 ?c3 ?c4 ?c5 ?_)
  case c1 =>
    intro j u hj
    match j, hj with
    | 0, hj => simp at hj; subst hj; simp [Addr.add]
  case c2 => intro u hu; simp at hu; subst hu; rfl
  case c3 => unfold maxLen; omega
  case c4 => omega
  case c5 => have := hb1.size; simp; omega
  intro v' w2 hown' hgrow _
  have hlt : b < w1.heap.size := by
    rcases Nat.lt_or_ge b w1.heap.size with h' | h'
    · exact h'
    · simp [Array.getElem?_eq_none h'] at hbk
  have hb2 : w2.heap[b]? = some (.cells #[.pointer (some ⟨b, 0, none⟩), v] 55 (0, 0)) := by
    rw [hgrow.block b (by simp; omega) (fun e => hne e.symm), Lib.alloc_old w1 _ b hlt]
    exact hbk
  have d0 : w2.cell? ⟨b, 0, none⟩ = some (.pointer (some ⟨b, 0, none⟩)) := by rw [Lib.cell_of_heap hb2]; rfl
  have d1 : w2.cell? ⟨b, 1, none⟩ = some v := by rw [Lib.cell_of_heap hb2]; rfl
  have f1 : w2.frozen? ⟨b, 1, none⟩ = false := Lib.frozen_of_heap hb2 1
  obtain ⟨g, cap, rfl⟩ : ∃ g cap, v' = .slice (some ⟨g, 0, none⟩) (bs.length + 1) cap := by
    rcases hown'.2 with ⟨_, h0⟩ | ⟨g, cap, cur, hv, _⟩
    · omega
    · exact ⟨g, cap, hv⟩
  go_wp2
  go_ret
  refine ⟨rfl, ?_, ?_⟩
  · exact Lib.BuilderAt.put (T := 55) (e := 5) hB hb2 (bs' := bs ++ [.int .u8 c]) (by simpa using hown') (by decide)
  · exact ((hb1.alloc (by have := hb1.size; omega) _).grown hgrow (by have := hb1.size; simp; omega) (fun k hk => (hown.lt k hk).1)).setCell (p := ⟨b, 1, none⟩) hB _

set_option maxHeartbeats 2000000 in
set_option maxRecDepth 100000 in
theorem Tryd.Builder_WriteString (B b : Nat) (bs : List Value) (s : ByteArray) (w : World) (h : Lib.IsBuilder 55 5 B b bs w) (hlen : bs.length + s.size ≤ 140737488355328) (hBw : B ≤ w.heap.size) :
    Calls Tryd.prog 33 #[.pointer (some ⟨b, 0, none⟩), .string s] w fun e w' => e = .returned (.tuple #[.int .i64 s.size, .nilIface]) ∧ (Lib.BuilderAt 55 5 B b (.pointer (some ⟨b, 0, none⟩)) (bs ++ Lib.strCells s) w' ∧ Below B w w') := by
  obtain ⟨i0, hi, hz0, hz1, hz2⟩ := info_parts (show (Tryd.prog.info? 5).map (fun i => (i.zero, i.size, i.bytes)) = some (some (.int .u8 0), 1, 1) by kernel_rfl)
  have mixed := (show Tryd.prog.follows .mixedOrders = true by kernel_rfl)
  have t72 := Tryd.underlying55; have a72 := Tryd.isAgg55; have z72 := Tryd.sizeOf55; have v72 := Tryd.zeroValue55; have u72 := run_underlying Tryd.underlying55
  have t70 := Tryd.underlying53; have a70 := Tryd.isAgg53; have z70 := Tryd.sizeOf53; have v70 := Tryd.zeroValue53; have u70 := run_underlying Tryd.underlying53
  have t37 := Tryd.underlying35; have a37 := Tryd.isAgg35; have z37 := Tryd.sizeOf35; have v37 := Tryd.zeroValue35; have u37 := run_underlying Tryd.underlying35
  have t3 := Tryd.underlying3; have a3 := Tryd.isAgg3; have z3 := Tryd.sizeOf3; have v3 := Tryd.zeroValue3; have u3 := run_underlying Tryd.underlying3
  have t9 := Tryd.underlying9; have a9 := Tryd.isAgg9; have z9 := Tryd.sizeOf9; have v9 := Tryd.zeroValue9; have u9 := run_underlying Tryd.underlying9
  have t4 := Tryd.underlying4; have a4 := Tryd.isAgg4; have z4 := Tryd.sizeOf4; have v4 := Tryd.zeroValue4; have u4 := run_underlying Tryd.underlying4
  have t164 := Tryd.underlying70; have a164 := Tryd.isAgg70; have z164 := Tryd.sizeOf70; have v164 := Tryd.zeroValue70; have u164 := run_underlying Tryd.underlying70
  have t5 := Tryd.underlying5; have a5 := Tryd.isAgg5; have z5 := Tryd.sizeOf5; have v5 := Tryd.zeroValue5; have u5 := run_underlying Tryd.underlying5
  have e240 : ∀ args w, (callFunc 43 args).run Tryd.prog w = .ok (.enter 43 args) w := enters_of Tryd.func43 (by kernel_rfl) rfl
  go_enter Tryd.func33, Tryd.ntmps33
  go_wp2_with (go_at_fn 43; refine (Tryd.Builder_copyCheck  B b bs _ h).mono ?_)
  rintro e w1 ⟨rfl, h1, hb1⟩
  obtain ⟨hB, v, hbk, hown, hne⟩ := h1
  have c0 : w1.cell? ⟨b, 0, none⟩ = some (.pointer (some ⟨b, 0, none⟩)) := by rw [Lib.cell_of_heap hbk]; rfl
  have c1 : w1.cell? ⟨b, 1, none⟩ = some v := by rw [Lib.cell_of_heap hbk]; rfl
  go_wp2_with (at_builtin; refine Lib.wpList_append_own_string _ rfl _ _ 35 9 rfl B 5 i0 Tryd.underlying35 Tryd.underlying9 hi hz0 hz1 hz2 _ _ _ rfl hown s rfl ?c3 ?c4 ?c5 ?_)
  case c3 => unfold maxLen; omega
  case c4 => omega
  case c5 => have := hb1.size; omega
  intro v' w2 hown' hgrow _
  have hlt : b < w1.heap.size := by
    rcases Nat.lt_or_ge b w1.heap.size with h' | h'
    · exact h'
    · simp [Array.getElem?_eq_none h'] at hbk
  have hb2 : w2.heap[b]? = some (.cells #[.pointer (some ⟨b, 0, none⟩), v] 55 (0, 0)) := by
    rw [hgrow.block b hlt (fun e => hne e.symm)]
    exact hbk
  have d0 : w2.cell? ⟨b, 0, none⟩ = some (.pointer (some ⟨b, 0, none⟩)) := by rw [Lib.cell_of_heap hb2]; rfl
  have d1 : w2.cell? ⟨b, 1, none⟩ = some v := by rw [Lib.cell_of_heap hb2]; rfl
  have f1 : w2.frozen? ⟨b, 1, none⟩ = false := Lib.frozen_of_heap hb2 1
  obtain ⟨ao, n', cap, rfl⟩ : ∃ ao n' cap, v' = .slice ao n' cap := by
    rcases hown'.2 with ⟨hv, _⟩ | ⟨g, cap, cur, hv, _⟩
    · exact ⟨_, _, _, hv⟩
    · exact ⟨_, _, _, hv⟩
  go_wp2
  go_ret2
  refine ⟨rfl, ?_, ?_⟩
  · exact Lib.BuilderAt.put (T := 55) (e := 5) hB hb2 (bs' := bs ++ Lib.strCells s) (by simpa [Lib.strCells_length] using hown') (by decide)
  · exact (hb1.grown hgrow (by have := hb1.size; omega) (fun k hk => (hown.lt k hk).1)).setCell (p := ⟨b, 1, none⟩) hB _

set_option maxHeartbeats 1000000 in
set_option maxRecDepth 100000 in
theorem Tryd.Builder_String (B b : Nat) (l : List UInt8) (w : World) (h : Lib.IsBuilder 55 5 B b (Lib.byteCells l) w) (h0 : l ≠ []) :
    Calls Tryd.prog 34 #[.pointer (some ⟨b, 0, none⟩)] w fun e w' => e = .returned (.string ⟨l.toArray⟩) ∧ Below B w w' := by
  obtain ⟨p, hB, v, hbk, hown, hne⟩ : ∃ p, Lib.BuilderAt 55 5 B b p (Lib.byteCells l) w := by
    rcases h with h | h
    · exact ⟨_, h⟩
    · exact ⟨_, h⟩
  have hl0 : l.length ≠ 0 := by simpa using h0
  rw [Lib.byteCells_length] at hown
  obtain ⟨g, cap, cur, rfl, hbg, hg, hnc, hcm, hcs, htake⟩ : ∃ g cap cur, v = .slice (some ⟨g, 0, none⟩) l.length cap ∧ B ≤ g ∧ w.heap[g]? = some (.cells cur 5 (0, 0)) ∧ l.length ≤ cap ∧ cap ≤ maxLen ∧ cur.size = cap * 1 ∧ cur.toList.take (l.length * 1) = Lib.byteCells l := by
    rcases hown.2 with ⟨_, hz⟩ | ⟨g, cap, cur, hv, r⟩
    · exact absurd hz hl0
    · exact ⟨g, cap, cur, hv, r⟩
  have c1 : w.drew.cell? ⟨b, 1, none⟩ = some (.slice (some ⟨g, 0, none⟩) l.length cap) := by
    have : w.drew.heap[b]? = some (.cells #[p, .slice (some ⟨g, 0, none⟩) l.length cap] 55 (0, 0)) := hbk
    rw [Lib.cell_of_heap this]; rfl
  have hSD : (Builtin.unsafeSliceData_ #[35] 68 #[.slice (some ⟨g, 0, none⟩) l.length cap]).run Tryd.prog w.drew = .ok (.pointer (some ⟨g, 0, none⟩)) w.drew :=
    Lib.run_unsafeSliceData_row _ _ _ _ _ _ (by omega)
  have hUS : (Builtin.unsafeString_ #[68, 3] 9 #[.pointer (some ⟨g, 0, none⟩), .int .i64 l.length]).run Tryd.prog w.drew = .ok (.string ⟨l.toArray⟩) (w.drew.freeze ⟨g, 0, none⟩ l.length) := by
    refine Lib.run_unsafeString_row w.drew 68 3 9 5 Tryd.underlying68 (show Tryd.prog.cellsOf 5 = 1 by kernel_rfl) g cur.size (by have hg' : w.drew.heap[g]? = some (.cells cur 5 (0, 0)) := hg; simp [World.shape?, hg']) l h0 (by omega) (by unfold maxLen at hcm; omega) ?_
    intro j x hx
    have := hown.cells (g := g) rfl j (.int .u8 x.toNat) (by simp [Lib.byteCells, hx])
    exact this
  have mixed := (show Tryd.prog.follows .mixedOrders = true by kernel_rfl)
  have t72 := Tryd.underlying55; have a72 := Tryd.isAgg55; have z72 := Tryd.sizeOf55; have v72 := Tryd.zeroValue55; have u72 := run_underlying Tryd.underlying55
  have t70 := Tryd.underlying53; have a70 := Tryd.isAgg53; have z70 := Tryd.sizeOf53; have v70 := Tryd.zeroValue53; have u70 := run_underlying Tryd.underlying53
  have t37 := Tryd.underlying35; have a37 := Tryd.isAgg35; have z37 := Tryd.sizeOf35; have v37 := Tryd.zeroValue35; have u37 := run_underlying Tryd.underlying35
  have t127 := Tryd.underlying68; have a127 := Tryd.isAgg68; have z127 := Tryd.sizeOf68; have v127 := Tryd.zeroValue68; have u127 := run_underlying Tryd.underlying68
  have t3 := Tryd.underlying3; have a3 := Tryd.isAgg3; have z3 := Tryd.sizeOf3; have v3 := Tryd.zeroValue3; have u3 := run_underlying Tryd.underlying3
  have t9 := Tryd.underlying9; have a9 := Tryd.isAgg9; have z9 := Tryd.sizeOf9; have v9 := Tryd.zeroValue9; have u9 := run_underlying Tryd.underlying9
  have t5 := Tryd.underlying5; have a5 := Tryd.isAgg5; have z5 := Tryd.sizeOf5; have v5 := Tryd.zeroValue5; have u5 := run_underlying Tryd.underlying5
  go_enter Tryd.func34, Tryd.ntmps34
  go_wp2
  go_region_o
  all_goals (go_wp2; go_ret; exact ⟨rfl, Lib.below_freeze (Below.drew (Below.refl B w)) (p := ⟨g, 0, none⟩) hbg _⟩)

theorem Tryd.unsafeString_none (W : World) (q : Option Addr) : (Builtin.unsafeString_ #[68, 3] 9 #[.pointer q, .int .i64 0]).run Tryd.prog W = .ok (.string .empty) W :=
  Lib.run_unsafeString_none W _ _ _ q

set_option maxHeartbeats 2000000 in
set_option maxRecDepth 100000 in
theorem Tryd.Builder_String_nil (B b : Nat) (p : Value) (w : World) (hbk : w.heap[b]? = some (.cells #[p, .slice none 0 0] 55 (0, 0))) :
    Calls Tryd.prog 34 #[.pointer (some ⟨b, 0, none⟩)] w fun e w' => e = .returned (.string ⟨#[]⟩) ∧ Below B w w' := by
  have hUS := Tryd.unsafeString_none
  have c1 : w.drew.cell? ⟨b, 1, none⟩ = some (.slice none 0 0) := by
    have : w.drew.heap[b]? = some (.cells #[p, .slice none 0 0] 55 (0, 0)) := hbk
    rw [Lib.cell_of_heap this]; rfl
  have hSD : (Builtin.unsafeSliceData_ #[35] 68 #[.slice none 0 0]).run Tryd.prog w.drew = .ok (.pointer none) w.drew := rfl
  have mixed := (show Tryd.prog.follows .mixedOrders = true by kernel_rfl)
  have t72 := Tryd.underlying55; have a72 := Tryd.isAgg55; have z72 := Tryd.sizeOf55; have v72 := Tryd.zeroValue55; have u72 := run_underlying Tryd.underlying55
  have t70 := Tryd.underlying53; have a70 := Tryd.isAgg53; have z70 := Tryd.sizeOf53; have v70 := Tryd.zeroValue53; have u70 := run_underlying Tryd.underlying53
  have t37 := Tryd.underlying35; have a37 := Tryd.isAgg35; have z37 := Tryd.sizeOf35; have v37 := Tryd.zeroValue35; have u37 := run_underlying Tryd.underlying35
  have t127 := Tryd.underlying68; have a127 := Tryd.isAgg68; have z127 := Tryd.sizeOf68; have v127 := Tryd.zeroValue68; have u127 := run_underlying Tryd.underlying68
  have t3 := Tryd.underlying3; have a3 := Tryd.isAgg3; have z3 := Tryd.sizeOf3; have v3 := Tryd.zeroValue3; have u3 := run_underlying Tryd.underlying3
  have t9 := Tryd.underlying9; have a9 := Tryd.isAgg9; have z9 := Tryd.sizeOf9; have v9 := Tryd.zeroValue9; have u9 := run_underlying Tryd.underlying9
  have t5 := Tryd.underlying5; have a5 := Tryd.isAgg5; have z5 := Tryd.sizeOf5; have v5 := Tryd.zeroValue5; have u5 := run_underlying Tryd.underlying5
  go_enter Tryd.func34, Tryd.ntmps34
  go_wp2
  go_region_o
  all_goals (go_wp2; go_ret; exact ⟨rfl, Below.drew (Below.refl B w)⟩)

set_option maxHeartbeats 2000000 in
set_option maxRecDepth 100000 in
theorem Tryd.Builder_String_noroom (B b g : Nat) (p : Value) (cur : Array Value) (w : World) (hBw : B ≤ w.heap.size) (hbk : w.heap[b]? = some (.cells #[p, .slice (some ⟨g, 0, none⟩) 0 0] 55 (0, 0))) (hg : w.heap[g]? = some (.cells cur 5 (0, 0))) :
    Calls Tryd.prog 34 #[.pointer (some ⟨b, 0, none⟩)] w fun e w' => e = .returned (.string ⟨#[]⟩) ∧ Below B w w' := by
  have hUS := Tryd.unsafeString_none
  have hlt : b < w.heap.size := by
    rcases Nat.lt_or_ge b w.heap.size with h' | h'
    · exact h'
    · simp [Array.getElem?_eq_none h'] at hbk
  have c1 : w.drew.cell? ⟨b, 1, none⟩ = some (.slice (some ⟨g, 0, none⟩) 0 0) := by
    have : w.drew.heap[b]? = some (.cells #[p, .slice (some ⟨g, 0, none⟩) 0 0] 55 (0, 0)) := hbk
    rw [Lib.cell_of_heap this]; rfl
  have hSD : (Builtin.unsafeSliceData_ #[35] 68 #[.slice (some ⟨g, 0, none⟩) 0 0]).run Tryd.prog w.drew = .ok (.pointer (some ⟨w.drew.heap.size, 0, none⟩)) (w.drew.alloc (.view ⟨g, 0, none⟩ 5)) :=
    Lib.run_unsafeSliceData_zero w.drew _ _ 5 Tryd.underlying68 ⟨g, 0, none⟩ 0 (5, cur.size) (by have hg' : w.drew.heap[g]? = some (.cells cur 5 (0, 0)) := hg; simp [World.shape?, hg'])
  have c2 : (w.drew.alloc (.view ⟨g, 0, none⟩ 5)).cell? ⟨b, 1, none⟩ = some (.slice (some ⟨g, 0, none⟩) 0 0) := by
    have : (w.drew.alloc (.view ⟨g, 0, none⟩ 5)).heap[b]? = _ := (Lib.alloc_old w.drew _ b hlt).trans hbk
    rw [Lib.cell_of_heap this]; rfl
  -- (the same fact as the how-to's newer walk spells the world; and of w itself, to which the elder walk comes down)
  have c3 : (w.alloc (.view ⟨g, 0, none⟩ 5)).drew.cell? ⟨b, 1, none⟩ = some (.slice (some ⟨g, 0, none⟩) 0 0) := c2
  have c0 : w.cell? ⟨b, 1, none⟩ = some (.slice (some ⟨g, 0, none⟩) 0 0) := c1
  have mixed := (show Tryd.prog.follows .mixedOrders = true by kernel_rfl)
  have t72 := Tryd.underlying55; have a72 := Tryd.isAgg55; have z72 := Tryd.sizeOf55; have v72 := Tryd.zeroValue55; have u72 := run_underlying Tryd.underlying55
  have t70 := Tryd.underlying53; have a70 := Tryd.isAgg53; have z70 := Tryd.sizeOf53; have v70 := Tryd.zeroValue53; have u70 := run_underlying Tryd.underlying53
  have t37 := Tryd.underlying35; have a37 := Tryd.isAgg35; have z37 := Tryd.sizeOf35; have v37 := Tryd.zeroValue35; have u37 := run_underlying Tryd.underlying35
  have t127 := Tryd.underlying68; have a127 := Tryd.isAgg68; have z127 := Tryd.sizeOf68; have v127 := Tryd.zeroValue68; have u127 := run_underlying Tryd.underlying68
  have t3 := Tryd.underlying3; have a3 := Tryd.isAgg3; have z3 := Tryd.sizeOf3; have v3 := Tryd.zeroValue3; have u3 := run_underlying Tryd.underlying3
  have t9 := Tryd.underlying9; have a9 := Tryd.isAgg9; have z9 := Tryd.sizeOf9; have v9 := Tryd.zeroValue9; have u9 := run_underlying Tryd.underlying9
  have t5 := Tryd.underlying5; have a5 := Tryd.isAgg5; have z5 := Tryd.sizeOf5; have v5 := Tryd.zeroValue5; have u5 := run_underlying Tryd.underlying5
  go_enter Tryd.func34, Tryd.ntmps34
  go_wp2
  go_region_o
  all_goals (go_wp2; go_ret; exact ⟨rfl, (Below.drew (Below.refl B w)).alloc hBw _⟩)

set_option maxHeartbeats 2000000 in
set_option maxRecDepth 100000 in
theorem Tryd.Builder_String_room (B b g cap : Nat) (p : Value) (w : World) (hc0 : cap ≠ 0) (hbk : w.heap[b]? = some (.cells #[p, .slice (some ⟨g, 0, none⟩) 0 cap] 55 (0, 0))) :
    Calls Tryd.prog 34 #[.pointer (some ⟨b, 0, none⟩)] w fun e w' => e = .returned (.string ⟨#[]⟩) ∧ Below B w w' := by
  have hUS := Tryd.unsafeString_none
  have c1 : w.drew.cell? ⟨b, 1, none⟩ = some (.slice (some ⟨g, 0, none⟩) 0 cap) := by
    have : w.drew.heap[b]? = some (.cells #[p, .slice (some ⟨g, 0, none⟩) 0 cap] 55 (0, 0)) := hbk
    rw [Lib.cell_of_heap this]; rfl
  have hSD : (Builtin.unsafeSliceData_ #[35] 68 #[.slice (some ⟨g, 0, none⟩) 0 cap]).run Tryd.prog w.drew = .ok (.pointer (some ⟨g, 0, none⟩)) w.drew :=
    Lib.run_unsafeSliceData_row _ _ _ _ _ _ hc0
  clear hc0
  have mixed := (show Tryd.prog.follows .mixedOrders = true by kernel_rfl)
  have t72 := Tryd.underlying55; have a72 := Tryd.isAgg55; have z72 := Tryd.sizeOf55; have v72 := Tryd.zeroValue55; have u72 := run_underlying Tryd.underlying55
  have t70 := Tryd.underlying53; have a70 := Tryd.isAgg53; have z70 := Tryd.sizeOf53; have v70 := Tryd.zeroValue53; have u70 := run_underlying Tryd.underlying53
  have t37 := Tryd.underlying35; have a37 := Tryd.isAgg35; have z37 := Tryd.sizeOf35; have v37 := Tryd.zeroValue35; have u37 := run_underlying Tryd.underlying35
  have t127 := Tryd.underlying68; have a127 := Tryd.isAgg68; have z127 := Tryd.sizeOf68; have v127 := Tryd.zeroValue68; have u127 := run_underlying Tryd.underlying68
  have t3 := Tryd.underlying3; have a3 := Tryd.isAgg3; have z3 := Tryd.sizeOf3; have v3 := Tryd.zeroValue3; have u3 := run_underlying Tryd.underlying3
  have t9 := Tryd.underlying9; have a9 := Tryd.isAgg9; have z9 := Tryd.sizeOf9; have v9 := Tryd.zeroValue9; have u9 := run_underlying Tryd.underlying9
  have t5 := Tryd.underlying5; have a5 := Tryd.isAgg5; have z5 := Tryd.sizeOf5; have v5 := Tryd.zeroValue5; have u5 := run_underlying Tryd.underlying5
  go_enter Tryd.func34, Tryd.ntmps34
  go_wp2
  go_region_o
  all_goals (go_wp2; go_ret; exact ⟨rfl, Below.drew (Below.refl B w)⟩)

theorem Tryd.Builder_String_empty (B b : Nat) (w : World) (h : Lib.IsBuilder 55 5 B b [] w) (hBw : B ≤ w.heap.size) :
    Calls Tryd.prog 34 #[.pointer (some ⟨b, 0, none⟩)] w fun e w' => e = .returned (.string ⟨#[]⟩) ∧ Below B w w' := by
  obtain ⟨p, hB, v, hbk, hown, hne⟩ : ∃ p, Lib.BuilderAt 55 5 B b p [] w := by
    rcases h with h | h
    · exact ⟨_, h⟩
    · exact ⟨_, h⟩
  rcases hown.2 with ⟨rfl, _⟩ | ⟨g, cap, cur, rfl, hbg, hg, _, _, _, _⟩
  · exact Tryd.Builder_String_nil B b p w hbk
  · by_cases hc0 : cap = 0
    · subst hc0
      exact Tryd.Builder_String_noroom B b g p cur w hBw hbk hg
    · exact Tryd.Builder_String_room B b g cap p w hc0 hbk

theorem Tryd.Builder_String_any (B b : Nat) (l : List UInt8) (w : World) (h : Lib.IsBuilder 55 5 B b (Lib.byteCells l) w) (hBw : B ≤ w.heap.size) :
    Calls Tryd.prog 34 #[.pointer (some ⟨b, 0, none⟩)] w fun e w' => e = .returned (.string ⟨l.toArray⟩) ∧ Below B w w' := by
  cases l with
  | nil => exact Tryd.Builder_String_empty B b w h hBw
  | cons x r => exact Tryd.Builder_String B b (x :: r) w h (by simp)

set_option maxHeartbeats 2000000 in
set_option maxRecDepth 1000000 in
theorem Tryd.Builder_grow_fresh (B b n : Nat) (w : World) (hB : B ≤ b) (hbk : w.heap[b]? = some (.cells #[.pointer (some ⟨b, 0, none⟩), .slice none 0 0] 55 (0, 0))) (hBw : B ≤ w.heap.size) (hn : n ≤ 281474976710656) :
    Calls Tryd.prog 47 #[.pointer (some ⟨b, 0, none⟩), .int .i64 n] w fun e w' => e = .returned (.tuple #[]) ∧ (Lib.BuilderAt 55 5 B b (.pointer (some ⟨b, 0, none⟩)) [] w' ∧ Below B w w') := by
  obtain ⟨cs, hrun, hle, hmax⟩ := Lib.run_makeNoZero (P := Tryd.prog) w.drew #[3] 35 5 Tryd.underlying35 n hn
  have hw : IntKind.i64.wrap (IntKind.i64.wrap 0 + (n : Int)) = n := by
    rw [IntKind.wrap_i64, IntKind.wrap_i64]
    omega
  have hcall : (callFunc 52 #[.int .i64 (IntKind.i64.wrap (IntKind.i64.wrap 0 + (n : Int)))]).run Tryd.prog w.drew = .ok (.value (.slice (some ⟨w.drew.heap.size, 0, none⟩) n cs.size)) (w.drew.drew.drew.alloc (.cells cs 5)) := by
    rw [hw, run_callFunc_extern Tryd.func52 (by kernel_rfl) (by kernel_rfl) (by kernel_rfl) (e := Extern.BytealgMakeNoZero.makeNoZero #[3] #[35]) (by kernel_rfl), hrun]
    rfl
  have c1 : w.drew.cell? ⟨b, 1, none⟩ = some (.slice none 0 0) := by
    have : w.drew.heap[b]? = _ := hbk
    rw [Lib.cell_of_heap this]; rfl
  have c2 : (w.alloc (.cells cs 5)).cell? ⟨b, 1, none⟩ = some (.slice none 0 0) := by
    have hlt : b < w.heap.size := by
      rcases Nat.lt_or_ge b w.heap.size with h' | h'
      · exact h'
      · simp [Array.getElem?_eq_none h'] at hbk
    have : (w.alloc (.cells cs 5)).heap[b]? = _ := (Lib.alloc_old w _ b hlt).trans hbk
    rw [Lib.cell_of_heap this]; rfl
  have f2 : (w.alloc (.cells cs 5)).frozen? ⟨b, 1, none⟩ = false := by
    have hlt : b < w.heap.size := by
      rcases Nat.lt_or_ge b w.heap.size with h' | h'
      · exact h'
      · simp [Array.getElem?_eq_none h'] at hbk
    exact Lib.frozen_of_heap ((Lib.alloc_old w _ b hlt).trans hbk) 1
  have hcopy : ∀ W : World, (Builtin.copy_ #[35, 35] 3 #[.slice (some ⟨w.heap.size, 0, none⟩) 0 cs.size, .slice none 0 0]).run Tryd.prog W = .ok (goInt 0) W :=
    fun W => run_copy_none W 35 35 3 5 _ _ 0 cs.size 0 0 Tryd.underlying35 (show (Tryd.prog.info? 5).map (·.size) = some 1 by kernel_rfl) rfl
  clear hw
  have mixed := (show Tryd.prog.follows .mixedOrders = true by kernel_rfl)
  have t72 := Tryd.underlying55; have a72 := Tryd.isAgg55; have z72 := Tryd.sizeOf55; have v72 := Tryd.zeroValue55; have u72 := run_underlying Tryd.underlying55
  have t70 := Tryd.underlying53; have a70 := Tryd.isAgg53; have z70 := Tryd.sizeOf53; have v70 := Tryd.zeroValue53; have u70 := run_underlying Tryd.underlying53
  have t37 := Tryd.underlying35; have a37 := Tryd.isAgg35; have z37 := Tryd.sizeOf35; have v37 := Tryd.zeroValue35; have u37 := run_underlying Tryd.underlying35
  have t3 := Tryd.underlying3; have a3 := Tryd.isAgg3; have z3 := Tryd.sizeOf3; have v3 := Tryd.zeroValue3; have u3 := run_underlying Tryd.underlying3
  have t5 := Tryd.underlying5; have a5 := Tryd.isAgg5; have z5 := Tryd.sizeOf5; have v5 := Tryd.zeroValue5; have u5 := run_underlying Tryd.underlying5
  go_enter Tryd.func47, Tryd.ntmps47
  go_wp2
  have hfin := Lib.grown_fresh (T := 55) (e := 5) (cs := cs) hB hbk hBw (hmax (by unfold maxLen; omega)) (by decide)
  go_region_o
  all_goals (go_wp2; go_end0; exact ⟨rfl, hfin⟩)

set_option maxHeartbeats 2000000 in
set_option maxRecDepth 1000000 in
theorem Tryd.Builder_Grow_fresh (B b n : Nat) (w : World) (hB : B ≤ b) (hbk : w.heap[b]? = some (.cells #[.pointer none, .slice none 0 0] 55 (0, 0))) (hBw : B ≤ w.heap.size) (hn : n ≤ 281474976710656) :
    Calls Tryd.prog 39 #[.pointer (some ⟨b, 0, none⟩), .int .i64 n] w fun e w' => e = .returned (.tuple #[]) ∧ (Lib.BuilderAt 55 5 B b (.pointer (some ⟨b, 0, none⟩)) [] w' ∧ Below B w w') := by
  have hbk1 : (w.setCell ⟨b, 0, none⟩ (.pointer (some ⟨b, 0, none⟩))).heap[b]? = some (.cells #[.pointer (some ⟨b, 0, none⟩), .slice none 0 0] 55 (0, 0)) := by
    simp [World.setCell, Array.getElem?_modify, hbk]
  have c1 : (w.setCell ⟨b, 0, none⟩ (.pointer (some ⟨b, 0, none⟩))).cell? ⟨b, 1, none⟩ = some (.slice none 0 0) := by rw [Lib.cell_of_heap hbk1]; rfl
  have hb1 : Below B w (w.setCell ⟨b, 0, none⟩ (.pointer (some ⟨b, 0, none⟩))) := (Below.refl B w).setCell (p := ⟨b, 0, none⟩) hB _
  have mixed := (show Tryd.prog.follows .mixedOrders = true by kernel_rfl)
  have t72 := Tryd.underlying55; have a72 := Tryd.isAgg55; have z72 := Tryd.sizeOf55; have v72 := Tryd.zeroValue55; have u72 := run_underlying Tryd.underlying55
  have t70 := Tryd.underlying53; have a70 := Tryd.isAgg53; have z70 := Tryd.sizeOf53; have v70 := Tryd.zeroValue53; have u70 := run_underlying Tryd.underlying53
  have t37 := Tryd.underlying35; have a37 := Tryd.isAgg35; have z37 := Tryd.sizeOf35; have v37 := Tryd.zeroValue35; have u37 := run_underlying Tryd.underlying35
  have t3 := Tryd.underlying3; have a3 := Tryd.isAgg3; have z3 := Tryd.sizeOf3; have v3 := Tryd.zeroValue3; have u3 := run_underlying Tryd.underlying3
  have t9 := Tryd.underlying9; have a9 := Tryd.isAgg9; have z9 := Tryd.sizeOf9; have v9 := Tryd.zeroValue9; have u9 := run_underlying Tryd.underlying9
  have t4 := Tryd.underlying4; have a4 := Tryd.isAgg4; have z4 := Tryd.sizeOf4; have v4 := Tryd.zeroValue4; have u4 := run_underlying Tryd.underlying4
  have t164 := Tryd.underlying70; have a164 := Tryd.isAgg70; have z164 := Tryd.sizeOf70; have v164 := Tryd.zeroValue70; have u164 := run_underlying Tryd.underlying70
  have t5 := Tryd.underlying5; have a5 := Tryd.isAgg5; have z5 := Tryd.sizeOf5; have v5 := Tryd.zeroValue5; have u5 := run_underlying Tryd.underlying5
  have e240 : ∀ args w, (callFunc 43 args).run Tryd.prog w = .ok (.enter 43 args) w := enters_of Tryd.func43 (by kernel_rfl) rfl
  have e241 : ∀ args w, (callFunc 47 args).run Tryd.prog w = .ok (.enter 47 args) w := enters_of Tryd.func47 (by kernel_rfl) rfl
  go_enter Tryd.func39, Tryd.ntmps39
  have hU : Lib.BuilderAt 55 5 B b (.pointer (some ⟨b, 0, none⟩)) [] (w.setCell ⟨b, 0, none⟩ (.pointer (some ⟨b, 0, none⟩))) := ⟨hB, .slice none 0 0, hbk1, World.ownsRow_nil _ _ _ _, by simp [Value.ownBlock]⟩
  have c1' : (w.setCell ⟨b, 0, none⟩ (.pointer (some ⟨b, 0, none⟩))).drew.cell? ⟨b, 1, none⟩ = some (.slice none 0 0) := c1
  go_wp2_with (go_at_fn 43; refine (Tryd.Builder_copyCheck_fresh  b w (by rw [Lib.cell_of_heap hbk]; rfl) (by simp [World.shape?, hbk]) (Lib.frozen_of_heap hbk 0)).mono ?_; rintro e w' ⟨rfl, rfl⟩)
  go_region_o
  all_goals go_wp2_with (go_at_fn 47; refine (Tryd.Builder_grow_fresh  B b n (w.setCell ⟨b, 0, none⟩ (.pointer (some ⟨b, 0, none⟩))).drew hB hbk1 (by simpa [World.setCell, World.drew, -World.drew_eq] using hBw) hn).mono ?_; rintro e w' ⟨rfl, h1, h2⟩)
  all_goals first
    | (go_end0; exact ⟨rfl, h1, hb1.drew.trans h2⟩)
    | (go_end0; exact ⟨rfl, hU.drew, hb1.drew⟩)

set_option maxHeartbeats 1000000 in
set_option maxRecDepth 100000 in
theorem Tryd.strings_Count_one (s : ByteArray) (c : UInt8) (w : World) :
    Calls Tryd.prog 38 #[.string s, .string ⟨#[c]⟩] w fun e w' => e = .returned (.int .i64 (Lib.countByte s.data.toList c)) ∧ w' = w := by
  have t3 := Tryd.underlying3; have t4 := Tryd.underlying4; have t5 := Tryd.underlying5; have t9 := Tryd.underlying9
  have a3 : ∀ w, (isAgg 3).run Tryd.prog w = .ok false w := run_isAgg_plain Tryd.underlying3 rfl; have a4 : ∀ w, (isAgg 4).run Tryd.prog w = .ok false w := run_isAgg_plain Tryd.underlying4 rfl; have a5 : ∀ w, (isAgg 5).run Tryd.prog w = .ok false w := run_isAgg_plain Tryd.underlying5 rfl; have a9 : ∀ w, (isAgg 9).run Tryd.prog w = .ok false w := run_isAgg_plain Tryd.underlying9 rfl
  have mixed := (show Tryd.prog.follows .mixedOrders = true by kernel_rfl); have z3 := Tryd.sizeOf3; have v3 := Tryd.zeroValue3; have z4 := Tryd.sizeOf4; have v4 := Tryd.zeroValue4; have z5 := Tryd.sizeOf5; have v5 := Tryd.zeroValue5; have z9 := Tryd.sizeOf9; have v9 := Tryd.zeroValue9
  go_enter Tryd.func38, Tryd.ntmps38
  go_wp2
  rw [run_callFunc_extern Tryd.func46 (by kernel_rfl) (by kernel_rfl) (by kernel_rfl) (e := Extern.BytealgCount.count) (by kernel_rfl), Lib.run_countString]
  simp only [Result.andThen]
  rw [Oper.upon_value]
  go_wp2
  go_ret
  exact ⟨rfl, rfl⟩

set_option maxHeartbeats 1000000 in
set_option maxRecDepth 100000 in
theorem Tryd.stringslite_IndexByte (s : ByteArray) (c : Int) (w : World) :
    Calls Tryd.prog 42 #[.string s, .int .u8 c] w fun e w' => e = .returned (.int .i64 (Lib.indexByte s.data.toList c.toNat.toUInt8)) ∧ w' = w := by
  have t3 := Tryd.underlying3; have t5 := Tryd.underlying5; have t9 := Tryd.underlying9
  have a3 : ∀ w, (isAgg 3).run Tryd.prog w = .ok false w := run_isAgg_plain Tryd.underlying3 rfl; have a5 : ∀ w, (isAgg 5).run Tryd.prog w = .ok false w := run_isAgg_plain Tryd.underlying5 rfl; have a9 : ∀ w, (isAgg 9).run Tryd.prog w = .ok false w := run_isAgg_plain Tryd.underlying9 rfl
  have mixed := (show Tryd.prog.follows .mixedOrders = true by kernel_rfl); have z3 := Tryd.sizeOf3; have v3 := Tryd.zeroValue3; have z5 := Tryd.sizeOf5; have v5 := Tryd.zeroValue5; have z9 := Tryd.sizeOf9; have v9 := Tryd.zeroValue9
  go_enter Tryd.func42, Tryd.ntmps42
  go_wp2
  rw [run_callFunc_extern Tryd.func50 (by kernel_rfl) (by kernel_rfl) (by kernel_rfl) (e := Extern.BytealgIndexByte.indexByte) (by kernel_rfl), Lib.run_indexByteString]
  simp only [Result.andThen]
  rw [Oper.upon_value]
  go_wp2
  go_ret
  exact ⟨rfl, rfl⟩

set_option maxHeartbeats 2000000 in
set_option maxRecDepth 100000 in
theorem Tryd.stringslite_Index_one (s : ByteArray) (c : UInt8) (w : World) :
    Calls Tryd.prog 48 #[.string s, .string ⟨#[c]⟩] w fun e w' => e = .returned (.int .i64 (Lib.indexByte s.data.toList c)) ∧ w' = w := by
  have t3 := Tryd.underlying3; have t4 := Tryd.underlying4; have t5 := Tryd.underlying5; have t9 := Tryd.underlying9
  have a3 : ∀ w, (isAgg 3).run Tryd.prog w = .ok false w := run_isAgg_plain Tryd.underlying3 rfl; have a4 : ∀ w, (isAgg 4).run Tryd.prog w = .ok false w := run_isAgg_plain Tryd.underlying4 rfl; have a5 : ∀ w, (isAgg 5).run Tryd.prog w = .ok false w := run_isAgg_plain Tryd.underlying5 rfl; have a9 : ∀ w, (isAgg 9).run Tryd.prog w = .ok false w := run_isAgg_plain Tryd.underlying9 rfl
  have e217 : ∀ args w, (callFunc 42 args).run Tryd.prog w = .ok (.enter 42 args) w := enters_of Tryd.func42 (by kernel_rfl) rfl
  have mixed := (show Tryd.prog.follows .mixedOrders = true by kernel_rfl); have z3 := Tryd.sizeOf3; have v3 := Tryd.zeroValue3; have z4 := Tryd.sizeOf4; have v4 := Tryd.zeroValue4; have z5 := Tryd.sizeOf5; have v5 := Tryd.zeroValue5; have z9 := Tryd.sizeOf9; have v9 := Tryd.zeroValue9
  go_enter Tryd.func48, Tryd.ntmps48
  go_wp2_with (go_at_fn 42; refine (Tryd.stringslite_IndexByte  _ _ _).mono ?_; rintro e w' ⟨rfl, rfl⟩)
  · have h : ([c] == s.toList) = true := by assumption
    go_ret
    refine ⟨?_, rfl⟩
    have e : s.data.toList = [c] := by rw [← Lib.toList_data]; exact (beq_iff_eq.1 h).symm
    rw [e]
    simp [Lib.indexByte]
  · go_ret
    exact ⟨rfl, rfl⟩

set_option maxHeartbeats 1000000 in
theorem Tryd.strings_Index_one (s : ByteArray) (c : UInt8) (w : World) :
    Calls Tryd.prog 40 #[.string s, .string ⟨#[c]⟩] w fun e w' => e = .returned (.int .i64 (Lib.indexByte s.data.toList c)) ∧ w' = w := by
  have t3 := Tryd.underlying3; have t9 := Tryd.underlying9
  have a3 : ∀ w, (isAgg 3).run Tryd.prog w = .ok false w := run_isAgg_plain Tryd.underlying3 rfl; have a9 : ∀ w, (isAgg 9).run Tryd.prog w = .ok false w := run_isAgg_plain Tryd.underlying9 rfl
  have e219 : ∀ args w, (callFunc 48 args).run Tryd.prog w = .ok (.enter 48 args) w := enters_of Tryd.func48 (by kernel_rfl) rfl
  have mixed := (show Tryd.prog.follows .mixedOrders = true by kernel_rfl); have z3 := Tryd.sizeOf3; have v3 := Tryd.zeroValue3; have z9 := Tryd.sizeOf9; have v9 := Tryd.zeroValue9
  go_enter Tryd.func40, Tryd.ntmps40
  go_wp2_with (go_at_fn 48; refine (Tryd.stringslite_Index_one  _ _ _).mono ?_; rintro e w' ⟨rfl, rfl⟩)
  go_ret
  exact ⟨rfl, rfl⟩

theorem Tryd.strings_Count_any (s sep : ByteArray) (w : World) (h : sep.size = 1) :
    Calls Tryd.prog 38 #[.string s, .string sep] w fun e w' => e = .returned (.int .i64 (Lib.countB s sep)) ∧ w' = w := by
  obtain ⟨c, rfl⟩ := Lib.one_byte sep h
  refine (Tryd.strings_Count_one s c w).mono fun e w' ⟨he, hw⟩ => ⟨?_, hw⟩
  rw [he]
  show _ = Ending.returned (Value.int .i64 ((Lib.count s.data.toList [c] : Nat) : Int))
  rw [Lib.count_one]
  rfl
theorem Tryd.strings_Index (s sub : ByteArray) (w : World) (h : sub.size = 1) :
    Calls Tryd.prog 40 #[.string s, .string sub] w fun e w' => e = .returned (.int .i64 (Lib.index s.data.toList sub.data.toList)) ∧ w' = w := by
  obtain ⟨c, rfl⟩ := Lib.one_byte sub h
  refine (Tryd.strings_Index_one s c w).mono fun e w' ⟨he, hw⟩ => ⟨?_, hw⟩
  rw [he]
  show _ = Ending.returned (Value.int .i64 (Lib.index s.data.toList [c]))
  rw [Lib.index_one]
end Go.Proofs

namespace Go.Proofs
open Go.RowKit Go.Lib

set_option maxHeartbeats 16000000 in
set_option maxRecDepth 1000000 in
theorem Tryd.strings_Replace_some (s old new : ByteArray) (n : Int) (w : World)
    (h1 : old.size = 1) (hne : old ≠ new) (hn0 : n ≠ 0) (hneg : n < 0) (hc0 : Lib.countB s old ≠ 0)
    (hlen : s.size + Lib.countB s old * new.size ≤ 140737488355328) :
    Calls Tryd.prog 28 #[.string s, .string old, .string new, .int .i64 n] w fun e w' =>
      e = .returned (.string ⟨(Lib.replaceK old.data.toList new.data.toList (Lib.replaceNum s.data.toList old.data.toList n) s.data.toList).toArray⟩) ∧ Below w.heap.size w w' := by
  have hC := Tryd.strings_Count_any s old w h1
  have hmul := Lib.countB_mul_le old (by omega) s.size s (Nat.le_refl _)
  obtain ⟨K, hK⟩ : ∃ K : Nat, Lib.replaceNum s.data.toList old.data.toList n = K := ⟨_, rfl⟩
  rw [hK]
  obtain ⟨cn, hcn⟩ : ∃ cn : Nat, Lib.countB s old = cn := ⟨_, rfl⟩
  rw [hcn] at hC hlen hc0 hmul
  have hcn' : Lib.count s.data.toList old.data.toList = cn := hcn
  have hbeq : (old.toList == new.toList) = false := (Lib.bytes_beq_false_iff old new).2 hne
  have hnz : (n == 0) = false := beq_eq_false_iff_ne.2 hn0
  have hcz : ((cn : Int) == 0) = false := beq_eq_false_iff_ne.2 (by omega)
  have ho0 : (0 : Int) < (old.size : Int) := by omega
  have hlenL : s.data.toList.length = s.size := (Lib.size_eq s).symm
  have hlenO : old.data.toList.length = old.size := (Lib.size_eq old).symm
  -- K, whichever way it is come by
  have hK1 : 1 ≤ K ∧ K ≤ cn ∧ ((n < 0 ∨ (cn : Int) < n) → K = cn) ∧ (¬ (n < 0 ∨ (cn : Int) < n) → n = (K : Int)) := by
    unfold Lib.replaceNum at hK
    rw [hcn'] at hK
    by_cases hcase : n < 0 ∨ (cn : Int) < n
    · rw [if_pos hcase] at hK
      exact ⟨by omega, by omega, fun _ => hK.symm, fun h => absurd hcase h⟩
    · rw [if_neg hcase] at hK
      exact ⟨by omega, by omega, fun h => absurd h hcase, fun _ => by omega⟩
  obtain ⟨hK1, hKc, hKa, hKb⟩ := hK1
  have hKo : K * old.size ≤ s.size := Nat.le_trans (Nat.mul_le_mul_right _ hKc) hmul
  have hKs : K ≤ s.size := Nat.le_trans (Nat.le_mul_of_pos_right K (by omega)) hKo
  have hKn : s.size + K * new.size ≤ 140737488355328 := by have := Nat.mul_le_mul_right new.size hKc; omega
  have hga := Lib.grow_arg s.size K new.size old.size hK1 hKo hKn
  have hKcount : K ≤ Lib.count (s.data.toList.drop 0) old.data.toList := by rw [List.drop_zero, hcn']; exact hKc
  clear hK hcn hcn' hmul hlen
  obtain rfl := hKa (Or.inl hneg)
  clear hKa hKb
  -- (✋ as a Boolean equation, AHEAD of the walk: so that the frame bears 'true' at the loop's head already: else the round's end does not meet the relation's frame: slot 51)
  have HO := Tryd.hidR h1
  clear h1
  have hod : decide (0 < old.size) = true := decide_eq_true (by omega)
  have hcase : n < 0 ∨ (K : Int) < n := Or.inl hneg
  all_goals (
    have mixed := (show Tryd.prog.follows .mixedOrders = true by kernel_rfl)
    have t72 := Tryd.underlying55; have a72 := Tryd.isAgg55; have z72 := Tryd.sizeOf55; have v72 := Tryd.zeroValue55; have u72 := run_underlying Tryd.underlying55
    have t70 := Tryd.underlying53; have a70 := Tryd.isAgg53; have z70 := Tryd.sizeOf53; have v70 := Tryd.zeroValue53; have u70 := run_underlying Tryd.underlying53
    have t37 := Tryd.underlying35; have a37 := Tryd.isAgg35; have z37 := Tryd.sizeOf35; have v37 := Tryd.zeroValue35; have u37 := run_underlying Tryd.underlying35
    have t3 := Tryd.underlying3; have a3 := Tryd.isAgg3; have z3 := Tryd.sizeOf3; have v3 := Tryd.zeroValue3; have u3 := run_underlying Tryd.underlying3
    have t9 := Tryd.underlying9; have a9 := Tryd.isAgg9; have z9 := Tryd.sizeOf9; have v9 := Tryd.zeroValue9; have u9 := run_underlying Tryd.underlying9
    have t4 := Tryd.underlying4; have a4 := Tryd.isAgg4; have z4 := Tryd.sizeOf4; have v4 := Tryd.zeroValue4; have u4 := run_underlying Tryd.underlying4
    have e138 : ∀ args w, (callFunc 38 args).run Tryd.prog w = .ok (.enter 38 args) w := enters_of Tryd.func38 (by kernel_rfl) rfl
    have e143 : ∀ args w, (callFunc 40 args).run Tryd.prog w = .ok (.enter 40 args) w := enters_of Tryd.func40 (by kernel_rfl) rfl
    have e165 : ∀ args w, (callFunc 39 args).run Tryd.prog w = .ok (.enter 39 args) w := enters_of Tryd.func39 (by kernel_rfl) rfl
    have e166 : ∀ args w, (callFunc 33 args).run Tryd.prog w = .ok (.enter 33 args) w := enters_of Tryd.func33 (by kernel_rfl) rfl
    have e169 : ∀ args w, (callFunc 34 args).run Tryd.prog w = .ok (.enter 34 args) w := enters_of Tryd.func34 (by kernel_rfl) rfl
    go_enter Tryd.func28, Tryd.ntmps28
    go_wp2_with (first | (go_at_fn 38; refine hC.mono ?_; rintro e w' ⟨rfl, hw⟩; rw [hw]))
    all_goals (
    clear hC
    try rw [hga]
    refine (Tryd.Builder_Grow_fresh  w.heap.size w.heap.size _ _ (Nat.le_refl _) (heap_alloc_new w _) (by simp) (by omega)).mono ?_
    rintro e w1 ⟨rfl, hb0, hb1⟩
    have H1 := Tryd.hidR (Or.inr hb0 : Lib.IsBuilder 55 5 w.heap.size w.heap.size (Lib.byteCells []) w1)
    have Hb1 := Tryd.hidR (((Below.refl w.heap.size w).alloc (Nat.le_refl _) _).trans hb1)
    clear hb0 hb1 hga
    go_wp2_with fail
    go_loopg [11, 53] K (fun g s11 s53 wx => ∃ (i start : Nat) (acc : List UInt8), s53 = .int .i64 i ∧ s11 = .int .i64 start ∧ i + g = K ∧ start ≤ s.size ∧
      Hid (Lib.IsBuilder 55 5 w.heap.size w.heap.size (Lib.byteCells acc) wx) ∧ Hid (Below w.heap.size w wx) ∧ Hid (acc ++ Lib.replaceK old.data.toList new.data.toList g (s.data.toList.drop start) = Lib.replaceK old.data.toList new.data.toList K s.data.toList) ∧
      g ≤ Lib.count (s.data.toList.drop start) old.data.toList ∧ acc.length + (s.size - start) + g * new.size ≤ s.size + K * new.size)
    case atStart => exact ⟨0, 0, [], rfl, rfl, by omega, Nat.zero_le _, H1, Hb1, Tryd.hidR (by simp), hKcount, by simp⟩
    case round =>
      obtain ⟨i, start, acc, rfl, rfl, hig, hst, HB, HW, HR, hgc, hbd⟩ := hrel
      have hBw : w.heap.size ≤ wr.heap.size := HW.out.size
      have c1 : (0 : Int) ≤ (start : Int) := by omega
      have c2 : (start : Int) ≤ (s.size : Int) := by omega
      cases gk with
      | zero =>
        -- all K are replaced: 'b.WriteString(s[start:]); return b.String()'
        have hiK : ¬ ((i : Int) < (K : Int)) := by omega
        go_wp2_with fail
        refine (Tryd.Builder_WriteString  w.heap.size w.heap.size _ _ wr HB.out (by rw [Lib.byteCells_length, ByteArray.size_extract]; omega) hBw).mono ?_
        rintro e w3 ⟨rfl, h3, hb3⟩
        rw [Lib.strCells_eq, Lib.extract_to_end, ← Lib.byteCells_append] at h3
        have hfin : acc ++ s.data.toList.drop start = Lib.replaceK old.data.toList new.data.toList K s.data.toList := HR.out
        rw [hfin] at h3
        have H3 := Tryd.hidR (Or.inr h3 : Lib.IsBuilder 55 5 w.heap.size w.heap.size _ w3)
        have Hb3 := Tryd.hidR (HW.out.trans hb3)
        have hBw3 : w.heap.size ≤ w3.heap.size := Hb3.out.size
        clear h3 hb3 hfin
        go_wp2_with fail
        refine (Tryd.Builder_String_any  w.heap.size w.heap.size _ w3 H3.out hBw3).mono ?_
        rintro e w5 ⟨rfl, hb5⟩
        have Hb5 := Tryd.hidR (Hb3.out.trans hb5)
        clear hb5
        go_wp2
        go_ret
        exact ⟨rfl, Hb5.out⟩
      | succ g =>
        have hiK : (i : Int) < (K : Int) := by omega
        obtain ⟨j, hj⟩ := Lib.index_of_count (s := s.data.toList.drop start) (old := old.data.toList) (by omega)
        have hroom : j + old.size ≤ s.size - start := by
          have := Lib.index_room (s.data.toList.drop start) old.data.toList (by rw [hj]; omega)
          rw [hj, List.length_drop, hlenL, hlenO] at this
          omega
        have hsucc : (g + 1) * new.size = g * new.size + new.size := Nat.succ_mul _ _
        have c3 : (start : Int) ≤ (start : Int) + (j : Int) := by omega
        have c4 : (start : Int) + (j : Int) ≤ (s.size : Int) := by omega
        have hnext : Lib.byteCells acc ++ Lib.strCells (s.extract start (start + j)) ++ Lib.strCells new = Lib.byteCells (acc ++ (s.data.toList.drop start).take j ++ new.data.toList) := by
          rw [Lib.strCells_eq, Lib.strCells_eq, Lib.extract_data, Nat.add_sub_cancel_left, ← Lib.byteCells_append, ← Lib.byteCells_append]
        have hrep : (acc ++ (s.data.toList.drop start).take j ++ new.data.toList) ++ Lib.replaceK old.data.toList new.data.toList g (s.data.toList.drop (start + j + old.size)) = Lib.replaceK old.data.toList new.data.toList K s.data.toList := by
          rw [← HR.out, Lib.replaceK_hit _ _ g _ j hj, List.drop_drop, hlenO]
          simp only [List.append_assoc, Nat.add_assoc]
        have hcnt : g ≤ Lib.count (s.data.toList.drop (start + j + old.size)) old.data.toList := by
          have := Lib.count_hit (s := s.data.toList.drop start) (sub := old.data.toList) (i := j) (fun e => by rw [e] at hlenO; simp at hlenO; omega) hj
          rw [List.drop_drop, hlenO] at this
          rw [show start + j + old.size = start + (j + old.size) by omega]
          omega
        have htl : ((s.data.toList.drop start).take j).length = j := by rw [List.length_take, List.length_drop, hlenL]; omega
        have Hn := Tryd.hidR hnext
        have Hrep := Tryd.hidR hrep
        clear hnext hrep HR
        go_wp2_with (first | (go_at_fn 40; refine (Tryd.strings_Index _ _ _ HO.out).mono ?_; rintro e w' ⟨rfl, hw⟩; rw [hw, Lib.extract_to_end, hj]))
        refine (Tryd.Builder_WriteString  w.heap.size w.heap.size _ (s.extract start (start + j)) wr HB.out (by rw [Lib.byteCells_length, ByteArray.size_extract]; omega) hBw).mono ?_
        rintro e w3 ⟨rfl, h3, hb3⟩
        have hBw3 : w.heap.size ≤ w3.heap.size := Nat.le_trans hBw hb3.size
        have H3 := Tryd.hidR h3
        have Hb3 := Tryd.hidR hb3
        clear h3 hb3
        go_wp2_with fail
        refine (Tryd.Builder_WriteString  w.heap.size w.heap.size _ new w3 (Or.inr H3.out) (by rw [List.length_append, Lib.byteCells_length, Lib.strCells_length, ByteArray.size_extract]; omega) hBw3).mono ?_
        rintro e w4 ⟨rfl, h4, hb4⟩
        rw [Hn.out] at h4
        have H4 := Tryd.hidR (Or.inr h4 : Lib.IsBuilder 55 5 w.heap.size w.heap.size _ w4)
        have Hb4 := Tryd.hidR ((HW.out.trans Hb3.out).trans hb4)
        clear h4 hb4
        go_wp2
        go_roundg g
        case measure => omega
        case rel => exact ⟨i + 1, start + j + old.size, _, by first | rfl | (simp; unfold wrap64; omega), by first | rfl | simp | (simp; unfold wrap64; omega), by omega, by omega, H4, Hb4, Hrep, hcnt, by simp only [List.length_append, htl, ← Lib.size_eq]; omega⟩))

set_option maxHeartbeats 4000000 in
set_option maxRecDepth 1000000 in
theorem Tryd.strings_Replace_none (s old new : ByteArray) (n : Int) (w : World) (h : old = new ∨ n = 0) :
    Calls Tryd.prog 28 #[.string s, .string old, .string new, .int .i64 n] w fun e w' => e = .returned (.string s) ∧ w' = w := by
  have t3 := Tryd.underlying3; have a3 := Tryd.isAgg3; have z3 := Tryd.sizeOf3; have v3 := Tryd.zeroValue3
  have t9 := Tryd.underlying9; have a9 := Tryd.isAgg9; have z9 := Tryd.sizeOf9; have v9 := Tryd.zeroValue9
  have t4 := Tryd.underlying4; have a4 := Tryd.isAgg4; have z4 := Tryd.sizeOf4; have v4 := Tryd.zeroValue4
  by_cases he : old = new
  · have hbeq : (old.toList == new.toList) = true := (Lib.bytes_beq_iff old new).2 he
    go_enter Tryd.func28, Tryd.ntmps28
    go_wp2
    go_ret
    exact ⟨rfl, rfl⟩
  · have hbeq : (old.toList == new.toList) = false := (Lib.bytes_beq_false_iff old new).2 he
    obtain rfl : n = 0 := h.resolve_left he
    go_enter Tryd.func28, Tryd.ntmps28
    go_wp2
    go_ret
    exact ⟨rfl, rfl⟩

set_option maxHeartbeats 4000000 in
set_option maxRecDepth 1000000 in
theorem Tryd.strings_Replace_absent (s old new : ByteArray) (n : Int) (w : World)
    (h1 : old.size = 1) (hne : old ≠ new) (hn0 : n ≠ 0) (hc0 : Lib.countB s old = 0) :
    Calls Tryd.prog 28 #[.string s, .string old, .string new, .int .i64 n] w fun e w' => e = .returned (.string s) ∧ w' = w := by
  have hC := Tryd.strings_Count_any s old w h1
  rw [hc0] at hC
  have hbeq : (old.toList == new.toList) = false := (Lib.bytes_beq_false_iff old new).2 hne
  have hnz : (n == 0) = false := beq_eq_false_iff_ne.2 hn0
  have t3 := Tryd.underlying3; have a3 := Tryd.isAgg3; have z3 := Tryd.sizeOf3; have v3 := Tryd.zeroValue3
  have t9 := Tryd.underlying9; have a9 := Tryd.isAgg9; have z9 := Tryd.sizeOf9; have v9 := Tryd.zeroValue9
  have t4 := Tryd.underlying4; have a4 := Tryd.isAgg4; have z4 := Tryd.sizeOf4; have v4 := Tryd.zeroValue4
  have e138 : ∀ args w, (callFunc 38 args).run Tryd.prog w = .ok (.enter 38 args) w := enters_of Tryd.func38 (by kernel_rfl) rfl
  go_enter Tryd.func28, Tryd.ntmps28
  go_wp2_with (first | (go_at_fn 38; refine hC.mono ?_; rintro e w' ⟨rfl, hw⟩; rw [hw]))
  go_ret
  exact ⟨rfl, rfl⟩

theorem Tryd.strings_Replace (s old new : ByteArray) (n : Int) (w : World)
    (h1 : old.size = 1) (hneg : n < 0) (hlen : s.size + Lib.countB s old * new.size ≤ 140737488355328) :
    Calls Tryd.prog 28 #[.string s, .string old, .string new, .int .i64 n] w fun e w' =>
      e = .returned (.string ⟨(Lib.replace s.data.toList old.data.toList new.data.toList n).toArray⟩) ∧ Below w.heap.size w w' := by
  by_cases he : old = new
  · refine (Tryd.strings_Replace_none s old new n w (Or.inl he)).mono fun e w' ⟨h1', h2'⟩ => ⟨?_, h2' ▸ Below.refl _ _⟩
    rw [h1', Lib.replace, he, if_pos (by simp), Lib.mk_data]
  have hb : (old.data.toList == new.data.toList) = false := by
    have := (Lib.bytes_beq_false_iff old new).2 he
    rwa [Lib.toList_data, Lib.toList_data] at this
  rw [Lib.replace, if_neg (by rw [hb]; exact Bool.false_ne_true)]
  by_cases hn0 : n = 0
  · refine (Tryd.strings_Replace_none s old new n w (Or.inr hn0)).mono fun e w' ⟨h1', h2'⟩ => ⟨?_, h2' ▸ Below.refl _ _⟩
    have e0 : Lib.replaceNum s.data.toList old.data.toList n = 0 := by
      subst hn0
      unfold Lib.replaceNum
      rw [if_neg (by omega)]
      rfl
    rw [h1', e0, Lib.replaceK, Lib.mk_data]
  by_cases hc0 : Lib.countB s old = 0
  · refine (Tryd.strings_Replace_absent s old new n w h1 he hn0 hc0).mono fun e w' ⟨h1', h2'⟩ => ⟨?_, h2' ▸ Below.refl _ _⟩
    have hc0' : Lib.count s.data.toList old.data.toList = 0 := hc0
    have e0 : Lib.replaceNum s.data.toList old.data.toList n = 0 := by
      unfold Lib.replaceNum
      rw [hc0', if_pos (by omega)]
    rw [h1', e0, Lib.replaceK, Lib.mk_data]
  · exact Tryd.strings_Replace_some s old new n w h1 he hn0 hneg hc0 hlen

set_option maxHeartbeats 1000000 in
theorem Tryd.strings_ReplaceAll (s old new : ByteArray) (w : World)
    (h1 : old.size = 1) (hlen : s.size + Lib.countB s old * new.size ≤ 140737488355328) :
    Calls Tryd.prog 18 #[.string s, .string old, .string new] w fun e w' =>
      e = .returned (.string ⟨(Lib.replaceAll s.data.toList old.data.toList new.data.toList).toArray⟩) ∧ Below w.heap.size w w' := by
  have c := Tryd.strings_Replace s old new (-1) w h1 (by decide) hlen
  have t3 := Tryd.underlying3; have a3 := Tryd.isAgg3; have z3 := Tryd.sizeOf3; have v3 := Tryd.zeroValue3
  have t9 := Tryd.underlying9; have a9 := Tryd.isAgg9; have z9 := Tryd.sizeOf9; have v9 := Tryd.zeroValue9
  have e154 : ∀ args w, (callFunc 28 args).run Tryd.prog w = .ok (.enter 28 args) w := enters_of Tryd.func28 (by kernel_rfl) rfl
  go_enter Tryd.func18, Tryd.ntmps18
  go_wp2_with (go_at_fn 28; refine c.mono ?_; rintro e w' ⟨rfl, hw⟩)
  go_ret
  exact ⟨rfl, hw⟩
end Go.Proofs
