/- Rows of one's own that a contract of the kit's shelf tells to be written anew in place: what that is to the abstract heap. Own work; no condition. -/
import Derived.Test.YtlabphnonlicdaaGreatPaAbsY
import Derived.Test.YtlabphnonlicdaaGreatPaAbsR
import Derived.Test.YtlabphnonlicdaaGreatPa37
import Derived.Sort.Row
import Derived.Sort.Grow
namespace Go.Proofs.YtlabphnonlicdaaGreat
open Go Go.RowKit Go.Sort
set_option linter.unusedVariables false
theorem below_end (w : World) (n : Nat) (os : Array Obj) : Go.RowKit.Below w.heap.size w (grow (Sort.ahead w n) os) :=
 ⟨rfl, rfl, rfl, by rw [size_grow]; exact Nat.le_add_right _ _, fun k hk => by
   show (w.heap ++ os)[k]? = _
   rw [Array.getElem?_append_left hk]⟩
theorem putRow_setRow {w : World} {b : Nat} {old : Array Value} {t : TypeId} {fr : Nat × Nat} (hh : w.heap[b]? = some (.cells old t fr)) (d : Array Int) : putRow (Value.int .i64) w b 0 d = w.setRow b (putCells (Value.int .i64) 0 d old) := by
 unfold putRow
 rw [mapBlock_congr w b _ (fun _ => putCells (Value.int .i64) 0 d old) fun c e fr h => by rw [hh] at h; cases h; rfl]
 unfold mapBlock World.setRow
 congr 2
theorem flat_i64 (l : List Int) : (l.map i64c).flatten = l.map (PV.int .i64) := by
 induction l with
 | nil => rfl
 | cons a r ih => simp only [List.map_cons, List.flatten_cons, ih]; rfl
theorem WR.putVec {B : Base} {G : Ghost} {H : List AObj} {w : World} (wr : WR B G H w) {id g n : Nat} {v : Value} (rv : RV G (.vec id g 1 0 n) v) {C : List (List PV)} (hid : H[id]? = some (.vec g C 1)) (hn : n ≤ C.length) (h0 : n ≠ 0) {zs : List Int} (hz : zs.map i64c = C) :
   ∃ b cap, v = .slice (some ⟨b, 0, none⟩) n cap ∧ C.length ≤ cap ∧ b < w.heap.size ∧ Holds (Value.int .i64) w b 0 zs.toArray ∧
     ∀ (zs' : List Int) q os, zs'.length = C.length → ∃ G', GExt G G' ∧ WR B G' (H.set id (.vec g (zs'.map i64c) 1)) (grow (putRow (Value.int .i64) (Sort.ahead w q) b 0 zs'.toArray) os) ∧ (∀ j, G.obj j = none → G'.obj j = none) ∧ ∀ k, k ≤ cap → RV G' (.vec id g 1 0 k) (.slice (some ⟨b, 0, none⟩) k cap) := by
 obtain ⟨a, cap, own, a', V⟩ := vec_at wr rv hid
 have hc0 : 0 < cap := by have := V.fit; omega
 obtain ⟨b, ha, ha'⟩ := V.adr hc0
 have hlen : zs.length = C.length := by rw [← hz]; simp
 obtain ⟨h1, h2, h3⟩ := V.row
 rcases h3 with ⟨_, h3⟩ | ⟨b', arr, t, ho, hb', hh, hs, hcell, hm⟩
 · omega
 rw [ha] at hb'
 simp only [Option.some.injEq, Addr.mk.injEq, and_true] at hb'
 subst hb'
 subst ho ha
 have hblt : b < w.heap.size := (Array.getElem?_eq_some_iff.1 hh).1
 rw [Nat.mul_one] at hs
 refine ⟨b, cap, by rw [V.val, ha']; simp, h1, hblt, fun j hj => ?_, fun zs' q os hl => ?_⟩
 · have hj : j < zs.length := by simpa using hj
   have hja : j < arr.size := by omega
   refine ⟨?_, ?_⟩
   · rw [Nat.zero_add]
     have hv := hcell j _ (Array.getElem?_eq_getElem hja) (.int .i64 zs[j]) (by rw [← hz, flat_i64, List.getElem?_map, List.getElem?_eq_getElem hj]; rfl)
     rw [cell_of_row w b j arr t (0, 0) hh, Array.getElem?_eq_getElem hja]
     generalize arr[j] = u at hv
     cases hv
     rw [getElem!_pos _ j (by simpa using hj)]
     simp
   · simp [World.frozen?, hh]
 · have hobj := V.obj
   have g1 := wr.vecSet (g' := g) (L' := zs'.map i64c) (arr := putCells (Value.int .i64) 0 zs'.toArray arr) hid hobj hh hm (by simp [putCells, hs]) (by rw [List.length_map]; omega) h2 (fun e he => by obtain ⟨x, _, rfl⟩ := List.mem_map.1 he; rfl) (fun i u c hu hc => by
     rw [flat_i64, List.getElem?_map] at hc
     have hi : i < zs'.length := by
       by_cases h : i < zs'.length
       · exact h
       · rw [List.getElem?_eq_none (by omega)] at hc; cases hc
     rw [List.getElem?_eq_getElem hi] at hc
     simp only [Option.map_some, Option.some.injEq] at hc
     subst hc
     have hia : i < arr.size := by omega
     rw [putCells, Array.getElem?_mapIdx, Array.getElem?_eq_getElem hia] at hu
     simp only [Option.map_some, Option.some.injEq] at hu
     rw [if_pos ⟨Nat.zero_le _, by simpa using hi⟩, Nat.sub_zero, getElem!_pos _ i (by simpa using hi)] at hu
     subst hu
     simp only [List.getElem_toArray]
     exact .int _ _) rfl (Nat.le_refl _)
   refine ⟨_, g1.2.1, ?_, g1.2.2, fun k hk => ?_⟩
   · have hp : putRow (Value.int .i64) (Sort.ahead w q) b 0 zs'.toArray = Sort.ahead (w.setRow b (putCells (Value.int .i64) 0 zs'.toArray arr)) q := by rw [putRow_ahead, putRow_setRow hh]
     rw [hp]
     have hb := below_end (w.setRow b (putCells (Value.int .i64) 0 zs'.toArray arr)) q os
     refine g1.1.behind (m' := memW (w.setRow b (putCells (Value.int .i64) 0 zs'.toArray arr))) (fun _ _ _ h => h) (fun x o u hu => ?_) hb
     have hx := cell?_lt hu
     exact (hb.cell (p := ⟨x, o, none⟩) hx).trans hu
   · exact .vec (Ghost.tok_obj _ _ _ _ _ _) (Nat.le_refl _) ⟨_, _, rfl, hk⟩ (fun _ => ⟨some ⟨b, 0, none⟩, cap, some ⟨b, 0, none⟩, rfl, h2, by omega, by rw [Nat.sub_zero], fun _ => ⟨b, rfl, by rw [Nat.zero_mul]⟩⟩)
end Go.Proofs.YtlabphnonlicdaaGreat
