/- slices; Sorted and each once: plain. Own work; no condition. -/
import Derived.Test.YtlabphnonlicdaaGreatPaSrt1
import Derived.Test.YtlabphnonlicdaaGreatPaBri
namespace Go.Proofs.YtlabphnonlicdaaGreat
open Go Go.RowKit Go.Sort
set_option linter.unusedVariables false
set_option maxRecDepth 100000
def sortZ (l : List Int) : List Int := l.mergeSort fun x y => decide (x ≤ y)
def compZ (l : List Int) : List Int := Lib.compact l
def padZ (l : List Int) : List Int := compZ l ++ List.replicate (l.length - (compZ l).length) 0
theorem compZ_len (l : List Int) : (compZ l).length ≤ l.length := by
 unfold compZ Lib.compact Lib.compactUpTo
 rw [List.length_map]
 refine Nat.le_trans (List.length_filter_le _ _) ?_
 rw [List.length_range]; exact Nat.le_refl _
theorem padZ_len (l : List Int) : (padZ l).length = l.length := by
 have := compZ_len l
 rw [padZ, List.length_append, List.length_replicate]; omega
theorem sortZ_len (l : List Int) : (sortZ l).length = l.length := by rw [sortZ, List.length_mergeSort]
theorem sort_a {H : List AObj} {Q : AV → List AObj → Prop} (id g n : Nat) {C : List (List PV)} {zs : List Int} (hid : H[id]? = some (.vec g C 1)) (hz : zs.map i64c = C) (hn : C.length = n) (hb : n < 4611686018427387904)
   (k : Q (.tup []) (H.set id (.vec g ((sortZ zs).map i64c) 1))) : ACall Tryz.prog 82 [.vec id g 1 0 n] H Q := by
 have hlen : zs.length = n := by rw [← hn, ← hz]; simp
 refine ⟨fun B G w vals wr rv => ?_⟩
 obtain ⟨v, rfl⟩ : ∃ v, vals = [v] := by
   have := rv.1
   match vals, this with
   | [v], _ => exact ⟨v, rfl⟩
 have rv0 := rv.2 0 _ v rfl rfl
 by_cases h0 : n = 0
 · subst h0
   have hnil : zs = [] := List.length_eq_zero_iff.1 hlen
   subst hnil
   have hv : ∃ a cap, v = .slice a 0 cap := by
     cases rv0 with
     | vec _ _ hs _ => obtain ⟨a, c, e, _⟩ := hs; exact ⟨a, c, e⟩
   obtain ⟨a, cap, rfl⟩ := hv
   refine (sort_none a cap w).mono ?_
   rintro e w' ⟨rfl, rfl⟩
   have hset : H.set id (.vec g ((sortZ []).map i64c) 1) = H := by
     rw [show (sortZ []).map i64c = C from by rw [← hz]; simp [sortZ]]
     apply List.ext_getElem?
     intro i
     rw [List.getElem?_set]
     split
     · rename_i e; subst e
       have := (List.getElem?_eq_some_iff.1 hid).1
       rw [if_pos this, hid]
     · rfl
   rw [hset] at k
   exact ⟨_, .tup [], G, H, rfl, .tup rfl (fun i c u hc => by simp at hc), GExt.refl G, wr, k⟩
 · obtain ⟨b, cap, rfl, hcap, hblt, hH, hput⟩ := wr.putVec rv0 hid (by omega) h0 hz
   have hs := sort_w b 0 cap zs w hH hblt (by omega)
   rw [hlen] at hs
   refine hs.mono ?_
   rintro e w' ⟨rfl, q, os, rfl⟩
   obtain ⟨G', e1, wr', _, _⟩ := hput (sortZ zs) q os (by rw [sortZ_len]; omega)
   exact ⟨_, .tup [], G', _, rfl, .tup rfl (fun i c u hc => by simp at hc), e1, wr', k⟩
theorem compact_a {H : List AObj} {Q : AV → List AObj → Prop} (id g n : Nat) {C : List (List PV)} {zs : List Int} (hid : H[id]? = some (.vec g C 1)) (hz : zs.map i64c = C) (hn : C.length = n) (hb : n < 4611686018427387904)
   (k : Q (.vec id g 1 0 (compZ zs).length) (H.set id (.vec g ((padZ zs).map i64c) 1))) : ACall Tryz.prog 83 [.vec id g 1 0 n] H Q := by
 have hlen : zs.length = n := by rw [← hn, ← hz]; simp
 have hcl := compZ_len zs
 refine ⟨fun B G w vals wr rv => ?_⟩
 obtain ⟨v, rfl⟩ : ∃ v, vals = [v] := by
   have := rv.1
   match vals, this with
   | [v], _ => exact ⟨v, rfl⟩
 have rv0 := rv.2 0 _ v rfl rfl
 by_cases h0 : n = 0
 · subst h0
   have hnil : zs = [] := List.length_eq_zero_iff.1 hlen
   subst hnil
   have hv : ∃ a cap, v = .slice a 0 cap := by
     cases rv0 with
     | vec _ _ hs _ => obtain ⟨a, c, e, _⟩ := hs; exact ⟨a, c, e⟩
   obtain ⟨a, cap, rfl⟩ := hv
   refine (compact_none a cap w).mono ?_
   rintro e w' ⟨rfl, rfl⟩
   have hc0 : (compZ []).length = 0 := by simpa using hcl
   have hp : padZ [] = [] := List.length_eq_zero_iff.1 (by rw [padZ_len]; rfl)
   have hset : H.set id (.vec g ((padZ []).map i64c) 1) = H := by
     rw [show (padZ []).map i64c = C from by rw [← hz, hp]]
     apply List.ext_getElem?
     intro i
     rw [List.getElem?_set]
     split
     · rename_i e; subst e
       have := (List.getElem?_eq_some_iff.1 hid).1
       rw [if_pos this, hid]
     · rfl
   rw [hset, hc0] at k
   exact ⟨_, _, G, H, rfl, rv0, GExt.refl G, wr, k⟩
 · obtain ⟨b, cap, rfl, hcap, hblt, hH, hput⟩ := wr.putVec rv0 hid (by omega) h0 hz
   have hs := compact_w b 0 cap zs w hH (by omega) (by omega)
   rw [hlen] at hs
   refine hs.mono ?_
   rintro e w' ⟨rfl, q, rfl⟩
   obtain ⟨G', e1, wr', _, hr⟩ := hput (padZ zs) q #[] (by rw [padZ_len]; omega)
   rw [grow_empty] at wr'
   rw [padZ, hlen] at wr'
   rw [padZ, hlen] at k
   exact ⟨_, .vec id g 1 0 (compZ zs).length, G', _, rfl, hr _ (by omega), e1, wr', k⟩
theorem sortCC {cc : FuncId → List AV → List AObj → (AV → List AObj → Prop) → Prop} (hcc : ACall Tryz.prog = cc) {H : List AObj} {args : List AV} {K : AV → List AObj → Prop} (id g n : Nat) {C : List (List PV)} (zs : List Int) (ha : args = [.vec id g 1 0 n]) (hid : nth H id = some (.vec g C 1)) (hz : zs.map i64c = C) (hn : C.length = n) (hb : n < 4611686018427387904)
   (k : ∀ C', (sortZ zs).map i64c = C' → K (.tup []) (setX H id (.vec g C' 1))) : cc 82 args H K := by
 subst hcc ha
 rw [nth_eq] at hid
 have hlt := (List.getElem?_eq_some_iff.1 hid).1
 refine sort_a id g n hid hz hn hb ?_
 have := k _ rfl
 rwa [setX_eq _ _ _ (by omega), if_pos hlt] at this
theorem compactCC {cc : FuncId → List AV → List AObj → (AV → List AObj → Prop) → Prop} (hcc : ACall Tryz.prog = cc) {H : List AObj} {args : List AV} {K : AV → List AObj → Prop} (id g n : Nat) {C : List (List PV)} (zs : List Int) (ha : args = [.vec id g 1 0 n]) (hid : nth H id = some (.vec g C 1)) (hz : zs.map i64c = C) (hn : C.length = n) (hb : n < 4611686018427387904)
   (k : ∀ C' n', (padZ zs).map i64c = C' → (compZ zs).length = n' → K (.vec id g 1 0 n') (setX H id (.vec g C' 1))) : cc 83 args H K := by
 subst hcc ha
 rw [nth_eq] at hid
 have hlt := (List.getElem?_eq_some_iff.1 hid).1
 refine compact_a id g n hid hz hn hb ?_
 have := k _ _ rfl rfl
 rwa [setX_eq _ _ _ (by omega), if_pos hlt] at this
end Go.Proofs.YtlabphnonlicdaaGreat

namespace Go.Proofs.YtlabphnonlicdaaGreat
open Go Go.RowKit
set_option maxRecDepth 100000
set_option linter.unusedSimpArgs false
set_option linter.unusedVariables false
theorem sortZ_mem (x : Int) (l : List Int) : x ∈ sortZ l ↔ x ∈ l := (List.mergeSort_perm l _).mem_iff
theorem sortZ_le (l : List Int) : (sortZ l).Pairwise (· ≤ ·) := by
 have h := List.pairwise_mergeSort (le := fun x y : Int => decide (x ≤ y)) (fun a b c h1 h2 => by simp only [decide_eq_true_eq] at *; omega) (fun a b => by simp only [Bool.or_eq_true, decide_eq_true_eq]; omega) l
 exact h.imp fun h => by simpa using h
theorem get!_arr (l : List Int) (j : Nat) (hj : j < l.length) : l.toArray[j]! = l[j] := by
 rw [getElem!_pos _ j (by simpa using hj)]; simp
theorem compZ_mem (x : Int) (l : List Int) : x ∈ compZ l ↔ x ∈ l := by
 unfold compZ Lib.compact Lib.compactUpTo
 rw [List.mem_map]
 constructor
 · rintro ⟨j, hj, rfl⟩
   rw [List.mem_filter, List.mem_range] at hj
   have h2 : j < l.length := hj.1
   rw [get!_arr l j h2]
   exact List.getElem_mem h2
 · intro hx
   obtain ⟨i, hi, hxi⟩ := List.mem_iff_getElem.1 hx
   have key : ∀ k, k < l.length → l[k]? = some x → ∃ j, j < l.length ∧ l[j]? = some x ∧ (j = 0 ∨ l[j - 1]? ≠ some x) := by
     intro k
     induction k with
     | zero => intro h1 h2; exact ⟨0, h1, h2, .inl rfl⟩
     | succ k ih =>
       intro h1 h2
       by_cases h3 : l[k]? = some x
       · exact ih (by omega) h3
       · exact ⟨k + 1, h1, h2, .inr (by simpa using h3)⟩
   obtain ⟨j, hj, hjx, hj0⟩ := key i hi (by rw [List.getElem?_eq_getElem hi, hxi])
   have hjx2 : l[j] = x := by rw [List.getElem?_eq_getElem hj] at hjx; simpa using hjx
   refine ⟨j, ?_, by rw [get!_arr l j hj, hjx2]⟩
   rw [List.mem_filter, List.mem_range]
   refine ⟨hj, ?_⟩
   unfold Lib.keeps
   rw [decide_eq_true_eq]
   rcases hj0 with h | h
   · exact .inl h
   · by_cases h0 : j = 0
     · exact .inl h0
     · refine .inr ?_
       rw [get!_arr l j hj, get!_arr l (j - 1) (by omega), hjx2]
       intro e
       exact h (by rw [List.getElem?_eq_getElem (by omega), ← e])
theorem compZ_lt {l : List Int} (h : l.Pairwise (· ≤ ·)) : (compZ l).Pairwise (· < ·) := by
 unfold compZ Lib.compact Lib.compactUpTo
 rw [List.pairwise_map]
 have h1 : ((List.range l.length).filter (Lib.keeps l.toArray)).Pairwise (fun a b => a < b ∧ b < l.length ∧ Lib.keeps l.toArray b = true) := by
   have h2 := (List.pairwise_lt_range (n := l.length)).filter (Lib.keeps l.toArray)
   refine List.Pairwise.imp_of_mem ?_ h2
   intro a b ha hb hab
   rw [List.mem_filter, List.mem_range] at hb
   exact ⟨hab, hb.1, hb.2⟩
 refine h1.imp ?_
 rintro a b ⟨hab, hb, hk⟩
 rw [get!_arr l a (by omega), get!_arr l b hb]
 unfold Lib.keeps at hk
 rw [decide_eq_true_eq, get!_arr l b hb, get!_arr l (b - 1) (by omega)] at hk
 have hle : ∀ i j (hi : i < l.length) (hj : j < l.length), i ≤ j → l[i] ≤ l[j] := by
   intro i j hi hj hij
   rcases Nat.lt_or_ge i j with g | g
   · exact List.pairwise_iff_getElem.1 h i j hi hj g
   · have : i = j := by omega
     subst this; exact Int.le_refl _
 have h3 := hle a (b - 1) (by omega) (by omega) (by omega)
 have h4 := hle (b - 1) b (by omega) hb (by omega)
 rcases hk with hk | hk
 · omega
 · have : l[b] ≠ l[b - 1] := hk
   omega
theorem cols_rise (l : List Int) : (compZ (sortZ l)).Pairwise (· < ·) := compZ_lt (sortZ_le l)
theorem cols_mem (x : Int) (l : List Int) : x ∈ compZ (sortZ l) ↔ x ∈ l := by rw [compZ_mem, sortZ_mem]
end Go.Proofs.YtlabphnonlicdaaGreat
