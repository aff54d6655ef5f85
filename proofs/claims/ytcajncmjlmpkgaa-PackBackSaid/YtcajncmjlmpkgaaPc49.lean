/- tallyref; tallyref; Clone and Compact at values, walked in the world; Clone and Compact at values, walked in the world; pack; The program's plain values; The program's runs; The place of a word: math/bits; The program's offsets; The program's words; DeleteFunc at values that are not null, walked in the world; DeleteFunc at values that are not null, walked in the world: the whole. Own work; no condition. -/
import Derived.Test.YtcajncmjlmpkgaaPc48
import Derived.Deep.CutRange
import Derived.Test.YtcajncmjlmpkgaaPc42
import Derived.Test.YtcajncmjlmpkgaaPcTy
import Derived.Test.YtcajncmjlmpkgaaPc43
import Derived.Test.YtcajncmjlmpkgaaPcAbsP
namespace Go.Proofs.Ytcajncmjlmpkgaa
open Go Go.RowKit Go.Deep Go.Sort Go.Shelf
set_option linter.unusedVariables false
set_option linter.unusedSimpArgs false
theorem rowV_slice {w : World} {base : Nat} {v : Value} {n : Nat} {F : List Val} (h : w.ownsRow base 24 3 v n (flatV F)) : ∃ a c, v = .slice a n c ∧ (0 < n → ∃ g, a = some ⟨g, 0, none⟩ ∧ base ≤ g ∧ g < w.heap.size) := by
 rcases h.2 with ⟨e, e0⟩ | ⟨g, cap, cur, e, h3, h4, _⟩
 · exact ⟨none, 0, by rw [e, e0], fun h => by omega⟩
 · exact ⟨_, _, e, fun _ => ⟨g, rfl, h3, (Array.getElem?_eq_some_iff.1 h4).1⟩⟩
theorem rowV_len {w : World} {base : Nat} {v : Value} {n : Nat} {F : List Val} (h : w.ownsRow base 24 3 v n (flatV F)) : n = F.length := by
 have := h.1; rw [flatV_len] at this; omega
theorem permIn_list {F : List Val} {d' : Array Val} (h : PermIn 0 F.toArray.size F.toArray d') : d'.toList.Perm F ∧ d'.size = F.length := by
 obtain ⟨h1, _, h3⟩ := h
 have e1 : d'.extract 0 F.toArray.size = d' := by rw [← h1]; simp
 have e2 : F.toArray.extract 0 F.toArray.size = F.toArray := by simp
 rw [e1, e2] at h3
 exact ⟨h3, by simpa using h1⟩
theorem sortedIn_list {d' : Array Val} (h : SortedIn ltV 0 d'.size d') : d'.toList.Pairwise fun x y => 0 ≤ orderV y x := by
 rw [List.pairwise_iff_getElem]
 intro i j hi hj hij
 have hi' : i < d'.size := by simpa using hi
 have hj' : j < d'.size := by simpa using hj
 have := h i j (Nat.zero_le _) hij hj'
 rw [getElem!_pos d' i hi', getElem!_pos d' j hj'] at this
 simp only [Array.getElem_toList]
 have := of_decide_eq_false this; omega
theorem swk_row {w W : World} {base n cap g : Nat} {F F' : List Val} (h : w.ownsRow base 24 3 (.slice (some ⟨g, 0, none⟩) n cap) n (flatV F)) (hl : F'.length = F.length) (hS : SWK encV 3 w g 0 F'.toArray W) :
   W.ownsRow base 24 3 (.slice (some ⟨g, 0, none⟩) n cap) n (flatV F') ∧ ∀ H, w.heap.size = H → W.os = w.os ∧ W.tape = w.tape ∧ W.output = w.output ∧ w.heap.size ≤ W.heap.size ∧ ∀ k, k < w.heap.size → k ≠ g → W.heap[k]? = w.heap[k]? := by
 obtain ⟨q, os, rfl⟩ := hS
 refine ⟨ownsV_sorted h hl q os, fun H _ => ⟨rfl, rfl, rfl, ?_, fun k hk hne => ?_⟩⟩
 · simp [sortWorldK, grow, putRowK, putRow, size_mapBlock, Sort.ahead]
 · unfold sortWorldK
   rw [heap_grow (by rw [putRowK, putRow, size_mapBlock]; exact hk), putRowK, putRow, heap_mapBlock_other _ hne]; rfl
structure Turn (w w' : World) (own : Nat → Prop) : Prop where
 os : w'.os = w.os
 tape : w'.tape = w.tape
 output : w'.output = w.output
 size : w.heap.size ≤ w'.heap.size
 block : ∀ k, k < w.heap.size → ¬ own k → w'.heap[k]? = w.heap[k]?
end Go.Proofs.Ytcajncmjlmpkgaa

namespace Go.Proofs.Ytcajncmjlmpkgaa
open Go Go.RowKit Go.Deep Go.Sort Go.Shelf
set_option linter.unusedVariables false
set_option linter.unusedSimpArgs false
theorem flatV_at (l : List Val) {i j : Nat} {x : Val} {u : Value} (hx : l[i]? = some x) (hu : (encV x)[j]? = some u) : (flatV l)[i * 3 + j]? = some u := by
 have hi := (List.getElem?_eq_some_iff.1 hx).1
 have hj : j < 3 := by have := (List.getElem?_eq_some_iff.1 hu).1; simpa [encV] using this
 have h := flatv_get l (i * 3 + j) (by omega)
 rw [show (i * 3 + j) / 3 = i by omega, show (i * 3 + j) % 3 = j by omega] at h
 rw [h, getElem!_def l i, hx]
 simp only []
 rw [getElem!_def, hu]
theorem flatV_split (l : List Val) {k : Nat} {u : Value} (h : (flatV l)[k]? = some u) : ∃ x, l[k / 3]? = some x ∧ (encV x)[k % 3]? = some u := by
 have hk : k < l.length * 3 := by rw [← flatV_len]; exact (List.getElem?_eq_some_iff.1 h).1
 refine ⟨l[k / 3]'(by omega), List.getElem?_eq_getElem _, ?_⟩
 have h2 := flatv_get l k hk
 rw [h, getElem!_pos l (k / 3) (by omega)] at h2
 have hl : (encV l[k / 3]).length = 3 := rfl
 rw [getElem!_pos _ (k % 3) (by rw [hl]; omega)] at h2
 rw [List.getElem?_eq_getElem (by rw [hl]; omega)]
 exact h2.symm
theorem RP.rdl {m : Mem} {w : World} {C : List (List PV)} {l : List Val} {v : Value} (hC : l.map Val.cells = C) (hm : ∀ b o v, m b o = some v → w.cell? ⟨b, o, none⟩ = some v) (hp : RP m (.sl C) v) : RdL w v l.length (flatV l) ∧ ∃ a c, v = .slice a l.length c := by
 have hlen : C.length = l.length := by rw [← hC]; simp
 cases hp with
 | sl0 a cap hc =>
   have h0 : l = [] := List.length_eq_zero_iff.1 (by rw [← hlen]; rfl)
   subst h0
   refine ⟨?_, a, cap, rfl⟩
   cases a with
   | none => exact .inl ⟨cap, rfl, rfl, rfl⟩
   | some a => exact .inr ⟨a, cap, rfl, fun j u hu => by simp at hu⟩
 | sl es size b o len cap vs hl hcap hmax hsz hmm hr =>
   have hln : len = l.length := by rw [← hl, hlen]
   subst hln
   refine ⟨.inr ⟨⟨b, o, none⟩, cap, rfl, fun k u hu => ?_⟩, _, _, rfl⟩
   obtain ⟨x, hx, hux⟩ := flatV_split l hu
   have he : C[k / 3]? = some x.cells := by rw [← hC, List.getElem?_map, hx]; rfl
   have hs : size = 3 := (hsz _ (List.mem_of_getElem? he)).symm
   subst hs
   have hj : k % 3 < 3 := Nat.mod_lt _ (by decide)
   have h1 := hm _ _ _ (hmm (k / 3) _ (k % 3) he hj)
   rw [Addr.add_lit, show o + k = o + k / 3 * 3 + k % 3 by omega, h1]
   congr 1
   have hcell : ∃ c, x.cells[k % 3]? = some c ∧ ∀ v, RP m c v → v = u := by
     revert hux
     generalize k % 3 = j at hj
     match j, hj with
     | 0, _ => intro h; simp [encV] at h; exact ⟨.int .i64 x.k, rfl, fun v hv => by cases hv; exact h⟩
     | 1, _ => intro h; simp [encV] at h; exact ⟨.int .i64 x.n, rfl, fun v hv => by cases hv; exact h⟩
     | 2, _ => intro h; simp [encV] at h; exact ⟨.str x.s, rfl, fun v hv => by cases hv; exact h⟩
   obtain ⟨c, hc1, hc2⟩ := hcell
   exact hc2 _ (hr _ _ _ c he hc1)
set_option maxRecDepth 100000 in
theorem pcall_row {f : FuncId} {l u : List Val} {C : List (List PV)} (hC : l.map Val.cells = C) (hcal : callable Try.prog f = true)
   (h : ∀ (w : World) (v : Value), RdL w v l.length (flatV l) → (∃ a c, v = .slice a l.length c) → Calls Try.prog f #[v] w fun e w' => ∃ t, e = .returned t ∧ w'.ownsRow w.heap.size 24 3 t u.length (flatV u) ∧ w.Since w.heap.size w') :
   PCall Try.prog f [.sl C] fun r => r = [.sl (u.map Val.cells)] := by
 refine ⟨fun m w vals hm hv => ?_⟩
 obtain ⟨v, hvl, hv2⟩ : ∃ v, vals = [v] ∧ RP m (.sl C) v := by
   match vals, hv with
   | [v], hv => exact ⟨v, rfl, hv.2 0 _ v rfl rfl⟩
 subst hvl
 obtain ⟨hr, hs⟩ := hv2.rdl hC hm
 refine Runs.of_calls hcal ((h w v hr hs).mono ?_)
 rintro e w' ⟨t, rfl, hown, hsin⟩
 have hbel : Go.RowKit.Below w.heap.size w w' := ⟨hsin.os, hsin.tape, hsin.output, hsin.size, fun k hk => hsin.block k hk⟩
 have hmem : ∀ b o v, m b o = some v → w'.cell? ⟨b, o, none⟩ = some v := fun b o v h => by
   have := hm b o v h
   rw [hbel.cell (cell?_lt this)]; exact this
 obtain ⟨_, ⟨rfl, h0⟩ | ⟨g, cap, cur, rfl, hg, hh, hcap, hmax, hcs, hcur⟩⟩ := hown
 · have hu : u = [] := List.length_eq_zero_iff.1 h0
   subst hu
   exact ⟨_, [.sl []], m, rfl, .p (.sl0 _ _ (Nat.zero_le _)), fun _ _ _ h => h, hmem, fun _ _ _ h => .inl h, hbel, rfl⟩
 · have hmn : ∀ o, m g o = none := fun o => by
     cases hv : m g o with
     | none => rfl
     | some v => have := cell?_lt (hm _ _ _ hv); simp at this; omega
   have hcell : ∀ k x, (flatV u)[k]? = some x → w'.cell? ⟨g, k, none⟩ = some x := fun k x hx => by
     have hk : k < u.length * 3 := by rw [← flatV_len]; exact (List.getElem?_eq_some_iff.1 hx).1
     rw [← hcur, List.getElem?_take_of_lt hk, Array.getElem?_toList] at hx
     rw [cell_of_row w' g k cur _ (0, 0) hh, hx]
   refine ⟨_, [.sl (u.map Val.cells)], fun b o => if b = g then (flatV u)[o]? else m b o, rfl, .p ?_, fun b o v h => ?_, fun b o v h => ?_, fun b o v h => ?_, hbel, rfl⟩
   · refine .sl _ 3 g 0 u.length cap (fun i j => ((encV ((u[i]?).getD ⟨0, 0, ⟨#[]⟩⟩))[j]?).getD undef) (by simp) hcap hmax (fun e he => by obtain ⟨x, _, rfl⟩ := List.mem_map.1 he; rfl) (fun i e j he hj => ?_) (fun i e j c he hc => ?_)
     · rw [List.getElem?_map, Option.map_eq_some_iff] at he
       obtain ⟨x, hx, rfl⟩ := he
       have hj3 : j < 3 := hj
       have hu : (encV x)[j]? = some ((encV x)[j]'(by exact hj3)) := List.getElem?_eq_getElem _
       show (if g = g then (flatV u)[0 + i * 3 + j]? else m g (0 + i * 3 + j)) = _
       rw [if_pos rfl, Nat.zero_add, flatV_at u hx hu, hx]
       simp only [Option.getD_some, hu]
     · rw [List.getElem?_map, Option.map_eq_some_iff] at he
       obtain ⟨x, hx, rfl⟩ := he
       rw [hx]
       simp only [Option.getD_some]
       match j, hc with
       | 0, hc => simp [Val.cells] at hc; subst hc; exact .int _ _
       | 1, hc => simp [Val.cells] at hc; subst hc; exact .int _ _
       | 2, hc => simp [Val.cells] at hc; subst hc; exact .str _
       | j + 3, hc => simp [Val.cells] at hc
   · show (if b = g then _ else _) = _
     rw [if_neg (fun e => by subst e; rw [hmn] at h; cases h)]; exact h
   · simp only at h
     split at h
     · rename_i e; subst e; exact hcell o v h
     · exact hmem b o v h
   · simp only at h
     split at h
     · rename_i e; subst e; exact .inr hg
     · exact .inl h
end Go.Proofs.Ytcajncmjlmpkgaa

namespace Go.Proofs.Ytcajncmjlmpkgaa
open Go Go.RowKit Go.Deep Go.Sort Go.Shelf
set_option linter.unusedVariables false
set_option linter.unusedSimpArgs false
set_option maxRecDepth 100000
theorem und24d : ∃ fs, Try.prog.underlying 24 = some (.struct fs) ∧ Try.prog.stoodInHeld 24 = false ∧ Try.prog.eqGuardType Try.prog.depth 24 = false ∧ fs.toList.mapM (eqKind Try.prog) = some [(0, .num .i64), (1, .num .i64), (2, .str)] := by
 obtain ⟨i, d, z, k⟩ := tinfo_ok ti24
 have he : eqFs Try.prog 24 d = some [(0, .num .i64), (1, .num .i64), (2, .str)] := k.eqs
 unfold eqFs at he
 split at he <;> try (cases he; done)
 rename_i fs
 split at he <;> try (cases he; done)
 rename_i hst
 exact ⟨fs, k.und, hst.1, hst.2, he⟩
theorem val_rp (q : Val) : RP (fun _ _ => none) (.agg q.cells) (.agg #[.int .i64 q.k, .int .i64 q.n, .string q.s]) := by
 refine .agg _ _ rfl fun i c v hc hv => ?_
 match i, hc, hv with
 | 0, hc, hv => simp [Val.cells] at hc hv; subst hc hv; exact .int _ _
 | 1, hc, hv => simp [Val.cells] at hc hv; subst hc hv; exact .int _ _
 | 2, hc, hv => simp [Val.cells] at hc hv; subst hc hv; exact .str _
 | i + 3, hc, hv => simp [Val.cells] at hc
theorem eqIn24 (x y : Val) (w : World) : (Op.equalIn 10000 24 (.agg #[.int .i64 x.k, .int .i64 x.n, .string x.s]) (.agg #[.int .i64 y.k, .int .i64 y.n, .string y.s])).run Try.prog w = .ok (decide (x = y)) w := by
 obtain ⟨fs, h1, h2, h3, h4⟩ := und24d
 have hf : Try.prog.fieldsOf 24 = fs := by simp [Program.fieldsOf, h1]
 have h := eqC_ok (P := Try.prog) w 9998 (val_rp x) (val_rp y) fs.toList _ (decide (x.k = y.k) && (decide (x.n = y.n) && (sbeq x.s y.s && true))) h4 rfl
 rw [show (10000 : Nat) = 9999 + 1 from rfl, run_equalIn_agg w 9999 24 _ _ (by rw [hf]; exact h1) h2, hf, h]
 congr 1
 rw [sbeq_eq, Bool.and_true]
 cases x; cases y
 simp [Val.mk.injEq]
theorem guard24 (op : BinOp) (a b : Operand) (x y : Array Value) (w : World) (ho : op = .eql ∨ op = .neq) : (eqGuard op 24 a b (.agg x) (.agg y)).run Try.prog w = .ok () w := by
 obtain ⟨fs, h1, h2, h3, h4⟩ := und24d
 rcases ho with rfl | rfl <;> exact run_eqGuard_agg w _ 24 _ _ x y h3
theorem setMany_list : ∀ (vs : List Value) (s : Nat) (L : List Value), s + vs.length ≤ L.length → setMany L.toArray s vs = (L.take s ++ vs ++ L.drop (s + vs.length)).toArray
 | [], s, L, h => by simp [setMany]
 | v :: r, s, L, h => by
   have hs : s < L.length := by simp at h; omega
   have e : L.toArray.setIfInBounds s v = (L.set s v).toArray := by simp
   rw [setMany, e, setMany_list r (s + 1) _ (by simp at h ⊢; omega)]
   congr 1
   have h1 : (L.set s v).take (s + 1) = L.take s ++ [v] := by
     rw [List.take_add_one, List.take_set_of_le (Nat.le_refl _), List.getElem?_set_self hs]; rfl
   have h2 : (L.set s v).drop (s + 1 + r.length) = L.drop (s + (v :: r).length) := by
     rw [List.drop_set_of_lt (by omega)]; congr 1; simp; omega
   rw [h1, h2]
   simp
theorem flatV_take (F : List Val) (i : Nat) : flatV (F.take i) = (flatV F).take (i * 3) := by
 induction F generalizing i with
 | nil => simp
 | cons x r ih =>
   cases i with
   | zero => simp
   | succ i =>
     rw [List.take_succ_cons]
     show encV x ++ flatV (r.take i) = (encV x ++ flatV r).take ((i + 1) * 3)
     have h3 : (encV x).take ((i + 1) * 3) = encV x := List.take_of_length_le (by rw [show (encV x).length = 3 from rfl]; omega)
     rw [ih, List.take_append, show (encV x).length = 3 from rfl, show (i + 1) * 3 - 3 = i * 3 by omega, h3]
theorem flatV_drop (F : List Val) (i : Nat) : flatV (F.drop i) = (flatV F).drop (i * 3) := by
 have h : flatV F = flatV (F.take i) ++ flatV (F.drop i) := by
   show flatV F = _
   rw [flatV, flatV, flatV, ← List.flatMap_append, List.take_append_drop]
 by_cases hi : i ≤ F.length
 · have hl : (flatV (F.take i)).length = i * 3 := by rw [flatV_len, List.length_take, Nat.min_eq_left hi]
   rw [h, ← hl, List.drop_left]
 · rw [List.drop_of_length_le (by omega), List.drop_of_length_le (by rw [flatV_len]; omega)]; rfl
theorem flatV_append (A B : List Val) : flatV (A ++ B) = flatV A ++ flatV B := List.flatMap_append
theorem swk_set {w W : World} {g : Nat} {D : List Val} (h : SWK encV 3 w g 0 D.toArray W) (hg : g < w.heap.size) (i : Nat) (xs : List Val) (hi : i + xs.length ≤ D.length) :
   SWK encV 3 w g 0 (D.take i ++ xs ++ D.drop (i + xs.length)).toArray (W.setCells g (i * 3) (flatV xs)) := by
 obtain ⟨n, os, rfl⟩ := h
 refine ⟨n, os, ?_⟩
 unfold sortWorldK
 rw [← putRowK_grow encV 3 (Sort.ahead w n) os g 0 _ hg, ← putRowK_grow encV 3 (Sort.ahead w n) os g 0 _ hg]
 have h1 := setCells_putRow (grow (Sort.ahead w n) os) g 0 (flatV xs) (i * 3) (flatK encV 3 D.toArray) (by rw [size_flatK, flatV_len]; simp; omega)
 rw [Nat.zero_add] at h1
 unfold putRowK
 rw [h1, flatK_eq, setMany_list _ _ _ (by rw [flatV_len, flatV_len]; omega), flatK_eq, flatV_append, flatV_append, flatV_take, flatV_drop, flatV_len]
 congr 4
 omega
theorem frozen_holds {W : World} {g : Nat} {D : List Val} (h : HoldsK encV 3 W g 0 D.toArray) {t j : Nat} (ht : t < D.length) (hj : j < 3) : W.frozen? ⟨g, t * 3 + j, none⟩ = false := by
 have := (HoldsK.cell h (by simpa using ht) hj).2
 rwa [Nat.zero_add] at this
theorem zero24 : ∀ w, (zeroValue 24).run Try.prog w = .ok (.agg #[.int .i64 0, .int .i64 0, .string ⟨#[]⟩]) w := fun w => by
 obtain ⟨i, d, z, k⟩ := tinfo_ok ti24
 have hz : Try.prog.info? 24 = some i := k.info
 have h0 := info24
 rw [hz] at h0
 simp only [Option.map_some, Option.some.injEq, Prod.mk.injEq] at h0
 simp [zeroValue, run_typeInfo w hz, h0.1]
 rfl
theorem zeroCells3 (z : Val) (n : Nat) : (Builtin.zeroCells (encV z).toArray n).toList = flatV (List.replicate n z) := by
 apply List.ext_getElem?
 intro k
 have hs : (encV z).toArray.size = 3 := rfl
 by_cases hk : k < n * 3
 · have h := flatv_get (List.replicate n z) k (by simpa using hk)
   rw [h, getElem!_pos _ (k / 3) (by simp; omega), List.getElem_replicate]
   have h2 : k < (Builtin.zeroCells (encV z).toArray n).toList.length := by simp [Builtin.zeroCells, hs]; exact hk
   rw [List.getElem?_eq_getElem h2]
   simp only [Builtin.zeroCells, hs, Array.toList_map, Array.toList_range, List.getElem_map, List.getElem_range]
   simp
 · rw [List.getElem?_eq_none (by simp [Builtin.zeroCells, hs]; omega), List.getElem?_eq_none (by rw [flatV_len]; simp; omega)]
theorem run_clear24 {W : World} {g cap : Nat} {D : List Val} (h : HoldsK encV 3 W g 0 D.toArray) (i n : Nat) (hi : i + n = D.length) (hn : 0 < n) (ty : TypeId) :
   (Builtin.clear_ #[22] ty #[.slice (some ⟨g, i * 3, none⟩) n cap]).run Try.prog W = .ok (.tuple #[]) (W.setCells g (i * 3) (flatV (List.replicate n Val.zero))) := by
 have key : ∀ j, j < n * 3 → (W.cell? ⟨g, i * 3 + j, none⟩).isSome = true ∧ W.frozen? ⟨g, i * 3 + j, none⟩ = false := fun j hj => by
   have h1 := HoldsK.cell h (i := i + j / 3) (c := j % 3) (by simp; omega) (Nat.mod_lt _ (by decide))
   rw [Nat.zero_add, show (i + j / 3) * 3 + j % 3 = i * 3 + j by omega] at h1
   exact ⟨by rw [h1.1]; rfl, h1.2⟩
 have hz : ∀ w, (zeroValue 24).run Try.prog w = .ok Val.zero.val w := zero24
 have hst := run_storeCells_cells (P := Try.prog) g (i * 3) (flatV (List.replicate n Val.zero)) 0 W (by rw [flatV_len]; simpa using fun j hj => (key j hj).1) (by rw [flatV_len]; simpa using fun j hj => (key j hj).2) (flatV_one _)
 simp only [Nat.add_zero] at hst
 obtain ⟨m, rfl⟩ : ∃ m, n = m + 1 := ⟨n - 1, by omega⟩
 have hzc : (Builtin.zeroCells Val.zero.val.cells (m + 1)).toList = flatV (List.replicate (m + 1) Val.zero) := zeroCells3 _ _
 simp [Builtin.clear_, run_underlying Try.underlying22, hz, hzc, hst]
end Go.Proofs.Ytcajncmjlmpkgaa

namespace Go.Proofs.Ytcajncmjlmpkgaa
open Go Go.RowKit Go.Deep Go.Sort Go.Shelf
set_option linter.unusedVariables false
set_option linter.unusedSimpArgs false
set_option maxRecDepth 100000
theorem nil22 (a : Option Addr) (n c n' c' : Nat) : ∀ w, (binOp .eql 22 (.slice a n c) (.slice none n' c')).run Try.prog w = .ok (.bool a.isNone) w := fun w => Lib.run_eql_slice_nil w 22 24 a n c n' c' Try.underlying22
set_option maxHeartbeats 1000000 in
theorem cloneV_w (v : Value) (l : List Val) (w : World) (hR : RdL w v l.length (flatV l)) (hsl : ∃ a c, v = .slice a l.length c) (hl : l.length ≤ 2000000) :
   Calls Try.prog 33 #[v] w fun e w' => ∃ t, e = .returned t ∧ w'.ownsRow w.heap.size 24 3 t l.length (flatV l) ∧ w.Since w.heap.size w' := by
 obtain ⟨i0, hi0, hz0, hzs, hzb⟩ := info_parts info24
 obtain ⟨a, c, rfl⟩ := hsl
 have hn := nil22 a l.length c 0 0
 cases a with
 | none =>
   have hl0 : l = [] := by
     rcases hR with ⟨c', _, h, _⟩ | ⟨ad, c', h, _⟩
     · exact List.length_eq_zero_iff.1 h
     · cases h
   subst hl0
   simp only [List.length_nil, Option.isNone_none] at hn ⊢
   go_enter Try.func33, Try.ntmps33
   go_wp2
   go_ret
   exact ⟨_, rfl, World.ownsRow_nil _ _ _ _, World.Since.refl _ _⟩
 | some ad =>
   have hR' : ∀ W : World, W.heap = w.heap.push (.cells #[] 24) → RdL W (.slice (some ad) l.length c) l.length (flatV l) := by
     intro W hW
     rcases hR with ⟨c', h, _⟩ | ⟨ad', c', h, hc⟩
     · cases h
     · refine .inr ⟨ad', c', h, fun j u hu => ?_⟩
       have h2 := hc j u hu
       have hlt := World.block_lt_of_cell? w _ h2
       rw [← h2]
       exact World.cell?_of_block (by rw [hW, Array.getElem?_push, if_neg (by omega)])
   clear hR
   go_enter Try.func33, Try.ntmps33
   go_wp2_with (at_builtin; refine wpList_append_rdl _ rfl _ _ _ rfl w.heap.size 24 i0 _ 3 32 Try.underlying22 hi0 hz0 hzs hzb rfl (by omega) _ 0 [] rfl (World.ownsRow_made w #[] 0 (Nat.le_refl _) (by simp) rfl) (.slice (some ad) l.length c) l.length (flatV l) rfl (hR' _ rfl) (flatV_len l) (flatV_one l) (by simp only [maxLen]; omega) (by omega) (by simp) ?_; intro v1 w1 hown1 hg1 hat1; simp only [Nat.zero_add, List.nil_append] at hown1)
   go_ret
   refine ⟨_, rfl, hown1, ((World.Since.refl _ _).alloc (Nat.le_refl _) _).grown hg1 (by simp) (fun k hk => by cases hk; exact Nat.le_refl _)⟩
def onceE : Option Val → List Val → List Val
 | _, [] => []
 | none, x :: r => x :: onceE (some x) r
 | some p, x :: r => if x = p then onceE (some x) r else x :: onceE (some x) r
theorem onceE_snoc (l : List Val) (x : Val) : ∀ p, onceE p (l ++ [x]) = onceE p l ++ (match l.getLast?.or p with | none => [x] | some q => if x = q then [] else [x]) := by
 induction l with
 | nil => intro p; cases p <;> simp [onceE]
 | cons y r ih =>
   intro p
   have hl : (y :: r).getLast?.or p = r.getLast?.or (some y) := by
     cases r with
     | nil => rfl
     | cons z t =>
       rw [List.getLast?_cons_cons]
       have : (z :: t).getLast?.isSome := by simp
       obtain ⟨q, hq⟩ := Option.isSome_iff_exists.1 this
       rw [hq]
       first | rfl | (cases p <;> rfl)
   rw [hl, List.cons_append]
   cases p with
   | none => simp only [onceE]; rw [ih]; rfl
   | some q =>
     simp only [onceE]
     split
     · rw [ih]
     · rw [ih]; rfl
theorem onceE_take (F : List Val) {i : Nat} {x q : Val} (h0 : 0 < i) (hx : F[i]? = some x) (hq : F[i - 1]? = some q) : onceE none (F.take (i + 1)) = onceE none (F.take i) ++ (if x = q then [] else [x]) := by
 have hil := (List.getElem?_eq_some_iff.1 hx).1
 rw [List.take_add_one, hx, Option.toList_some, onceE_snoc]
 congr 1
 have : (F.take i).getLast? = F[i - 1]? := by
   rw [List.getLast?_eq_getElem?, List.length_take, Nat.min_eq_left (by omega), List.getElem?_take, if_pos (by omega)]
 rw [this, hq]
 rfl
theorem onceE_F : ∀ (l : List Val) (p : Option Val), Clean l → (∀ q, p = some q → clean q = q) → onceE p l = onceF p l
 | [], p, _, _ => by cases p <;> rfl
 | x :: r, p, hc, hp => by
   have hx := hc x (by simp)
   have hr : Clean r := fun a ha => hc a (List.mem_cons_of_mem _ ha)
   have ih := onceE_F r (some x) hr (fun q e => by cases e; exact hx)
   cases p with
   | none => simp only [onceE, onceF, ih]
   | some q =>
     have hq := hp q rfl
     simp only [onceE, onceF, ih]
     by_cases h : x = q
     · rw [if_pos h, if_pos (by rw [h]; exact order_self q)]
     · rw [if_neg h, if_neg (fun e => h (order0 hx hq e))]
theorem onceE_len (l : List Val) : ∀ p, (onceE p l).length ≤ l.length := by
 induction l with
 | nil => intro p; cases p <;> simp [onceE]
 | cons y r ih =>
   intro p
   cases p with
   | none => simp only [onceE, List.length_cons]; have := ih (some y); omega
   | some q => simp only [onceE]; split <;> (have := ih (some y); simp only [List.length_cons]; omega)
theorem onceE_one (x : Val) : onceE none [x] = [x] := rfl
theorem onceE_all {F : List Val} {i : Nat} (h : onceE none (F.take i) = F.take i) (h0 : 0 < i) {x q : Val} (hx : F[i]? = some x) (hq : F[i - 1]? = some q) (hne : ¬ x = q) : onceE none (F.take (i + 1)) = F.take (i + 1) := by
 rw [onceE_take F h0 hx hq, h, if_neg hne, List.take_add_one, hx]; rfl
theorem compact_short (a : Option Addr) (n c : Nat) (hn : n < 2) (w : World) : Calls Try.prog 88 #[.slice a n c] w fun e w' => e = .returned (.slice a n c) ∧ w' = w := by
 go_enter Try.func88, Try.ntmps88
 go_wp2
 go_ret
 exact ⟨rfl, rfl⟩
theorem eq_facts (x y : Val) : ∃ b, b = decide (x = y) ∧ (∀ W, (Op.equalIn 10000 24 (.agg #[.int .i64 x.k, .int .i64 x.n, .string x.s]) (.agg #[.int .i64 y.k, .int .i64 y.n, .string y.s])).run Try.prog W = .ok b W) ∧ (∀ W p q, (eqGuard .eql 24 p q (.agg #[.int .i64 x.k, .int .i64 x.n, .string x.s]) (.agg #[.int .i64 y.k, .int .i64 y.n, .string y.s])).run Try.prog W = .ok () W) ∧ ∀ W p q, (eqGuard .neq 24 p q (.agg #[.int .i64 x.k, .int .i64 x.n, .string x.s]) (.agg #[.int .i64 y.k, .int .i64 y.n, .string y.s])).run Try.prog W = .ok () W :=
 ⟨_, rfl, fun W => eqIn24 x y W, fun W p q => guard24 .eql p q _ _ W (.inl rfl), fun W p q => guard24 .neq p q _ _ W (.inr rfl)⟩
theorem holds_at {W : World} {g : Nat} {D : List Val} (h : HoldsK encV 3 W g 0 D.toArray) {t : Nat} {x : Val} (hx : D[t]? = some x) : W.cell? ⟨g, t * 3, none⟩ = some (.int .i64 x.k) ∧ W.cell? ⟨g, t * 3 + 1, none⟩ = some (.int .i64 x.n) ∧ W.cell? ⟨g, t * 3 + 2, none⟩ = some (.string x.s) := by
 have ht := (List.getElem?_eq_some_iff.1 hx).1
 have e : D.toArray[t]! = x := by rw [getElem!_pos _ t (by simpa using ht)]; simp [(List.getElem?_eq_some_iff.1 hx).2]
 exact ⟨holdsV_cell h (t := t) (j := 0) (by simpa using ht) (by rw [e]; rfl), holdsV_cell h (t := t) (j := 1) (by simpa using ht) (by rw [e]; rfl), holdsV_cell h (t := t) (j := 2) (by simpa using ht) (by rw [e]; rfl)⟩
theorem put_one {D F : List Val} {k m n : Nat} {x : Val} {L L2 : List Val} (h1 : n ≤ D.length) (h2 : D.length ≤ n) (hk : k < n) (hm : k + 1 ≤ m) (q1 : D.take k = L) (q2 : k = L.length) (q3 : D.drop (m - 1) = F.drop (m - 1)) (hL : L2 = L ++ [x]) :
   n ≤ (D.take k ++ [x] ++ D.drop (k + 1)).length ∧ (D.take k ++ [x] ++ D.drop (k + 1)).length ≤ n ∧ (D.take k ++ [x] ++ D.drop (k + 1)).take (k + 1) = L2 ∧ k + 1 = L2.length ∧ (D.take k ++ [x] ++ D.drop (k + 1)).drop m = F.drop m := by
 have hkl : (D.take k).length = k := by rw [List.length_take]; omega
 have hl : (D.take k ++ [x]).length = k + 1 := by rw [List.length_append, hkl]; rfl
 have hlen : (D.take k ++ [x] ++ D.drop (k + 1)).length = n := by rw [List.length_append, hl, List.length_drop]; omega
 refine ⟨by omega, by omega, ?_, ?_, ?_⟩
 · rw [hL, ← q1, ← hl, List.take_left']; rfl
 · rw [hL, List.length_append, ← q2]; rfl
 · have e1 : (D.take k ++ [x] ++ D.drop (k + 1)).drop m = (D.drop (k + 1)).drop (m - (k + 1)) := by
     rw [List.drop_append, hl, List.drop_of_length_le (by omega), List.nil_append]
   rw [e1, List.drop_drop, show k + 1 + (m - (k + 1)) = m - 1 + 1 by omega, ← List.drop_drop, q3, List.drop_drop, show m - 1 + 1 = m by omega]
set_option maxHeartbeats 4000000 in
theorem compact_w (g cap n : Nat) (F : List Val) (w : World) (hH : HoldsK encV 3 w g 0 F.toArray) (hg : g < w.heap.size) (hF : F.length = n) (h2 : 2 ≤ n) (hl : n ≤ 2000000) (hcap : n ≤ cap) :
   Calls Try.prog 88 #[.slice (some ⟨g, 0, none⟩) n cap] w fun e w' => e = .returned (.slice (some ⟨g, 0, none⟩) (onceE none F).length cap) ∧ ∃ D : List Val, D.length = F.length ∧ D.take (onceE none F).length = onceE none F ∧ SWK encV 3 w g 0 D.toArray w' := by
 have hS0 := SWK.start hH
 have hF1 : F.length ≤ n ∧ n ≤ F.length := by omega
 have HFn : Hid (F.length = n) := hF
 clear hF
 have h0 : Hid (onceE none (F.take 1) = F.take 1) := by
   match F, hF1 with
   | x :: r, _ => exact onceE_one x
   | [], h => simp at h; omega
 have hd0 : decide ((n : Int) < 2) = false := by simp; omega
 have hd1 : decide (n < 2) = false := by simp; omega
 go_enter Try.func88, Try.ntmps88
 go_wp2
 go_loopg [3] (n - 1) (fun gg s3 wr => ∃ i : Nat, s3 = .int .i64 i ∧ i + gg = n ∧ 1 ≤ i ∧ i ≤ n ∧ Hid (onceE none (F.take i) = F.take i) ∧ SWK encV 3 w g 0 F.toArray wr)
 case atStart => exact ⟨1, rfl, by omega, Nat.le_refl _, by omega, h0, hS0⟩
 case round =>
   obtain ⟨i, rfl, hig, hi1, hin, hO, hS⟩ := hrel
   by_cases hlt : i < n
   · obtain ⟨x, hx⟩ : ∃ x, F[i]? = some x := ⟨_, List.getElem?_eq_getElem (by omega)⟩
     obtain ⟨j, hj⟩ : ∃ j, j = i - 1 := ⟨_, rfl⟩
     obtain ⟨y, hy⟩ : ∃ y, F[j]? = some y := ⟨_, List.getElem?_eq_getElem (by omega)⟩
     have hHr := hS.holds hg hH rfl
     obtain ⟨x0, x1, x2⟩ := holds_at hHr hx
     obtain ⟨y0, y1, y2⟩ := holds_at hHr hy
     obtain ⟨b, hb, he, hg1, hg2⟩ := eq_facts x y
     have HX : Hid (F[i]? = some x ∧ F[j]? = some y ∧ j = i - 1 ∧ b = decide (x = y) ∧ (i : Int) - 1 = j) := ⟨hx, hy, hj, hb, by omega⟩
     have hI1 : (i : Int) - 1 = j := by omega
     have hIw : IntKind.i64.wrap ((i : Int) - 1) = (j : Int) := by rw [hI1]; exact IntWalk.i64_in _ ⟨by omega, by omega⟩
     have hw3 : IntKind.i64.wrap (j : Int) = (j : Int) := IntWalk.i64_in _ ⟨by omega, by omega⟩
     have hjn : j < n := by omega
     have HS : Hid (SWK encV 3 w g 0 F.toArray wr) := hS
     clear hx hy hj hb hI1 hS hHr hS0
     obtain ⟨k1, n1, s1⟩ := x
     obtain ⟨k2, n2, s2⟩ := y
     simp only at x0 x1 x2 y0 y1 y2 he hg1 hg2
     go_wp2_with fail
     go_quiet (fail)
     cases b with
     | false =>
       go_wp2
       go_roundg (n - (i + 1))
       case measure => omega
       case rel =>
         obtain ⟨hx, hy, hj, hb, _⟩ := (show F[i]? = some (⟨k1, n1, s1⟩ : Val) ∧ F[j]? = some (⟨k2, n2, s2⟩ : Val) ∧ j = i - 1 ∧ false = decide ((⟨k1, n1, s1⟩ : Val) = ⟨k2, n2, s2⟩) ∧ (i : Int) - 1 = j from HX)
         rw [hj] at hy
         exact ⟨i + 1, by go_num, by omega, by omega, by omega, onceE_all hO (by omega) hx hy (of_decide_eq_false hb.symm), SWK.drewN HS _⟩
     | true =>
       have hS1 : SWK encV 3 w g 0 F.toArray (wr.drewN nq) := SWK.drewN HS _
       have hI : Hid (onceE none (F.take (i + 1)) = F.take i) := by
         obtain ⟨hx, hy, hj, hb, _⟩ := (show F[i]? = some (⟨k1, n1, s1⟩ : Val) ∧ F[j]? = some (⟨k2, n2, s2⟩ : Val) ∧ j = i - 1 ∧ true = decide ((⟨k1, n1, s1⟩ : Val) = ⟨k2, n2, s2⟩) ∧ (i : Int) - 1 = j from HX)
         rw [hj] at hy
         have hO' : onceE none (F.take i) = F.take i := hO
         show onceE none (F.take (i + 1)) = F.take i
         rw [onceE_take F (by omega) hx hy, if_pos (of_decide_eq_true hb.symm), List.append_nil, hO']
       clear x0 x1 x2 y0 y1 y2 he hg1 hg2 hIw hw3 HX HS hO
       generalize wr.drewN nq = w1 at *
       go_wp2
       obtain ⟨wq, rfl⟩ : ∃ W, W = wr := ⟨wr, rfl⟩
       go_loopg [3, 5] (n - i) (fun gg s3 s5 wr => ∃ (k k2 : Nat) (D : List Val), s3 = .int .i64 k ∧ s5 = .int .i64 k2 ∧ n - i - k2 ≤ gg ∧ 1 ≤ k2 ∧ k2 ≤ n - i ∧ k + 1 ≤ i + k2 ∧ n ≤ D.length ∧ D.length ≤ n ∧ Hid (D.take k = onceE none (F.take (i + k2)) ∧ k = (onceE none (F.take (i + k2))).length ∧ D.drop (i + k2 - 1) = F.drop (i + k2 - 1)) ∧ SWK encV 3 w g 0 D.toArray wr)
       case atStart =>
         have hI' : onceE none (F.take (i + 1)) = F.take i := hI
         refine ⟨i, 1, F, rfl, rfl, by omega, Nat.le_refl _, by omega, Nat.le_refl _, by omega, by omega, ⟨by rw [hI'], by rw [hI', List.length_take]; omega, rfl⟩, hS1⟩
       case round =>
         clear hS1
         obtain ⟨k, k2, D, rfl, rfl, hkg, hk1, hkn, hki, hD1, hD2, hI2, hS⟩ := hrel
         have hHr := hS.holds hg hH (by simp; omega)
         by_cases hlt2 : k2 < n - i
         · obtain ⟨m, hm⟩ : ∃ m, m = i + k2 - 1 := ⟨_, rfl⟩
           obtain ⟨q, hq⟩ : ∃ q, q = k2 - 1 := ⟨_, rfl⟩
           obtain ⟨x, hx⟩ : ∃ x, F[i + k2]? = some x := ⟨_, List.getElem?_eq_getElem (by omega)⟩
           obtain ⟨y, hy⟩ : ∃ y, F[m]? = some y := ⟨_, List.getElem?_eq_getElem (by omega)⟩
           have hdr : D.drop m = F.drop m := by rw [hm]; exact (show _ ∧ _ ∧ _ from hI2).2.2
           have hxD : D[i + k2]? = some x := by
             have : (D.drop m)[1]? = (F.drop m)[1]? := by rw [hdr]
             rw [List.getElem?_drop, List.getElem?_drop, show m + 1 = i + k2 by omega] at this
             rw [this]; exact hx
           have hyD : D[m]? = some y := by
             have : (D.drop m)[0]? = (F.drop m)[0]? := by rw [hdr]
             rw [List.getElem?_drop, List.getElem?_drop, Nat.add_zero] at this
             rw [this]; exact hy
           obtain ⟨x0, x1, x2⟩ := holds_at hHr hxD
           obtain ⟨y0, y1, y2⟩ := holds_at hHr hyD
           obtain ⟨z, hz⟩ : ∃ z, D[k]? = some z := ⟨_, List.getElem?_eq_getElem (by omega)⟩
           obtain ⟨z0, z1, z2⟩ := holds_at hHr hz
           have f0 := frozen_holds hHr (t := k) (j := 0) (by omega) (by omega)
           have f1 := frozen_holds hHr (t := k) (j := 1) (by omega) (by omega)
           have f2 := frozen_holds hHr (t := k) (j := 2) (by omega) (by omega)
           rw [Nat.add_zero] at f0
           rw [show (i + k2) * 3 = i * 3 + k2 * 3 by omega] at x0 x1 x2
           rw [show m * 3 = i * 3 + q * 3 by omega] at y0 y1 y2
           obtain ⟨b, hb, he, hg1, hg2⟩ := eq_facts x y
           have HX : Hid (F[i + k2]? = some x ∧ F[i + k2 - 1]? = some y ∧ b = decide (x = y)) := ⟨hx, hm ▸ hy, hb⟩
           have hI1 : (k2 : Int) - 1 = q := by omega
           have hIw : IntKind.i64.wrap ((k2 : Int) - 1) = (q : Int) := by rw [hI1]; exact IntWalk.i64_in _ ⟨by omega, by omega⟩
           have hw3 : IntKind.i64.wrap (q : Int) = (q : Int) := IntWalk.i64_in _ ⟨by omega, by omega⟩
           have hqn : q + 1 ≤ k2 ∧ k2 ≤ q + 1 ∧ q < n - i := by omega
           have HS : Hid (SWK encV 3 w g 0 D.toArray wr) := hS
           clear hx hy hxD hyD hdr hz hb hI1 hS hHr hm hq
           obtain ⟨k3, n3, s3⟩ := x
           obtain ⟨k4, n4, s4⟩ := y
           simp only at x0 x1 x2 y0 y1 y2 he hg1 hg2
           go_wp2_with fail
           go_quiet (fail)
           have HSd : Hid (SWK encV 3 w g 0 D.toArray (wr.drewN nq)) := SWK.drewN HS _
           cases b with
           | true =>
             go_wp2
             go_roundg (n - i - (k2 + 1))
             case measure => omega
             case rel =>
               obtain ⟨hx, hy, hb⟩ := (show F[i + k2]? = some (⟨k3, n3, s3⟩ : Val) ∧ F[i + k2 - 1]? = some (⟨k4, n4, s4⟩ : Val) ∧ true = decide ((⟨k3, n3, s3⟩ : Val) = ⟨k4, n4, s4⟩) from HX)
               obtain ⟨q1, q2, q3⟩ := (show _ ∧ _ ∧ _ from hI2)
               have hO : onceE none (F.take (i + (k2 + 1))) = onceE none (F.take (i + k2)) := by
                 rw [show i + (k2 + 1) = i + k2 + 1 by omega, onceE_take F (by omega) hx hy, if_pos (of_decide_eq_true hb.symm), List.append_nil]
               refine ⟨k, k2 + 1, D, rfl, by go_num, Nat.le_refl _, by omega, by omega, by omega, hD1, hD2, ⟨by rw [hO]; exact q1, by rw [hO]; exact q2, ?_⟩, HSd⟩
               rw [show i + (k2 + 1) - 1 = i + k2 - 1 + 1 by omega, ← List.drop_drop, ← List.drop_drop, q3]
           | false =>
             have hS3 := swk_set (SWK.drewN HS nq) hg k [⟨k3, n3, s3⟩] (by simp; omega)
             have HS3 : Hid (SWK encV 3 w g 0 (D.take k ++ [(⟨k3, n3, s3⟩ : Val)] ++ D.drop (k + 1)).toArray ((((wr.drewN nq).setCell ⟨g, k * 3, none⟩ (.int .i64 k3)).setCell ⟨g, k * 3 + 1, none⟩ (.int .i64 n3)).setCell ⟨g, k * 3 + 2, none⟩ (.string s3))) := hS3
             clear hS3 hg1 hg2 he y0 y1 y2
             have x0 : (wr.drewN nq).cell? ⟨g, i * 3 + k2 * 3, none⟩ = some (.int .i64 k3) := x0
             have x1 : (wr.drewN nq).cell? ⟨g, i * 3 + k2 * 3 + 1, none⟩ = some (.int .i64 n3) := x1
             have x2 : (wr.drewN nq).cell? ⟨g, i * 3 + k2 * 3 + 2, none⟩ = some (.string s3) := x2
             have z0 : (wr.drewN nq).cell? ⟨g, k * 3, none⟩ = some (.int .i64 z.k) := z0
             have z1 : (wr.drewN nq).cell? ⟨g, k * 3 + 1, none⟩ = some (.int .i64 z.n) := z1
             have z2 : (wr.drewN nq).cell? ⟨g, k * 3 + 2, none⟩ = some (.string z.s) := z2
             have f0 : (wr.drewN nq).frozen? ⟨g, k * 3, none⟩ = false := f0
             have f1 : (wr.drewN nq).frozen? ⟨g, k * 3 + 1, none⟩ = false := f1
             have f2 : (wr.drewN nq).frozen? ⟨g, k * 3 + 2, none⟩ = false := f2
             generalize wr.drewN nq = wx at *
             clear HSd
             go_wp2
             go_roundg (n - i - (k2 + 1))
             case measure => omega
             case rel =>
               obtain ⟨hx, hy, hb⟩ := (show F[i + k2]? = some (⟨k3, n3, s3⟩ : Val) ∧ F[i + k2 - 1]? = some (⟨k4, n4, s4⟩ : Val) ∧ false = decide ((⟨k3, n3, s3⟩ : Val) = ⟨k4, n4, s4⟩) from HX)
               obtain ⟨q1, q2, q3⟩ := (show _ ∧ _ ∧ _ from hI2)
               have hO : onceE none (F.take (i + (k2 + 1))) = onceE none (F.take (i + k2)) ++ [⟨k3, n3, s3⟩] := by
                 rw [show i + (k2 + 1) = i + k2 + 1 by omega, onceE_take F (by omega) hx hy, if_neg (of_decide_eq_false hb.symm)]
               obtain ⟨p1, p2, p3, p4, p5⟩ := put_one (m := i + k2) hD1 hD2 (by omega) (by omega) q1 q2 q3 hO
               exact ⟨k + 1, k2 + 1, _, by go_num, by go_num, Nat.le_refl _, by omega, by omega, by omega, p1, p2, ⟨p3, p4, by rw [show i + (k2 + 1) - 1 = i + k2 by omega]; exact p5⟩, HS3⟩
         · have hk2 : k2 = n - i := by omega
           obtain ⟨q1, q2, q3⟩ := (show D.take k = onceE none (F.take (i + k2)) ∧ k = (onceE none (F.take (i + k2))).length ∧ D.drop (i + k2 - 1) = F.drop (i + k2 - 1) from hI2)
           rw [hk2, show i + (n - i) = n by omega, List.take_of_length_le (l := F) (by omega)] at q1 q2
           have HQ : Hid (D.take k = onceE none F ∧ k = (onceE none F).length) := ⟨q1, q2⟩
           have hcl := run_clear24 (cap := cap - k) hHr k (n - k) (by omega) (by omega) 0
           have hS3 := swk_set hS hg k (List.replicate (n - k) Val.zero) (by simp; omega)
           have HS3 : Hid (SWK encV 3 w g 0 (D.take k ++ List.replicate (n - k) Val.zero ++ D.drop (k + (List.replicate (n - k) Val.zero).length)).toArray (wr.setCells g (k * 3) (flatV (List.replicate (n - k) Val.zero)))) := hS3
           have hkn2 : k ≤ n ∧ k ≤ cap := by omega
           clear hS3 q1 q2 q3 hk2 hS hHr hI2
           generalize wr.setCells g (k * 3) (flatV (List.replicate (n - k) Val.zero)) = w9 at *
           go_wp2
           go_ret
           obtain ⟨q1, q2⟩ := (show D.take k = onceE none F ∧ k = (onceE none F).length from HQ)
           rw [← q2]
           have hF : F.length = n := HFn
           refine ⟨rfl, _, ?_, ?_, HS3⟩
           · simp; omega
           · rw [List.append_assoc, List.take_append_of_le_length (by rw [List.length_take]; omega), List.take_take, Nat.min_self]; exact q1
   · have HS : Hid (SWK encV 3 w g 0 F.toArray wr) := hS
     clear hS hS0
     go_wp2
     go_ret
     have hin' : i = n := by omega
     have hO' : onceE none (F.take i) = F.take i := hO
     rw [hin', List.take_of_length_le (by omega)] at hO'
     rw [hO']
     refine ⟨?_, F, rfl, List.take_length, HS⟩
     have : F.length = n := HFn
     rw [this]; rfl
end Go.Proofs.Ytcajncmjlmpkgaa

namespace Go.Proofs.Ytcajncmjlmpkgaa
open Go Go.RowKit Go.Deep Go.Sort Go.Shelf
set_option linter.unusedVariables false
set_option linter.unusedSimpArgs false
set_option maxRecDepth 100000
theorem rowV_prefix {w : World} {base n g cap m : Nat} {D : List Val} (h : w.ownsRow base 24 3 (.slice (some ⟨g, 0, none⟩) n cap) n (flatV D)) (hm : m ≤ n) : w.ownsRow base 24 3 (.slice (some ⟨g, 0, none⟩) m cap) m (flatV (D.take m)) := by
 have hn := rowV_len h
 refine ⟨by rw [flatV_len, List.length_take]; omega, ?_⟩
 rcases h.2 with ⟨e, _⟩ | ⟨g', cap', cur, e, h3, h4, h5, h6, h7, h8⟩
 · cases e
 · simp only [Value.slice.injEq, Option.some.injEq, Addr.mk.injEq, and_true] at e
   obtain ⟨rfl, _, rfl⟩ := e
   refine .inr ⟨g, cap, cur, rfl, h3, h4, by omega, h6, h7, ?_⟩
   rw [flatV_take, ← h8, List.take_take, Nat.min_eq_left (by omega)]
theorem rowV_cap {w : World} {base n g cap : Nat} {D : List Val} (h : w.ownsRow base 24 3 (.slice (some ⟨g, 0, none⟩) n cap) n (flatV D)) : n ≤ cap ∧ g < w.heap.size ∧ base ≤ g := by
 rcases h.2 with ⟨e, _⟩ | ⟨g', cap', cur, e, h3, h4, h5, h6, h7, h8⟩
 · cases e
 · simp only [Value.slice.injEq, Option.some.injEq, Addr.mk.injEq, and_true] at e
   obtain ⟨rfl, _, rfl⟩ := e
   exact ⟨h5, (Array.getElem?_eq_some_iff.1 h4).1, h3⟩
def own_ (a : Option Addr) (k : Nat) : Prop := ∃ x, a = some x ∧ x.block = k
theorem swk_turn {w W : World} {g : Nat} {D : Array Val} (h : SWK encV 3 w g 0 D W) : Turn w W (own_ (some ⟨g, 0, none⟩)) := by
 obtain ⟨q, os, rfl⟩ := h
 refine ⟨rfl, rfl, rfl, ?_, fun k hk hn => ?_⟩
 · simp [sortWorldK, grow, putRowK, putRow, size_mapBlock, Sort.ahead]
 · unfold sortWorldK
   rw [heap_grow (by rw [putRowK, putRow, size_mapBlock]; exact hk), putRowK, putRow, heap_mapBlock_other _ (fun e => hn ⟨_, rfl, e.symm⟩)]; rfl
theorem Turn.refl' (w : World) (own : Nat → Prop) : Turn w w own := ⟨rfl, rfl, rfl, Nat.le_refl _, fun _ _ _ => rfl⟩
theorem sort_row {base : Nat} {w1 : World} {a1 : Option Addr} {c1 : Nat} {l : List Val} (hown : w1.ownsRow base 24 3 (.slice a1 l.length c1) l.length (flatV l)) (hl : l.length ≤ 2000000) :
   Calls Try.prog 87 #[.slice a1 l.length c1, .func (.func 72) #[] #[]] w1 fun e w' => e = .returned (.tuple #[]) ∧ ∃ F, F.Perm l ∧ F.Pairwise (fun x y => 0 ≤ orderV y x) ∧ w'.ownsRow base 24 3 (.slice a1 l.length c1) l.length (flatV F) ∧ Turn w1 w' (own_ a1) := by
 by_cases h0 : l = []
 · subst h0
   refine (sortV_none a1 c1 _ w1).mono ?_
   rintro e w' ⟨rfl, rfl⟩
   exact ⟨rfl, [], List.Perm.refl _, List.Pairwise.nil, hown, Turn.refl' _ _⟩
 · have hpos : 0 < l.length := List.length_pos_iff.2 h0
   obtain ⟨a, c, e, hf⟩ := rowV_slice hown
   simp only [Value.slice.injEq] at e
   obtain ⟨rfl, _, rfl⟩ := e
   obtain ⟨g, rfl, _, hg⟩ := hf hpos
   have hc := sortV_w g 0 c1 l.toArray w1 (holdsV hown) hg (by simp; omega)
   have hsz : l.toArray.size = l.length := by simp
   rw [hsz] at hc
   refine hc.mono ?_
   rintro e w' ⟨rfl, d', n, os, hP, hs, rfl⟩
   rw [← hsz] at hP
   obtain ⟨hp1, hp2⟩ := permIn_list hP
   have hd : d'.toList.toArray = d' := by simp
   have hS : SWK encV 3 w1 g 0 d'.toList.toArray (sortWorldK encV 3 w1 g 0 n d' os) := ⟨n, os, by rw [hd]⟩
   exact ⟨rfl, d'.toList, hp1, sortedIn_list (by rw [hp2]; exact hs), (swk_row hown (by simpa using hp2) hS).1, swk_turn hS⟩
theorem compact_row {base : Nat} {w1 : World} {a1 : Option Addr} {c1 n : Nat} {F : List Val} (hown : w1.ownsRow base 24 3 (.slice a1 n c1) n (flatV F)) (hl : n ≤ 2000000) :
   Calls Try.prog 88 #[.slice a1 n c1] w1 fun e w' => ∃ t, e = .returned t ∧ w'.ownsRow base 24 3 t (onceE none F).length (flatV (onceE none F)) ∧ Turn w1 w' (own_ a1) := by
 have hn := rowV_len hown
 by_cases h2 : n < 2
 · refine (compact_short a1 n c1 h2 w1).mono ?_
   rintro e w' ⟨rfl, rfl⟩
   have hF : onceE none F = F := by
     match F, hn with
     | [], _ => rfl
     | [x], _ => rfl
     | x :: y :: r, h => simp at h; omega
   rw [hF, ← hn]
   exact ⟨_, rfl, hown, Turn.refl' _ _⟩
 · obtain ⟨a, c, e, hf⟩ := rowV_slice hown
   simp only [Value.slice.injEq] at e
   obtain ⟨rfl, _, rfl⟩ := e
   obtain ⟨g, rfl, _, hg⟩ := hf (by omega)
   refine (compact_w g c1 n F w1 (holdsV hown) hg hn.symm (by omega) hl (rowV_cap hown).1).mono ?_
   rintro e w' ⟨rfl, D, hD1, hD2, hS⟩
   have h3 := (swk_row hown hD1 hS).1
   have h4 := rowV_prefix (m := (onceE none F).length) h3 (by have := onceE_len F none; omega)
   rw [hD2] at h4
   exact ⟨_, rfl, h4, swk_turn hS⟩
theorem turn_since {w w1 w2 : World} {a : Option Addr} (h : w.Since w.heap.size w1) (k : Turn w1 w2 (own_ a)) (hn : ∀ x, a = some x → w.heap.size ≤ x.block) : w.Since w.heap.size w2 :=
 ⟨k.os.trans h.os, k.tape.trans h.tape, k.output.trans h.output, Nat.le_trans h.size k.size, fun j hj => (k.block j (by have := h.size; omega) (fun ⟨x, e, e2⟩ => by have := hn x e; omega)).trans (h.block j hj)⟩
theorem row_new {w : World} {base n c : Nat} {a : Option Addr} {F : List Val} (h : w.ownsRow base 24 3 (.slice a n c) n (flatV F)) : ∀ x, a = some x → base ≤ x.block := by
 rintro x rfl
 rcases h.2 with ⟨e, _⟩ | ⟨g', cap', cur, e, h3, _⟩
 · cases e
 · simp only [Value.slice.injEq, Option.some.injEq] at e
   rw [e.1]; exact h3
set_option maxHeartbeats 1000000 in
theorem unlikeP_w (v : Value) (l : List Val) (w : World) (hR : RdL w v l.length (flatV l)) (hsl : ∃ a c, v = .slice a l.length c) (hl : l.length ≤ 2000000) :
   Calls Try.prog 69 #[v] w fun e w' => ∃ t F, e = .returned t ∧ w'.ownsRow w.heap.size 24 3 t (onceE none F).length (flatV (onceE none F)) ∧ w.Since w.heap.size w' ∧ F.Perm l ∧ F.Pairwise (fun x y => 0 ≤ orderV y x) := by
 have hcl := cloneV_w v l w hR hsl hl
 clear hR hsl
 go_enter Try.func69, Try.ntmps69
 go_wp2_with (first
   | (go_at_call 33; (with_reducible refine hcl.mono ?_); rintro e w1 ⟨t1, rfl, hown1, hs1⟩; obtain ⟨a1, c1, rfl, hf1⟩ := rowV_slice hown1)
   | (go_at_call 87; (with_reducible refine (sort_row hown1 hl).mono ?_); rintro e w2 ⟨rfl, F, hp, hs, hown2, hT2⟩)
   | (go_at_call 88; (with_reducible refine (compact_row hown2 hl).mono ?_); rintro e w3 ⟨t3, rfl, hown3, hT3⟩))
 go_ret
 have hn := row_new hown1
 exact ⟨_, F, rfl, hown3, turn_since hs1 ⟨hT3.os.trans hT2.os, hT3.tape.trans hT2.tape, hT3.output.trans hT2.output, Nat.le_trans hT2.size hT3.size, fun j hj h => (hT3.block j (by have := hT2.size; omega) h).trans (hT2.block j hj h)⟩ hn, hp, hs⟩
theorem unlike_c (l : List Val) (C : List (List PV)) (hC : l.map Val.cells = C) (hl : l.length ≤ 2000000) (hc : Clean l) : PCall Try.prog 69 [.sl C] fun r => r = [.sl ((words l).map Val.cells)] :=
 pcall_row hC (by kernel_rfl) fun w v hr hs => (unlikeP_w v l w hr hs hl).mono fun e w' ⟨t, F, h1, h2, h3, h4, h5⟩ => by
   rw [onceE_F F none (fun x hx => hc x (h4.mem_iff.1 hx)) (fun q e => by cases e), once_words hc h4 h5] at h2
   exact ⟨t, h1, h2, h3⟩
end Go.Proofs.Ytcajncmjlmpkgaa

namespace Go.Proofs.Ytcajncmjlmpkgaa
open Go Go.RowKit
set_option maxRecDepth 100000
set_option linter.unusedSimpArgs false
set_option linter.unusedVariables false
def Few (l : List Val) : Prop := l.length ≤ 4096 ∧ ∀ v ∈ l, v.s.size ≤ 1000
theorem Few.sub {l u : List Val} (h : Few l) (hl : u.length ≤ l.length) (hu : ∀ v ∈ u, v ∈ l) : Few u := ⟨Nat.le_trans hl h.1, fun v hv => h.2 v (hu v hv)⟩
theorem Few.take {l : List Val} (h : Few l) (n : Nat) : Few (l.take n) := h.sub (by simp; omega) fun v hv => List.mem_of_mem_take hv
def plainB (l : List Val) : List UInt8 := (l.map valB).flatten
theorem valB_le {v : Val} (h : v.s.size ≤ 1000) : (valB v).length ≤ 1010 := by
 rw [valB]; split
 · rw [byW_len]; decide
 · rw [List.length_append, byW_len, byts_len]; show 2 + _ ≤ _; omega
theorem plainB_len : ∀ {l : List Val}, (∀ v ∈ l, v.s.size ≤ 1000) → (plainB l).length ≤ 1010 * l.length
 | [], _ => by simp [plainB]
 | v :: l, h => by
   have h1 := plainB_len (l := l) fun x hx => h x (List.mem_cons_of_mem _ hx)
   have h2 := valB_le (h v (List.mem_cons_self ..))
   have e : plainB (v :: l) = valB v ++ plainB l := by simp [plainB]
   rw [e, List.length_append, List.length_cons]; omega
theorem plainB_succ {l : List Val} {i : Nat} {v : Val} (h : l[i]? = some v) : plainB (l.take (i + 1)) = plainB (l.take i) ++ valB v := by
 rw [List.take_add_one, h]; simp [plainB]
structure AtB (N : Nat) (b : List UInt8) (L : List (List PV)) (m : Nat) : Prop where
 e : bl b = L
 len : L.length = m
 le : b.length ≤ N
theorem AtB.own {N : Nat} {b : List UInt8} {L : List (List PV)} {m : Nat} (h : AtB N b L m) : OwnB N b L m := .mk' h.e h.len h.le
theorem OwnB.mono {N M : Nat} {b : List UInt8} {L : List (List PV)} {m : Nat} (h : OwnB N b L m) (k : N ≤ M) : OwnB M b L m := ⟨h.e, h.len, Nat.le_trans h.le k⟩
set_option maxHeartbeats 1000000 in
theorem plain_c (l : List Val) (C : List (List PV)) (hC : l.map Val.cells = C) (hl : Few l) (b : List UInt8) (L0 : List (List PV)) (m0 : Nat) (hb : OwnB 50000000 b L0 m0) (L3 : List (List PV)) (m3 : Nat) (hL3 : bl (b ++ plainB l) = L3) (hm3 : L3.length = m3) :
   ACall Try.prog 37 [.tok 0 L0, .p (.sl C)] [.spare m0 1] fun r H' => r = .tok 0 L3 ∧ takeX H' 1 = [.spare m3 1] := by
 have hb2 := hb.le
 have hbl := hb.blen
 have hCl : C.length = l.length := by rw [← hC, List.length_map]
 have hl0 := hl.1
 refine ACall.x (nt := ⟨18, []⟩) (res := [.tmp 4]) mixed tt_ok [] Try.func37 rfl rfl rfl c37 (Nat.le_of_ble_eq_true rfl) ?_
 intro cp cc lp Q' hcp hcc hlp hQ
 repeat' (first
   | (with_reducible refine Nm.mk ?_; intro z hz)
   | (with_reducible refine IfB.mk ?_ ?_ <;> (intro h; cases h))
   | (with_reducible refine Two.l ?_; refine Asm.mk ?_ ?_; focus (decide +kernel))
   | (with_reducible refine Two.r ?_)
   | (with_reducible refine TwoT.r ?_)
   | (with_reducible refine TwoU.r ?_)
   | (with_reducible refine Asm.mk ?_ ?_; focus (first | (show (_ : Bool) = true; kernel_rfl)))
   | (with_reducible refine Asm.mk2 ?_ ?_)
   | ((fail_if_success (with_reducible first | refine hQ _ _ ?_ | refine Side.mk ?_ | refine isCP hcp ?_ | refine isCC hcc ?_ | refine isLP hlp ?_ | refine Ix.mk ?_ | refine SIx.mk ?_ | refine SEx.mk ?_ | refine EIx.mk ?_ | refine RIx.mk ?_ | refine LkX.mk ?_ | show False | refine hR ?_ _ ?_ ?_ ?_ ?_ ?_ | refine hR2 ?_ _ ?_ ?_ ?_ ?_ ?_)); cbv))
 have hzl : z = (l.length : Int) := by rw [← hz, ← hCl]
 clear hz
 refine loopT (ι := Int × List (List PV) × Nat) mixed tt_ok hcp hcc hlp [7, 8] (fun p => [(9, .p (.int .i64 p.1)), (0, .tok 0 p.2.1)]) (fun p => [.spare p.2.2 1]) (fun p => 0 ≤ p.1 ∧ p.1 ≤ l.length ∧ bl (b ++ plainB (l.take p.1.toNat)) = p.2.1 ∧ p.2.1.length = p.2.2) (fun p => (l.length - p.1).toNat) (0, L0, m0) 1 (fun _ => rfl) ⟨Int.le_refl _, by show (0 : Int) ≤ _; omega, by simpa [plainB] using hb.e, hb.len⟩ ⟨rfl, rfl, trivial⟩ rfl ?_
 rintro R ⟨i, L, m⟩ ⟨hi0, hi1, hL, hm⟩ hR
 replace hi0 : 0 ≤ i := hi0
 replace hi1 : i ≤ l.length := hi1
 replace hL : bl (b ++ plainB (l.take i.toNat)) = L := hL
 replace hm : L.length = m := hm
 have hk : decide (i < z) = true → i < l.length := fun h => by have := of_decide_eq_true h; omega
 have hgo : decide (i < z) = true → 0 ≤ i + 1 ∧ i + 1 ≤ l.length ∧ (l.length - (i + 1)).toNat < (l.length - i).toNat ∧ IntKind.i64.wrap (i + 1) = i + 1 ∧ (i + 1).toNat = i.toNat + 1 := by
   intro h
   have := of_decide_eq_true h
   exact ⟨by omega, by omega, by omega, wrap_in (by omega), by omega⟩
 have hend : decide (i < z) = false → i.toNat = l.length := by
   intro h
   have := of_decide_eq_false h
   omega
 have hpl : ∀ j, (plainB (l.take j)).length ≤ 4136960 := by
   intro j
   have h1 := plainB_len (l := l.take j) (hl.take j).2
   have h2 := (hl.take j).1
   omega
 have hO : OwnB 100000000 (b ++ plainB (l.take i.toNat)) L m := .mk' hL hm (by have := hpl i.toNat; rw [List.length_append]; omega)
 have hsx : ∀ {x : Val}, l[i.toNat]? = some x → x.s.size ≤ 2000000 := fun h => Nat.le_trans (hl.2 _ (List.mem_of_getElem? h)) (by decide)
 repeat' (first
   | (with_reducible refine Nm.mk ?_; intro z hz)
   | (with_reducible refine IfB.mk ?_ ?_ <;> (intro h; cases h))
   | (with_reducible refine Two.l ?_; refine Asm.mk ?_ ?_; focus (decide +kernel))
   | (with_reducible refine Two.r ?_)
   | (with_reducible refine TwoT.r ?_)
   | (with_reducible refine TwoU.r ?_)
   | (with_reducible refine Asm.mk ?_ ?_; focus (first | (show (_ : Bool) = true; kernel_rfl)))
   | (with_reducible refine Ix.map hC cells_len (by decide) hi0 (hk (by assumption)) ?_; intro x hx)
   | (with_reducible refine isCC hcc ?_; refine valueCC hcc 0 x _ rfl rfl hO (hsx hx) rfl ?_; intro L2 m2 hL2 hm2)
   | (with_reducible refine Asm.mk2 ?_ ?_)
   | ((fail_if_success (with_reducible first | refine hQ _ _ ?_ | refine Side.mk ?_ | refine isCP hcp ?_ | refine isCC hcc ?_ | refine isLP hlp ?_ | refine Ix.mk ?_ | refine SIx.mk ?_ | refine SEx.mk ?_ | refine EIx.mk ?_ | refine RIx.mk ?_ | refine LkX.mk ?_ | show False | refine hR ?_ _ ?_ ?_ ?_ ?_ ?_ | refine hR2 ?_ _ ?_ ?_ ?_ ?_ ?_)); cbv))
 · obtain ⟨g1, g2, g3, g4, g5⟩ := hgo (by assumption)
   rw [g4] at hz
   subst hz
   refine hR (i + 1, L2, m2) _ ⟨g1, g2, ?_, hm2⟩ g3 ⟨rfl, rfl, trivial⟩ ⟨rfl, rfl, trivial⟩ rfl
   show bl (b ++ plainB (l.take (i + 1).toNat)) = L2
   rw [g5, plainB_succ hx, ← List.append_assoc]; exact hL2
 · have hii := hend hz
   have e : L = L3 := by rw [← hL, ← hL3, hii, List.take_length]
   subst e
   refine hQ _ _ ⟨rfl, ?_⟩
   rw [← hm3, hm]; rfl
theorem plainCC {cc : FuncId → List AV → List AObj → (AV → List AObj → Prop) → Prop} (hcc : ACall Try.prog = cc) (id : Nat) {l : List Val} {C : List (List PV)} (hC : l.map Val.cells = C) (hl : Few l) (b : List UInt8) {L : List (List PV)} {m : Nat} {H : List AObj} {args : List AV} {K : AV → List AObj → Prop} (ha : args = [.tok id L, .p (.sl C)]) (hb : OwnB 50000000 b L m) (hH : nth H id = some (.spare m 1))
   (k : ∀ L2 m2, bl (b ++ plainB l) = L2 → L2.length = m2 → K (.tok id L2) (setX H id (.spare m2 1))) : cc 37 args H K := by
 subst ha
 refine frameT (H1 := [.spare (bl (b ++ plainB l)).length 1]) hcc [id] (plain_c l C hC hl b L m hb _ _ rfl rfl) (by simp [onceX, idxX]) rfl rfl ?_ rfl (k _ _ rfl rfl)
 simp only [optL, hH]; rfl
end Go.Proofs.Ytcajncmjlmpkgaa

namespace Go.Proofs.Ytcajncmjlmpkgaa
open Go Go.RowKit
set_option maxRecDepth 100000
set_option linter.unusedSimpArgs false
set_option linter.unusedVariables false
def aheadN (x : Val) : List Val → Nat
 | [] => 0
 | y :: l => if y = x then aheadN x l + 1 else 0
def groups : List Val → List (Nat × Val)
 | [] => []
 | x :: l => (aheadN x l + 1, x) :: groups (l.drop (aheadN x l))
termination_by l => l.length
decreasing_by simp only [List.length_drop, List.length_cons]; omega
theorem groups_cons (x : Val) (l : List Val) : groups (x :: l) = (aheadN x l + 1, x) :: groups (l.drop (aheadN x l)) := by rw [groups]
theorem aheadN_of {x : Val} : ∀ {l : List Val} {n : Nat}, (∀ j, j < n → l[j]? = some x) → (∀ y, l[n]? = some y → y ≠ x) → aheadN x l = n
 | [], n, h, _ => by
   cases n with
   | zero => rfl
   | succ n => have := h 0 (by omega); cases this
 | y :: l, 0, _, h2 => by
   have := h2 y rfl
   rw [aheadN, if_neg this]
 | y :: l, n + 1, h, h2 => by
   have h0 := h 0 (by omega)
   simp only [List.getElem?_cons_zero, Option.some.injEq] at h0
   rw [aheadN, if_pos h0, aheadN_of (n := n) (fun j hj => by have := h (j + 1) (by omega); simpa using this) (fun y hy => h2 y (by simpa using hy))]
def groupB (g : Nat × Val) : List UInt8 := byW 4 (u64 g.1) ++ valB g.2
def groupsB (d : List (Nat × Val)) : List UInt8 := (d.map groupB).flatten
theorem groupsB_snoc (d : List (Nat × Val)) (g : Nat × Val) : groupsB (d ++ [g]) = groupsB d ++ groupB g := by simp [groupsB]
structure Upto (l : List Val) (i : Nat) (d : List (Nat × Val)) : Prop where
 e : groups l = d ++ groups (l.drop i)
 n : d.length ≤ i
 le : i ≤ l.length
 v : ∀ g ∈ d, g.2 ∈ l
theorem Upto.zero (l : List Val) : Upto l 0 [] := ⟨rfl, Nat.le_refl _, Nat.zero_le _, fun _ h => by cases h⟩
theorem Upto.step {l : List Val} {i k : Nat} {d : List (Nat × Val)} {x : Val} (h : Upto l i d) (hx : l[i]? = some x) (hik : i < k) (hk : k ≤ l.length) (h1 : ∀ j, i < j → j < k → l[j]? = some x) (h2 : ∀ y, l[k]? = some y → y ≠ x) : Upto l k (d ++ [(k - i, x)]) := by
 have hil := (List.getElem?_eq_some_iff.1 hx).1
 have hn := h.n
 refine ⟨?_, by simp; omega, hk, fun g hg => ?_⟩
 · have e : l.drop i = x :: l.drop (i + 1) := by
     rw [List.drop_eq_getElem_cons hil]
     have := List.getElem?_eq_getElem hil
     rw [hx] at this
     simp only [Option.some.injEq] at this
     rw [← this]
   have a : aheadN x (l.drop (i + 1)) = k - i - 1 := aheadN_of (fun j hj => by rw [List.getElem?_drop]; exact h1 _ (by omega) (by omega)) (fun y hy => by rw [List.getElem?_drop] at hy; exact h2 y (by rw [← hy]; congr 1; omega))
   rw [h.e, e, groups_cons, a, List.drop_drop, List.append_assoc]
   rw [show k - i - 1 + 1 = k - i by omega, show i + 1 + (k - i - 1) = k by omega]; rfl
 · rcases List.mem_append.1 hg with hg | hg
   · exact h.v g hg
   · simp only [List.mem_singleton] at hg; subst hg; exact List.mem_of_getElem? hx
theorem Upto.end_ {l : List Val} {d : List (Nat × Val)} (h : Upto l l.length d) : groups l = d := by
 rw [h.e, List.drop_length]; simp [groups]
theorem groupsB_len {d : List (Nat × Val)} : (∀ g ∈ d, g.2.s.size ≤ 1000) → (groupsB d).length ≤ 1014 * d.length := by
 induction d with
 | nil => intro _; simp [groupsB]
 | cons g d ih =>
   intro h
   have h1 := ih fun x hx => h x (List.mem_cons_of_mem _ hx)
   have h2 := valB_le (h g (by simp))
   have e : groupsB (g :: d) = groupB g ++ groupsB d := by simp [groupsB]
   have h4 : (byW 4 (u64 g.1)).length = 4 := by rw [byW_len]; rfl
   rw [e, List.length_append, List.length_cons, groupB, List.length_append]; omega
def runsB (l : List Val) : List UInt8 := byW 4 (u64 (groups l).length) ++ groupsB (groups l)
set_option maxHeartbeats 1000000 in
theorem runs_c (l : List Val) (C : List (List PV)) (hC : l.map Val.cells = C) (hl : Few l) (b : List UInt8) (L0 : List (List PV)) (m0 : Nat) (hb : OwnB 40000000 b L0 m0) (L3 : List (List PV)) (m3 : Nat) (hL3 : bl (b ++ runsB l) = L3) (hm3 : L3.length = m3) :
   ACall Try.prog 38 [.tok 0 L0, .p (.sl C)] [.spare m0 1] fun r H' => r = .tok 0 L3 ∧ takeX H' 1 = [.spare m3 1] := by
 have hb2 := hb.le
 have hbl := hb.blen
 have hCl : C.length = l.length := by rw [← hC, List.length_map]
 have hl0 := hl.1
 refine ACall.x (nt := ⟨52, []⟩) (res := [.tmp 4]) mixed tt_ok [] Try.func38 rfl rfl rfl c38 (Nat.le_of_ble_eq_true rfl) ?_
 intro cp cc lp Q' hcp hcc hlp hQ
 repeat' (first
   | (with_reducible refine Nm.mk ?_; intro z hz)
   | (with_reducible refine IfB.mk ?_ ?_ <;> (intro h; cases h))
   | (with_reducible refine Two.l ?_; refine Asm.mk ?_ ?_; focus (decide +kernel))
   | (with_reducible refine Two.r ?_)
   | (with_reducible refine TwoT.r ?_)
   | (with_reducible refine TwoU.r ?_)
   | (with_reducible refine Asm.mk ?_ ?_; focus (first | (show (_ : Bool) = true; kernel_rfl)))
   | (with_reducible refine Asm.mk2 ?_ ?_)
   | ((fail_if_success (with_reducible first | refine hQ _ _ ?_ | refine Side.mk ?_ | refine isCP hcp ?_ | refine isCC hcc ?_ | refine isLP hlp ?_ | refine Ix.mk ?_ | refine SIx.mk ?_ | refine SEx.mk ?_ | refine EIx.mk ?_ | refine RIx.mk ?_ | refine LkX.mk ?_ | show False | refine hR ?_ _ ?_ ?_ ?_ ?_ ?_ | refine hR2 ?_ _ ?_ ?_ ?_ ?_ ?_)); cbv))
 refine mintT hlp 1 5 rfl ?_
 refine loopT (ι := Int × Int × List (List PV) × Nat × List (Nat × Val)) mixed tt_ok hcp hcc hlp [0, 1] (fun p => [(7, .p (.int .i64 p.1)), (6, .p (.int .i64 p.2.1)), (5, .tok 1 p.2.2.1)]) (fun p => [.spare m0 1, .spare p.2.2.2.1 1]) (fun p => 0 ≤ p.1 ∧ Upto l p.1.toNat p.2.2.2.2 ∧ p.2.1 = p.2.2.2.2.length ∧ bl (groupsB p.2.2.2.2) = p.2.2.1 ∧ p.2.2.1.length = p.2.2.2.1) (fun p => (l.length - p.1).toNat) (0, 0, [], 0, []) 2 (fun _ => rfl) ⟨Int.le_refl _, Upto.zero l, rfl, rfl, rfl⟩ ⟨rfl, rfl, rfl, trivial⟩ rfl ?_
 rintro R ⟨i, q, L, m, d⟩ ⟨hi0, hU, hq, hL, hm⟩ hR
 replace hi0 : 0 ≤ i := hi0
 replace hU : Upto l i.toNat d := hU
 replace hq : q = d.length := hq
 replace hL : bl (groupsB d) = L := hL
 replace hm : L.length = m := hm
 have hqn := hU.n
 have hil := hU.le
 have hqs : ∀ (n : Nat) (x : Val), IntKind.i64.wrap (q + 1) = ((d ++ [(n, x)]).length : Int) := by
   intro n x
   rw [wrap_in (by omega), List.length_append, List.length_singleton]; omega
 have hqz : IntKind.i64.wrap q = (d.length : Int) := by rw [hq, wrap_in (by omega)]
 have hqu : u64 q = u64 (d.length : Int) := by rw [hq]
 have hk : ∀ {z : Int}, (C.length : Int) = z → decide (i < z) = true → i < l.length := fun h h1 => by have := of_decide_eq_true h1; omega
 repeat' (first
   | (with_reducible refine Nm.mk ?_; intro z hz)
   | (with_reducible refine IfB.mk ?_ ?_ <;> (intro h; cases h))
   | (with_reducible refine Two.l ?_; refine Asm.mk ?_ ?_; focus (decide +kernel))
   | (with_reducible refine Two.r ?_)
   | (with_reducible refine TwoT.r ?_)
   | (with_reducible refine TwoU.r ?_)
   | (with_reducible refine Asm.mk ?_ ?_; focus (first | (show (_ : Bool) = true; kernel_rfl)))
   | (with_reducible refine Asm.mk2 ?_ ?_)
   | ((fail_if_success (with_reducible first | refine hQ _ _ ?_ | refine Side.mk ?_ | refine isCP hcp ?_ | refine isCC hcc ?_ | refine isLP hlp ?_ | refine Ix.mk ?_ | refine SIx.mk ?_ | refine SEx.mk ?_ | refine EIx.mk ?_ | refine RIx.mk ?_ | refine LkX.mk ?_ | show False | refine hR ?_ _ ?_ ?_ ?_ ?_ ?_ | refine hR2 ?_ _ ?_ ?_ ?_ ?_ ?_)); cbv))
 · have hii : i < l.length := by
     rename_i hzc hzd
     exact hk hzc hzd
   have hw : z = i + 1 := by rw [← hz]; exact wrap_in (by omega)
   clear hz
   subst hw
   obtain ⟨x, hx⟩ : ∃ x, l[i.toNat]? = some x := ⟨_, List.getElem?_eq_getElem (by omega)⟩
   have hdz : ∀ g ∈ d, g.2.s.size ≤ 1000 := fun g hg => hl.2 _ (hU.v g hg)
   have hdl := groupsB_len hdz
   have hO : OwnB 100000000 (groupsB d) L m := .mk' hL hm (by omega)
   have hO2 : ∀ {n : Int} {L2 : List (List PV)} {m2 : Nat}, bl (groupsB d ++ byW 4 n) = L2 → L2.length = m2 → OwnB 100000000 (groupsB d ++ byW 4 n) L2 m2 := by
     intro n L2 m2 h1 h2
     refine .mk' h1 h2 ?_
     rw [List.length_append, byW_len]; show _ + 4 ≤ _; omega
   have hOe := hO.e
   have hOl := hO.len
   have hOn : m ≤ 1000000000 := by have := hO.le; omega
   have hpos : ∀ {x m : Int}, IntKind.u64.wrap x = m → 0 ≤ m := fun h => h ▸ u64_pos _
   have hsx : ∀ {x : Val}, l[i.toNat]? = some x → x.s.size ≤ 2000000 := fun h => Nat.le_trans (hl.2 _ (List.mem_of_getElem? h)) (by decide)
   refine loopT (ι := Int) mixed tt_ok hcp hcc hlp [0, 1, 5, 6, 7] (fun k => [(8, .p (.int .i64 k))]) (fun _ => [.spare m0 1, .spare m 1]) (fun k => i < k ∧ k ≤ l.length ∧ ∀ j : Nat, i.toNat < j → j < k.toNat → l[j]? = some x) (fun k => (l.length - k).toNat) (i + 1) 2 (fun _ => rfl) ⟨by show i < i + 1; omega, by show i + 1 ≤ l.length; omega, fun j h1 h2 => by omega⟩ ⟨rfl, trivial⟩ rfl ?_
   rintro R2 k ⟨hk0, hk1, hsame⟩ hR2
   replace hk0 : i < k := hk0
   replace hk1 : k ≤ l.length := hk1
   have hk0' : 0 ≤ k := by omega
   have harm1 : ∀ {y : Val}, l[k.toNat]? = some y → y = x → (i < k + 1 ∧ k + 1 ≤ l.length ∧ ∀ j : Nat, i.toNat < j → j < (k + 1).toNat → l[j]? = some x) ∧ (l.length - (k + 1)).toNat < (l.length - k).toNat ∧ IntKind.i64.wrap (k + 1) = k + 1 := by
     rintro y hy rfl
     have hkl := (List.getElem?_eq_some_iff.1 hy).1
     refine ⟨⟨by omega, by omega, fun j h1 h2 => ?_⟩, by omega, wrap_in (by omega)⟩
     rcases Nat.lt_or_ge j k.toNat with h3 | h3
     · exact hsame j h1 h3
     · rw [show j = k.toNat by omega]; exact hy
   have harm2 : (∀ y, l[k.toNat]? = some y → y ≠ x) → ∃ n : Nat, Upto l k.toNat (d ++ [(n, x)]) ∧ IntKind.i64.wrap (k - i) = (n : Int) ∧ IntKind.i64.wrap (q + 1) = ((d ++ [(n, x)]).length : Int) ∧ (l.length - k).toNat < (l.length - i).toNat := by
     intro h
     refine ⟨k.toNat - i.toNat, hU.step hx (by omega) (by omega) hsame h, ?_, ?_, by omega⟩
     · rw [wrap_in (by omega)]; omega
     · exact hqs _ _
   have hlast : ∀ {z : Int}, (C.length : Int) = z → decide (k < z) = false → ∀ y, l[k.toNat]? = some y → y ≠ x := by
     intro z h1 h2 y hy
     have hkl := (List.getElem?_eq_some_iff.1 hy).1
     have := of_decide_eq_false h2
     omega
   have hkk : ∀ {z : Int}, (C.length : Int) = z → decide (k < z) = true → k < l.length := fun h h1 => by have := of_decide_eq_true h1; omega
   repeat' (first
     | (with_reducible refine TwoU.l ?_; refine putWFr hcc 1 4 (groupsB d) rfl (hpos (by assumption)) (by decide) hOe hOl hOn rfl ?_; intro Lp mp hLp hmp)
     | (with_reducible refine TwoU.l ?_; refine valueFr hcc 1 x1 _ rfl rfl (hO2 (by assumption) (by assumption)) (hsx hx1) rfl ?_; intro L5 m5 hL5 hm5)
     | (with_reducible refine Nm.mk ?_; intro z hz)
     | (with_reducible refine IfB.mk ?_ ?_ <;> (intro h; cases h))
     | (with_reducible refine Two.l ?_; refine Asm.mk ?_ ?_; focus (decide +kernel))
     | (with_reducible refine Two.r ?_)
     | (with_reducible refine TwoT.r ?_)
     | (with_reducible refine TwoU.r ?_)
     | (with_reducible refine Asm.mk ?_ ?_; focus (first | (show (_ : Bool) = true; kernel_rfl)))
     | (with_reducible refine Ix.map hC cells_len (by decide) hk0' (hkk (by assumption) (by assumption)) ?_; intro y hy)
     | (with_reducible refine Ix.map hC cells_len (by decide) hi0 hii ?_; intro x1 hx1)
     | (with_reducible refine Asm.mk2 ?_ ?_)
     | ((fail_if_success (with_reducible first | refine hQ _ _ ?_ | refine Side.mk ?_ | refine isCP hcp ?_ | refine isCC hcc ?_ | refine isLP hlp ?_ | refine Ix.mk ?_ | refine SIx.mk ?_ | refine SEx.mk ?_ | refine EIx.mk ?_ | refine RIx.mk ?_ | refine LkX.mk ?_ | show False | refine hR ?_ _ ?_ ?_ ?_ ?_ ?_ | refine hR2 ?_ _ ?_ ?_ ?_ ?_ ?_)); cbv))
   · rename_i zc hzc hzd he
     have e1 : x1 = x := by rw [hx] at hx1; exact (Option.some.inj hx1).symm
     have e : y = x := by
       rw [eqB_val] at he
       exact (of_decide_eq_true he : y = x1).trans e1
     obtain ⟨g1, g2, g3⟩ := harm1 hy e
     rw [g3] at hz
     subst hz
     exact hR2 (k + 1) _ g1 g2 ⟨rfl, trivial⟩ ⟨rfl, rfl, rfl, rfl, rfl, trivial⟩ rfl
   · rename_i zc hzc hzd x2 hx2 he zn hzn zu hzu
     have e1 : x1 = x := by rw [hx] at hx1; exact (Option.some.inj hx1).symm
     have e2 : x2 = x := by rw [hx] at hx2; exact (Option.some.inj hx2).symm
     have hne : ∀ v, l[k.toNat]? = some v → v ≠ x := by
       intro v hv e
       rw [hy] at hv
       rw [eqB_val] at he
       exact of_decide_eq_false he (show y = x2 by rw [e2, ← e]; exact Option.some.inj hv)
     obtain ⟨n, gU, gn, gq, gm⟩ := harm2 hne
     refine hR (k, z, L5, m5, d ++ [(n, x)]) _ ⟨hk0', gU, hz.symm.trans gq, ?_, hm5⟩ gm ⟨rfl, rfl, rfl, trivial⟩ ⟨rfl, rfl, trivial⟩ rfl
     show bl (groupsB (d ++ [(n, x)])) = L5
     rw [← hL5, groupsB_snoc, groupB, ← hzu, ← hzn, gn, e1, List.append_assoc]; rfl
   · rename_i zc hzc hzd zn hzn zu hzu
     have e1 : x1 = x := by rw [hx] at hx1; exact (Option.some.inj hx1).symm
     obtain ⟨n, gU, gn, gq, gm⟩ := harm2 (hlast hzc hzd)
     refine hR (k, z, L5, m5, d ++ [(n, x)]) _ ⟨hk0', gU, hz.symm.trans gq, ?_, hm5⟩ gm ⟨rfl, rfl, rfl, trivial⟩ ⟨rfl, rfl, trivial⟩ rfl
     show bl (groupsB (d ++ [(n, x)])) = L5
     rw [← hL5, groupsB_snoc, groupB, ← hzu, ← hzn, gn, e1, List.append_assoc]; rfl
 · have hpos : ∀ {x m : Int}, IntKind.u64.wrap x = m → 0 ≤ m := fun h => h ▸ u64_pos _
   have hOe := hb.e
   have hOl := hb.len
   have hOn : m0 ≤ 1000000000 := by have := hb.le; omega
   have hb4 : ∀ {z : Int}, (b ++ byW 4 z).length ≤ 100000000 := by
     intro z; rw [List.length_append, byW_len]; show b.length + 4 ≤ _; omega
   have hdl := groupsB_len (d := d) fun g hg => hl.2 _ (hU.v g hg)
   have hLn : L.length ≤ 1000000000 := by rw [← hL, List.length_map]; omega
   have hLo : okEs 1 L = true := by rw [← hL]; exact okEs_bl _
   have hend : ∀ {z : Int}, (C.length : Int) = z → decide (i < z) = false → groups l = d := by
     intro z h1 h2
     have h3 := of_decide_eq_false h2
     have e : i.toNat = l.length := by omega
     rw [e] at hU
     exact hU.end_
   repeat' (first
     | (with_reducible refine Nm.mk ?_; intro z hz)
     | (with_reducible refine IfB.mk ?_ ?_ <;> (intro h; cases h))
     | (with_reducible refine Two.l ?_; refine Asm.mk ?_ ?_; focus (decide +kernel))
     | (with_reducible refine Two.r ?_)
     | (with_reducible refine TwoT.r ?_)
     | (with_reducible refine TwoU.r ?_)
     | (with_reducible refine Asm.mk ?_ ?_; focus (first | exact (OwnB.mk' (N := 100000000) (by assumption) (by assumption) hb4).side (by decide) hLo hLn | (show (_ : Bool) = true; kernel_rfl)))
     | (with_reducible refine isCC hcc ?_; refine putWCC hcc 0 4 b rfl (hpos (by assumption)) (by decide) hOe hOl hOn rfl ?_; intro Lp mp hLp hmp)
     | (with_reducible refine Asm.mk2 ?_ ?_)
     | ((fail_if_success (with_reducible first | refine hQ _ _ ?_ | refine Side.mk ?_ | refine isCP hcp ?_ | refine isCC hcc ?_ | refine isLP hlp ?_ | refine Ix.mk ?_ | refine SIx.mk ?_ | refine SEx.mk ?_ | refine EIx.mk ?_ | refine RIx.mk ?_ | refine LkX.mk ?_ | show False | refine hR ?_ _ ?_ ?_ ?_ ?_ ?_ | refine hR2 ?_ _ ?_ ?_ ?_ ?_ ?_)); cbv))
   rename_i zc hzc hzd zu hzu zs hzs
   have e := hend hzc hzd
   have e3 : zs = L3 := by
     rw [← hzs, ← hLp, ← hL, ← hL3, runsB, e, ← hzu, ← List.append_assoc]
     have : u64 (d.length : Int) = IntKind.u64.wrap q := hqu.symm
     rw [this]
     exact List.map_append.symm
   subst e3
   refine hQ _ _ ⟨rfl, ?_⟩
   rw [← hm3, ← hz, ← hzs, List.length_append]; rfl
theorem runsCC {cc : FuncId → List AV → List AObj → (AV → List AObj → Prop) → Prop} (hcc : ACall Try.prog = cc) (id : Nat) {l : List Val} {C : List (List PV)} (hC : l.map Val.cells = C) (hl : Few l) (b : List UInt8) {L : List (List PV)} {m : Nat} {H : List AObj} {args : List AV} {K : AV → List AObj → Prop} (ha : args = [.tok id L, .p (.sl C)]) (hb : OwnB 40000000 b L m) (hH : nth H id = some (.spare m 1))
   (k : ∀ L2 m2, bl (b ++ runsB l) = L2 → L2.length = m2 → K (.tok id L2) (setX H id (.spare m2 1))) : cc 38 args H K := by
 subst ha
 refine frameT (H1 := [.spare (bl (b ++ runsB l)).length 1]) hcc [id] (runs_c l C hC hl b L m hb _ _ rfl rfl) (by simp [onceX, idxX]) rfl rfl ?_ rfl (k _ _ rfl rfl)
 simp only [optL, hH]; rfl
end Go.Proofs.Ytcajncmjlmpkgaa

namespace Go.Proofs.Ytcajncmjlmpkgaa
open Go Go.RowKit
set_option maxRecDepth 100000
set_option linter.unusedSimpArgs false
set_option linter.unusedVariables false
theorem len_c (x : Int) (hx : 0 ≤ x ∧ x < 18446744073709551616) : PCall Try.prog 70 [.int .u64 x] fun r => r = [.int .i64 (lenI x)] := by
 refine PCall.x (nt := ⟨8, []⟩) (res := [.tmp 2]) mixed tt_ok [] Try.func70 rfl rfl rfl c70 (Nat.le_of_ble_eq_true rfl) ?_
 intro cp cc lp Q' hcp hcc hlp hQ
 repeat' (first
   | (with_reducible refine Nm.mk ?_; intro z hz)
   | (with_reducible refine IfB.mk ?_ ?_ <;> (intro h; cases h))
   | (with_reducible refine Two.l ?_; refine Asm.mk ?_ ?_; focus (decide +kernel))
   | (with_reducible refine Two.r ?_)
   | (with_reducible refine TwoT.r ?_)
   | (with_reducible refine TwoU.r ?_)
   | (with_reducible refine Asm.mk ?_ ?_; focus (first | (show (_ : Bool) = true; kernel_rfl) | decide))
   | (with_reducible refine isCP hcp ?_; first | (refine iP hcp (len64_c x hx) ?_; intro z hz))
   | (with_reducible refine isCC hcc ?_; first | (refine iA hcc (len64_c x hx) rfl ?_; intro z hz))
   | (with_reducible refine Asm.mk2 ?_ ?_)
   | ((fail_if_success (with_reducible first | refine hQ _ ?_ | refine Side.mk ?_ | refine isCP hcp ?_ | refine isCC hcc ?_ | refine isLP hlp ?_ | refine Ix.mk ?_ | refine SIx.mk ?_ | refine SEx.mk ?_ | refine EIx.mk ?_ | refine RIx.mk ?_ | refine LkX.mk ?_ | show False | refine hR ?_ _ ?_ ?_ ?_ ?_ ?_ | refine hR2 ?_ _ ?_ ?_ ?_ ?_ ?_)); cbv))
 exact hQ _ (by rw [← hz])
theorem search_c (u : List Val) (C : List (List PV)) (hC : u.map Val.cells = C) (hu : Rise u) (hl : u.length ≤ 1000000) (x : Val) (p : Nat) (hp : u[p]? = some x) :
   PCall Try.prog 71 [.sl C, .agg [.int .i64 x.k, .int .i64 x.n, .str x.s], .fn 72 []] fun r => r = [.int .i64 (p : Int), .bool true] := by
 refine PCall.x (nt := ⟨49, []⟩) (res := [.tmp 6, .tmp 7]) mixed tt_ok [] Try.func71 rfl rfl rfl c71 (Nat.le_of_ble_eq_true rfl) ?_
 intro cp cc lp Q' hcp hcc hlp hQ
 repeat' (first
   | (with_reducible refine Nm.mk ?_; intro z hz)
   | (with_reducible refine IfB.mk ?_ ?_ <;> (intro h; cases h))
   | (with_reducible refine Two.l ?_; refine Asm.mk ?_ ?_; focus (decide +kernel))
   | (with_reducible refine Two.r ?_)
   | (with_reducible refine TwoT.r ?_)
   | (with_reducible refine TwoU.r ?_)
   | (with_reducible refine Asm.mk ?_ ?_; focus (first | (show (_ : Bool) = true; kernel_rfl) | decide))
   | (with_reducible refine Asm.mk2 ?_ ?_)
   | ((fail_if_success (with_reducible first | refine hQ _ ?_ | refine Side.mk ?_ | refine isCP hcp ?_ | refine isCC hcc ?_ | refine isLP hlp ?_ | refine Ix.mk ?_ | refine SIx.mk ?_ | refine SEx.mk ?_ | refine EIx.mk ?_ | refine RIx.mk ?_ | refine LkX.mk ?_ | show False | refine hR ?_ _ ?_ ?_ ?_ ?_ ?_ | refine hR2 ?_ _ ?_ ?_ ?_ ?_ ?_)); cbv))
 have hCl : (C.length : Int) = u.length := by rw [← hC, List.length_map]
 have hzl : z = (u.length : Int) := by rw [← hz]; exact hCl
 clear hz
 have hpl := (List.getElem?_eq_some_iff.1 hp).1
 refine loopT (ι := Int × Int) mixed tt_ok hcp hcc hlp [0, 2, 4, 8] (fun q => [(9, .p (.int .i64 q.1)), (10, .p (.int .i64 q.2))]) (fun _ => [.cells [.p (.int .i64 x.k), .p (.int .i64 x.n), .p (.str x.s)]]) (fun q => 0 ≤ q.1 ∧ q.1 ≤ p ∧ p ≤ q.2 ∧ q.2 ≤ u.length) (fun q => (q.2 - q.1).toNat) (0, z) 1 (fun _ => rfl) ⟨Int.le_refl _, by show (0 : Int) ≤ p; omega, by show (p : Int) ≤ z; omega, by show z ≤ (u.length : Int); omega⟩ ⟨rfl, rfl, trivial⟩ rfl ?_
 rintro R ⟨i, j⟩ ⟨h1, h2, h3, h4⟩ hR
 replace h1 : 0 ≤ i := h1
 replace h2 : i ≤ p := h2
 replace h3 : p ≤ j := h3
 replace h4 : j ≤ u.length := h4
 have hmid : ∀ {a b c d : Int}, IntKind.i64.wrap d = c → b.fdiv (2 ^ min (Int.toNat 1) IntKind.u64.bits) = d → IntKind.u64.wrap a = b → IntKind.i64.wrap (i + j) = a → c = (i + j) / 2 := by
   intro a b c d e1 e2 e3 e4
   rw [wrap_in (by omega)] at e4
   have e5 : IntKind.u64.wrap a = a := by
     simp [IntKind.wrap, IntKind.bits, IntKind.signed]; omega
   rw [e5] at e3
   subst e3 e4
   rw [Int.fdiv_eq_ediv_of_nonneg _ (by decide)] at e2
   have e6 : (2 : Int) ^ min (Int.toNat 1) IntKind.u64.bits = 2 := by decide
   rw [e6] at e2
   rw [← e1, ← e2, wrap_in (by omega)]
 have hh : decide (i < j) = true → 0 ≤ (i + j) / 2 ∧ (i + j) / 2 < u.length := by
   intro h
   have := of_decide_eq_true h
   omega
 have hA : ∀ {a b c d : Int}, IntKind.i64.wrap d = c → b.fdiv (2 ^ min (Int.toNat 1) IntKind.u64.bits) = d → IntKind.u64.wrap a = b → IntKind.i64.wrap (i + j) = a → decide (i < j) = true → 0 ≤ c := fun e1 e2 e3 e4 h => by rw [hmid e1 e2 e3 e4]; exact (hh h).1
 have hB : ∀ {a b c d : Int}, IntKind.i64.wrap d = c → b.fdiv (2 ^ min (Int.toNat 1) IntKind.u64.bits) = d → IntKind.u64.wrap a = b → IntKind.i64.wrap (i + j) = a → decide (i < j) = true → c < u.length := fun e1 e2 e3 e4 h => by rw [hmid e1 e2 e3 e4]; exact (hh h).2
 have hiu : decide (i < z) = true → i < u.length := fun h => by have := of_decide_eq_true h; omega
 have hlow : ∀ {m : Nat} {y : Val}, u[m]? = some y → orderV y x < 0 → m < p := by
   intro m y hy h
   rcases Nat.lt_or_ge m p with h5 | h5
   · exact h5
   · exfalso
     rcases Nat.eq_or_lt_of_le h5 with h6 | h6
     · subst h6; rw [hp] at hy; rw [← Option.some.inj hy, order_self] at h; omega
     · have hml := (List.getElem?_eq_some_iff.1 hy)
       have hpe := (List.getElem?_eq_some_iff.1 hp)
       have := (List.pairwise_iff_getElem.1 hu) p m hpl hml.1 h6
       rw [hml.2, hpe.2, order_swap] at this
       omega
 have hhigh : ∀ {m : Nat} {y : Val}, u[m]? = some y → ¬ orderV y x < 0 → p ≤ m := by
   intro m y hy h
   rcases Nat.lt_or_ge m p with h5 | h5
   · exfalso
     have hml := (List.getElem?_eq_some_iff.1 hy)
     have hpe := (List.getElem?_eq_some_iff.1 hp)
     have := (List.pairwise_iff_getElem.1 hu) m p hml.1 hpl h5
     rw [hml.2, hpe.2] at this
     exact h this
   · exact h5
 have hup : ∀ {a b c d w : Int} {y : Val}, IntKind.i64.wrap d = c → b.fdiv (2 ^ min (Int.toNat 1) IntKind.u64.bits) = d → IntKind.u64.wrap a = b → IntKind.i64.wrap (i + j) = a → decide (i < j) = true → u[c.toNat]? = some y → orderV y x < 0 → IntKind.i64.wrap (c + 1) = w → (0 ≤ w ∧ w ≤ p ∧ p ≤ j ∧ j ≤ u.length) ∧ (j - w).toNat < (j - i).toNat := by
   intro a b c d w y e1 e2 e3 e4 h hy ho hw
   have e := hmid e1 e2 e3 e4
   have h5 := hlow hy ho
   have h6 := of_decide_eq_true h
   rw [wrap_in (by omega)] at hw
   subst hw
   refine ⟨⟨by omega, by omega, h3, h4⟩, by omega⟩
 have hdn : ∀ {a b c d : Int} {y : Val}, IntKind.i64.wrap d = c → b.fdiv (2 ^ min (Int.toNat 1) IntKind.u64.bits) = d → IntKind.u64.wrap a = b → IntKind.i64.wrap (i + j) = a → decide (i < j) = true → u[c.toNat]? = some y → ¬ orderV y x < 0 → (0 ≤ i ∧ i ≤ p ∧ p ≤ c ∧ c ≤ u.length) ∧ (c - i).toNat < (j - i).toNat := by
   intro a b c d y e1 e2 e3 e4 h hy ho
   have e := hmid e1 e2 e3 e4
   have h5 := hhigh hy ho
   have h6 := of_decide_eq_true h
   refine ⟨⟨h1, h2, by omega, by omega⟩, by omega⟩
 have hfin : decide (i < j) = false → i = (p : Int) := by
   intro h
   have := of_decide_eq_false h
   omega
 have hfin2 : decide (i < z) = false → decide (i < j) = false → False := by
   intro h h'
   have := of_decide_eq_false h
   have := of_decide_eq_false h'
   omega
 repeat' (first
   | (with_reducible refine Nm.mk ?_; intro z hz)
   | (with_reducible refine IfB.mk ?_ ?_ <;> (intro h; cases h))
   | (with_reducible refine Two.l ?_; refine Asm.mk ?_ ?_; focus (decide +kernel))
   | (with_reducible refine Two.r ?_)
   | (with_reducible refine TwoT.r ?_)
   | (with_reducible refine TwoU.r ?_)
   | (with_reducible refine Asm.mk ?_ ?_; focus (first | (show (_ : Bool) = true; kernel_rfl) | decide))
   | (with_reducible refine isCP hcp ?_; first | (refine iP hcp (order_c _ _ _ _ _ _) ?_; intro z hz))
   | (with_reducible refine isCC hcc ?_; first | (refine iA hcc (order_c _ _ _ _ _ _) rfl ?_; intro z hz))
   | (with_reducible refine Ix.map hC cells_len (by decide) (hA (by assumption) (by assumption) (by assumption) (by assumption) (by assumption)) (hB (by assumption) (by assumption) (by assumption) (by assumption) (by assumption)) ?_; intro y hy)
   | (with_reducible refine Ix.map hC cells_len (by decide) h1 (hiu (by assumption)) ?_; intro y2 hy2)
   | (with_reducible refine Asm.mk2 ?_ ?_)
   | ((fail_if_success (with_reducible first | refine hQ _ ?_ | refine Side.mk ?_ | refine isCP hcp ?_ | refine isCC hcc ?_ | refine isLP hlp ?_ | refine Ix.mk ?_ | refine SIx.mk ?_ | refine SEx.mk ?_ | refine EIx.mk ?_ | refine RIx.mk ?_ | refine LkX.mk ?_ | show False | refine hR ?_ _ ?_ ?_ ?_ ?_ ?_ | refine hR2 ?_ _ ?_ ?_ ?_ ?_ ?_)); cbv))
 · rename_i hij a e4 b e3 d e2 c e1 o ho hneg
   have ho2 : orderV y x < 0 := by have := of_decide_eq_true hneg; rw [← ho] at this; exact this
   obtain ⟨g1, g2⟩ := hup e1 e2 e3 e4 hij hy ho2 hz
   exact hR (z, j) _ g1 g2 ⟨rfl, rfl, trivial⟩ ⟨rfl, rfl, rfl, rfl, trivial⟩ rfl
 · rename_i hij a e4 b e3 d e2 c e1 ho
   have ho2 : ¬ orderV y x < 0 := by have := of_decide_eq_false hz; rw [← ho] at this; exact this
   obtain ⟨g1, g2⟩ := hdn e1 e2 e3 e4 hij hy ho2
   exact hR (i, c) _ g1 g2 ⟨rfl, rfl, trivial⟩ ⟨rfl, rfl, rfl, rfl, trivial⟩ rfl
 · rename_i hij hiz o ho
   have e := hfin hij
   refine hQ _ ?_
   have e2 : y2 = x := by
     rw [e] at hy2
     rw [show ((p : Int)).toNat = p from rfl, hp] at hy2
     exact (Option.some.inj hy2).symm
   subst e2
   have e3 : o = 0 := by rw [← ho]; exact order_self y2
   rw [e, ← hz, e3]; rfl
 · rename_i hij
   exact (hfin2 hz hij).elim
end Go.Proofs.Ytcajncmjlmpkgaa

namespace Go.Proofs.Ytcajncmjlmpkgaa
open Go Go.RowKit
set_option maxRecDepth 100000
set_option linter.unusedSimpArgs false
set_option linter.unusedVariables false
def lowV : List Val → Int
 | [] => 0
 | x :: l => l.foldl (fun a v => min a v.n) x.n
def highV : List Val → Int
 | [] => 0
 | x :: l => l.foldl (fun a v => max a v.n) x.n
theorem lowV_snoc {l : List Val} {v : Val} (h : l ≠ []) : lowV (l ++ [v]) = min (lowV l) v.n := by
 cases l with
 | nil => exact absurd rfl h
 | cons x l => simp [lowV]
theorem highV_snoc {l : List Val} {v : Val} (h : l ≠ []) : highV (l ++ [v]) = max (highV l) v.n := by
 cases l with
 | nil => exact absurd rfl h
 | cons x l => simp [highV]
theorem take_snoc {α : Type} {l : List α} {i : Nat} {v : α} (h : l[i]? = some v) : l.take (i + 1) = l.take i ++ [v] := by
 rw [List.take_add_one, h]; rfl
theorem u64_in (n : Int) : 0 ≤ IntKind.u64.wrap n ∧ IntKind.u64.wrap n < 18446744073709551616 := by simp [IntKind.wrap, IntKind.bits, IntKind.signed]; omega
def offW (l : List Val) : Int := lenI (u64 (u64 (highV l) - u64 (lowV l)))
def offN (l : List Val) (v : Val) : Int := u64 (u64 v.n - u64 (lowV l))
def offsB (l : List Val) : List UInt8 := byW 8 (u64 (lowV l)) ++ [UInt8.ofNat (offW l).toNat] ++ bitsB (offW l) (l.map (offN l))
set_option maxHeartbeats 1000000 in
theorem offs_c (l : List Val) (C : List (List PV)) (hC : l.map Val.cells = C) (hl : Few l) (b : List UInt8) (L0 : List (List PV)) (m0 : Nat) (hb : OwnB 40000000 b L0 m0) (L3 : List (List PV)) (m3 : Nat) (hL3 : bl (b ++ offsB l) = L3) (hm3 : L3.length = m3) :
   ACall Try.prog 40 [.tok 0 L0, .p (.sl C)] [.spare m0 1] fun r H' => r = .tok 0 L3 ∧ takeX H' 1 = [.spare m3 1] := by
 have hb2 := hb.le
 have hbl := hb.blen
 have hCl : C.length = l.length := by rw [← hC, List.length_map]
 have hl0 := hl.1
 refine ACall.x (nt := ⟨68, []⟩) (res := [.tmp 4]) mixed tt_ok [] Try.func40 rfl rfl rfl c40 (Nat.le_of_ble_eq_true rfl) ?_
 intro cp cc lp Q' hcp hcc hlp hQ
 repeat' (first
   | (with_reducible refine Nm.mk ?_; intro z hz)
   | (with_reducible refine IfB.mk ?_ ?_ <;> (intro h; cases h))
   | (with_reducible refine Two.l ?_; refine Asm.mk ?_ ?_; focus (decide +kernel))
   | (with_reducible refine Two.r ?_)
   | (with_reducible refine TwoT.r ?_)
   | (with_reducible refine TwoU.r ?_)
   | (with_reducible refine Asm.mk ?_ ?_; focus (first | (show (_ : Bool) = true; kernel_rfl)))
   | (with_reducible refine Asm.mk2 ?_ ?_)
   | ((fail_if_success (with_reducible first | refine hQ _ _ ?_ | refine Side.mk ?_ | refine isCP hcp ?_ | refine isCC hcc ?_ | refine isLP hlp ?_ | refine Ix.mk ?_ | refine SIx.mk ?_ | refine SEx.mk ?_ | refine EIx.mk ?_ | refine RIx.mk ?_ | refine LkX.mk ?_ | show False | refine hR ?_ _ ?_ ?_ ?_ ?_ ?_ | refine hR2 ?_ _ ?_ ?_ ?_ ?_ ?_)); cbv))
 have hzl : z = (l.length : Int) := by rw [← hz, ← hCl]
 clear hz
 refine loopT (ι := Int × Int × Int) mixed tt_ok hcp hcc hlp [0, 1, 13, 14] (fun p => [(15, .p (.int .i64 p.1)), (5, .p (.int .i64 p.2.1)), (6, .p (.int .i64 p.2.2))]) (fun _ => [.spare m0 1]) (fun p => 0 ≤ p.1 ∧ p.1 ≤ l.length ∧ lowV (l.take p.1.toNat) = p.2.1 ∧ highV (l.take p.1.toNat) = p.2.2) (fun p => (l.length - p.1).toNat) (0, 0, 0) 1 (fun _ => rfl) ⟨Int.le_refl _, by show (0 : Int) ≤ _; omega, rfl, rfl⟩ ⟨rfl, rfl, rfl, trivial⟩ rfl ?_
 rintro R ⟨i, lo, hi⟩ ⟨hi0, hi1, hlo, hhi⟩ hR
 replace hi0 : 0 ≤ i := hi0
 replace hi1 : i ≤ l.length := hi1
 replace hlo : lowV (l.take i.toNat) = lo := hlo
 replace hhi : highV (l.take i.toNat) = hi := hhi
 have hk : decide (i < z) = true → i < l.length := fun h => by have := of_decide_eq_true h; omega
 have hgo : decide (i < z) = true → 0 ≤ i + 1 ∧ i + 1 ≤ l.length ∧ (l.length - (i + 1)).toNat < (l.length - i).toNat ∧ IntKind.i64.wrap (i + 1) = i + 1 ∧ (i + 1).toNat = i.toNat + 1 := by
   intro h
   have := of_decide_eq_true h
   exact ⟨by omega, by omega, by omega, wrap_in (by omega), by omega⟩
 have hend : decide (i < z) = false → i.toNat = l.length := by
   intro h
   have := of_decide_eq_false h
   omega
 have hst0 : ∀ {x : Val}, l[i.toNat]? = some x → decide (i = 0) = true → lowV (l.take (i + 1).toNat) = x.n ∧ highV (l.take (i + 1).toNat) = x.n := by
   intro x hx h
   have := of_decide_eq_true h
   subst this
   rw [show ((0 : Int) + 1).toNat = (0 : Int).toNat + 1 from rfl, take_snoc hx]
   exact ⟨rfl, rfl⟩
 have hst1 : ∀ {x : Val}, l[i.toNat]? = some x → decide (i = 0) = false → lowV (l.take (i + 1).toNat) = (if x.n < lo then x.n else lo) ∧ highV (l.take (i + 1).toNat) = (if hi < x.n then x.n else hi) := by
   intro x hx h
   have h1 := of_decide_eq_false h
   have hil := (List.getElem?_eq_some_iff.1 hx).1
   have hne : l.take i.toNat ≠ [] := by
     intro e
     have := congrArg List.length e
     rw [List.length_take, List.length_nil] at this
     omega
   rw [show (i + 1).toNat = i.toNat + 1 by omega, take_snoc hx, lowV_snoc hne, highV_snoc hne, hlo, hhi]
   exact ⟨by split <;> omega, by split <;> omega⟩
 repeat' (first
   | (with_reducible refine Nm.mk ?_; intro z hz)
   | (with_reducible refine IfB.mk ?_ ?_ <;> (intro h; cases h))
   | (with_reducible refine Two.l ?_; refine Asm.mk ?_ ?_; focus (decide +kernel))
   | (with_reducible refine Two.r ?_)
   | (with_reducible refine TwoT.r ?_)
   | (with_reducible refine TwoU.r ?_)
   | (with_reducible refine Asm.mk ?_ ?_; focus (first | (show (_ : Bool) = true; kernel_rfl)))
   | (with_reducible refine Ix.map hC cells_len (by decide) hi0 (hk (by assumption)) ?_; intro x hx)
   | (with_reducible refine Asm.mk2 ?_ ?_)
   | ((fail_if_success (with_reducible first | refine hQ _ _ ?_ | refine Side.mk ?_ | refine isCP hcp ?_ | refine isCC hcc ?_ | refine isLP hlp ?_ | refine Ix.mk ?_ | refine SIx.mk ?_ | refine SEx.mk ?_ | refine EIx.mk ?_ | refine RIx.mk ?_ | refine LkX.mk ?_ | show False | refine hR ?_ _ ?_ ?_ ?_ ?_ ?_ | refine hR2 ?_ _ ?_ ?_ ?_ ?_ ?_)); cbv))
 · rename_i hiz hi00 z1 h1 z2 h2
   obtain ⟨g1, g2, g3, g4, g5⟩ := hgo hiz
   obtain ⟨e1, e2⟩ := hst0 hx hi00
   rw [g4] at hz
   subst hz
   exact hR (i + 1, z1, z2) _ ⟨g1, g2, e1.trans (by rw [← h1]; simp), e2.trans (by rw [← h2]; simp)⟩ g3 ⟨rfl, rfl, rfl, trivial⟩ ⟨rfl, rfl, rfl, rfl, trivial⟩ rfl
 · rename_i hiz hi00 z1 h1 z2 h2
   obtain ⟨g1, g2, g3, g4, g5⟩ := hgo hiz
   obtain ⟨e1, e2⟩ := hst1 hx hi00
   rw [g4] at hz
   subst hz
   exact hR (i + 1, z1, z2) _ ⟨g1, g2, e1.trans h1, e2.trans h2⟩ g3 ⟨rfl, rfl, rfl, trivial⟩ ⟨rfl, rfl, rfl, rfl, trivial⟩ rfl
 · have hpos : ∀ {x m : Int}, IntKind.u64.wrap x = m → 0 ≤ m := fun h => h ▸ u64_pos _
   have hu64 : ∀ {x m : Int}, IntKind.u64.wrap x = m → 0 ≤ m ∧ m < 18446744073709551616 := fun h => h ▸ u64_in _
   have hOe := hb.e
   have hOl := hb.len
   have hOn : m0 ≤ 1000000000 := by have := hb.le; omega
   have hii := hend (by assumption)
   rw [hii, List.take_length] at hlo hhi
   have hb8 : ∀ {z : Int}, (b ++ byW 8 z).length ≤ 100000000 := by
     intro z; rw [List.length_append, byW_len]; show b.length + 8 ≤ _; omega
   repeat' (first
     | (with_reducible refine Nm.mk ?_; intro z hz)
     | (with_reducible refine IfB.mk ?_ ?_ <;> (intro h; cases h))
     | (with_reducible refine Two.l ?_; refine Asm.mk ?_ ?_; focus (decide +kernel))
     | (with_reducible refine Two.r ?_)
     | (with_reducible refine TwoT.r ?_)
     | (with_reducible refine TwoU.r ?_)
     | (with_reducible refine Asm.mk ?_ ?_; focus (first | exact (OwnB.mk' (N := 100000000) (by assumption) (by assumption) hb8).side (by decide) rfl (Nat.le_of_ble_eq_true rfl) | (show (_ : Bool) = true; kernel_rfl)))
     | (with_reducible refine isCP hcp ?_; first | (refine iP hcp (len64_c _ (hu64 (by assumption))) ?_; intro w hw))
     | (with_reducible refine isCC hcc ?_; first | (refine iA hcc (len64_c _ (hu64 (by assumption))) rfl ?_; intro w hw))
     | (with_reducible refine isCC hcc ?_; refine putWCC hcc 0 8 b rfl (hpos (by assumption)) (by decide) hOe hOl hOn rfl ?_; intro Lp mp hLp hmp)
     | (with_reducible refine Asm.mk2 ?_ ?_)
     | ((fail_if_success (with_reducible first | refine hQ _ _ ?_ | refine Side.mk ?_ | refine isCP hcp ?_ | refine isCC hcc ?_ | refine isLP hlp ?_ | refine Ix.mk ?_ | refine SIx.mk ?_ | refine SEx.mk ?_ | refine EIx.mk ?_ | refine RIx.mk ?_ | refine LkX.mk ?_ | show False | refine hR ?_ _ ?_ ?_ ?_ ?_ ?_ | refine hR2 ?_ _ ?_ ?_ ?_ ?_ ?_)); cbv))
   rename_i z1 h1 z2 h2 z3 h3 z4 h4 zw h8 zL hzL zm hzm
   have hwW : w = offW l := by rw [← hw, ← h3, ← h1, ← h2, ← hlo, ← hhi]; rfl
   have hw0 := lenI_le z3
   rw [hw] at hw0
   have hzl2 : z = (l.length : Int) := by rw [← hz, ← hCl]
   have hLp8 : zL = bl (b ++ byW 8 (u64 lo) ++ [UInt8.ofNat w.toNat]) := by
     have e8 : zw = w := by rw [← h8, wrap_8]; omega
     have e9 : ((UInt8.ofNat w.toNat).toNat : Int) = w := by
       rw [UInt8.toNat_ofNat']
       omega
     have e10 : byteC (UInt8.ofNat w.toNat) = [PV.int .u8 zw] := by rw [byteC, e9, e8]
     rw [← hzL, ← hLp, ← e10, ← h4]; exact (List.map_append (l₁ := b ++ byW 8 (u64 lo)) (l₂ := [UInt8.ofNat w.toNat])).symm
   have hzLn : zL.length = zm := by rw [← hzL, ← hzm, List.length_append]
   clear hz
   refine mintVX hlp 1 1 0 rfl rfl ?_
   refine loopT (ι := Int × Int × Nat × List (List PV) × Nat) mixed tt_ok hcp hcc hlp [0, 5, 9, 10, 49, 50] (fun p => [(51, .p (.int .i64 p.1))]) (fun p => [.spare zm 1, .cells [.vec 2 p.2.2.1 1 0 p.2.2.2.2, .p (.int .i64 p.2.1)], .vec p.2.2.1 p.2.2.2.1 1]) (fun p => 0 ≤ p.1 ∧ p.1 ≤ l.length ∧ w * p.1 = p.2.1 ∧ bl (bitsB w ((l.take p.1.toNat).map (offN l))) = p.2.2.2.1 ∧ p.2.2.2.1.length = p.2.2.2.2) (fun p => (l.length - p.1).toNat) (0, 0, 0, [], 0) 3 (fun _ => rfl) ⟨Int.le_refl _, by show (0 : Int) ≤ _; omega, by simp, rfl, rfl⟩ ⟨rfl, trivial⟩ rfl ?_
   rintro R2 ⟨j, a, g, L, n⟩ ⟨hj0, hj1, ha, hL, hn⟩ hR2
   replace hj0 : 0 ≤ j := hj0
   replace hj1 : j ≤ l.length := hj1
   replace ha : w * j = a := ha
   replace hL : bl (bitsB w ((l.take j.toNat).map (offN l))) = L := hL
   replace hn : L.length = n := hn
   have hjn : ((List.take j.toNat l).map (offN l)).length = j.toNat := by rw [List.length_map, List.length_take]; omega
   have hA8 : At8 a (bitsB w ((List.take j.toNat l).map (offN l))) := by
     have := bitsB_at (W := w) hw0.1 ((List.take j.toNat l).map (offN l))
     rw [hjn, show ((j.toNat : Nat) : Int) = j by omega, ha] at this
     exact this
   have hale : a ≤ 262144 := by
     rw [← ha]
     have h1 : w * j ≤ 64 * 4096 := Int.le_trans (Int.mul_le_mul_of_nonneg_right hw0.2 hj0) (Int.mul_le_mul_of_nonneg_left (by omega) (by decide))
     omega
   have hale2 : a ≤ 1000000000 := by omega
   have hLlen : L.length ≤ 1000000 := by
     have := hA8.2
     rw [← hL, List.length_map]; omega
   have hdrop : ∀ {y : List (List PV)}, List.take n (List.drop 0 L) = y → okEs 1 y = true ∧ y.length ≤ 1000000000 ∧ y = L := by
     rintro y rfl
     have e : List.take n (List.drop 0 L) = L := by rw [List.drop_zero, ← hn, List.take_length]
     rw [e]
     exact ⟨by rw [← hL]; exact okEs_bl _, by omega, rfl⟩
   have hnL : 0 + n ≤ L.length := by omega
   have hO : OwnB 100000000 (b ++ byW 8 (u64 lo) ++ [UInt8.ofNat w.toNat]) zL zm := .mk' hLp8.symm hzLn (by
     rw [List.length_append, List.length_append, byW_len]; show b.length + 8 + 1 ≤ _; omega)
   have hk2 : decide (j < z) = true → j < l.length := fun h => by have := of_decide_eq_true h; omega
   have hgo2 : decide (j < z) = true → 0 ≤ j + 1 ∧ j + 1 ≤ l.length ∧ (l.length - (j + 1)).toNat < (l.length - j).toNat ∧ IntKind.i64.wrap (j + 1) = j + 1 ∧ (j + 1).toNat = j.toNat + 1 ∧ w * (j + 1) = a + w ∧ w * ((j.toNat : Nat) : Int) = a := by
     intro h
     have := of_decide_eq_true h
     exact ⟨by omega, by omega, by omega, wrap_in (by omega), by omega, by rw [Int.mul_add, ha, Int.mul_one], by rw [show ((j.toNat : Nat) : Int) = j by omega]; exact ha⟩
   have hend2 : decide (j < z) = false → j.toNat = l.length := by
     intro h
     have := of_decide_eq_false h
     omega
   have hgn : bl (b ++ offsB l) = zL ++ bl (bitsB w (l.map (offN l))) := by
     rw [hLp8, offsB, ← hwW, ← hlo, ← List.append_assoc, ← List.append_assoc]
     exact List.map_append
   repeat' (first
     | (with_reducible refine Nm.mk ?_; intro z hz)
     | (with_reducible refine IfB.mk ?_ ?_ <;> (intro h; cases h))
     | (with_reducible refine Two.l ?_; refine Asm.mk ?_ ?_; focus (decide +kernel))
     | (with_reducible refine Two.r ?_)
     | (with_reducible refine TwoT.r ?_)
     | (with_reducible refine TwoU.r ?_)
     | (with_reducible refine Asm.mk ?_ ?_; focus (first | exact ⟨rfl, rfl, hnL⟩ | exact hO.side (by decide) (hdrop (by assumption)).1 (hdrop (by assumption)).2.1 | (show (_ : Bool) = true; kernel_rfl)))
     | (with_reducible refine Ix.map hC cells_len (by decide) hj0 (hk2 (by assumption)) ?_; intro x hx)
     | (with_reducible refine isCC hcc ?_; refine putCC hcc 1 2 (by decide) _ w a hw0 g _ hA8 hale2 hL hn rfl rfl rfl ?_; intro g' L' n' a' hL' hn' ha')
     | (with_reducible refine Asm.mk2 ?_ ?_)
     | ((fail_if_success (with_reducible first | refine hQ _ _ ?_ | refine Side.mk ?_ | refine isCP hcp ?_ | refine isCC hcc ?_ | refine isLP hlp ?_ | refine Ix.mk ?_ | refine SIx.mk ?_ | refine SEx.mk ?_ | refine EIx.mk ?_ | refine RIx.mk ?_ | refine LkX.mk ?_ | show False | refine hR ?_ _ ?_ ?_ ?_ ?_ ?_ | refine hR2 ?_ _ ?_ ?_ ?_ ?_ ?_)); cbv))
   · rename_i hjz z5 h5 z6 h6 z7 h7
     obtain ⟨g1, g2, g3, g4, g5, g6, g7⟩ := hgo2 hjz
     rw [g4] at hz
     subst hz
     refine hR2 (j + 1, a', g', L', n') _ ⟨g1, g2, g6.trans ha', ?_, hn'⟩ g3 ⟨rfl, trivial⟩ ⟨rfl, rfl, rfl, rfl, rfl, rfl, trivial⟩ rfl
     show bl (bitsB w ((l.take (j + 1).toNat).map (offN l))) = L'
     rw [g5, bitsB_succ hx, g7, ← hL']
     have e7 : offN l x = z7 := by rw [← h7, ← h6, ← h5, ← hlo]; rfl
     rw [e7]
   · rename_i hjz y hy zR hzR
     have e := (hdrop hy).2.2
     have e2 : zR = L3 := by
       rw [← hzR, e, ← hL3, hgn, ← hL, hend2 hjz, List.take_length]
     subst e2
     refine hQ _ _ ⟨rfl, ?_⟩
     rw [← hm3, ← hz, ← hzR, List.length_append]; rfl
theorem offsCC {cc : FuncId → List AV → List AObj → (AV → List AObj → Prop) → Prop} (hcc : ACall Try.prog = cc) (id : Nat) {l : List Val} {C : List (List PV)} (hC : l.map Val.cells = C) (hl : Few l) (b : List UInt8) {L : List (List PV)} {m : Nat} {H : List AObj} {args : List AV} {K : AV → List AObj → Prop} (ha : args = [.tok id L, .p (.sl C)]) (hb : OwnB 40000000 b L m) (hH : nth H id = some (.spare m 1))
   (k : ∀ L2 m2, bl (b ++ offsB l) = L2 → L2.length = m2 → K (.tok id L2) (setX H id (.spare m2 1))) : cc 40 args H K := by
 subst ha
 refine frameT (H1 := [.spare (bl (b ++ offsB l)).length 1]) hcc [id] (offs_c l C hC hl b L m hb _ _ rfl rfl) (by simp [onceX, idxX]) rfl rfl ?_ rfl (k _ _ rfl rfl)
 simp only [optL, hH]; rfl
end Go.Proofs.Ytcajncmjlmpkgaa

namespace Go.Proofs.Ytcajncmjlmpkgaa
open Go Go.RowKit
set_option maxRecDepth 100000
set_option linter.unusedSimpArgs false
set_option linter.unusedVariables false
def placeV (x : Val) : List Val → Nat
 | [] => 0
 | y :: l => if y = x then 0 else placeV x l + 1
theorem placeV_ok {x : Val} : ∀ {u : List Val}, x ∈ u → u[placeV x u]? = some x
 | [], h => by cases h
 | y :: u, h => by
   rw [placeV]
   split
   · rename_i e; rw [e]; rfl
   · rename_i e
     have : x ∈ u := by
       rcases List.mem_cons.1 h with h1 | h1
       · exact absurd h1.symm e
       · exact h1
     rw [List.getElem?_cons_succ]; exact placeV_ok this
theorem schP {P : Program} {cp : FuncId → List PV → (CR → Prop) → Prop} (hcp : PC1 P = cp) {f : FuncId} {args : List PV} {X : Int} {b : Bool} {K : CR → Prop} (h : PCall P f args fun r => r = [.int .i64 X, .bool b]) (k : ∀ z, X = z → K (.pure [.int .i64 z, .bool b])) : cp f args K := eP hcp h fun r hr => hr ▸ k _ rfl
theorem schA {P : Program} {cc : FuncId → List AV → List AObj → (AV → List AObj → Prop) → Prop} (hcc : ACall P = cc) {f : FuncId} {aargs : List AV} {args : List PV} {H : List AObj} {X : Int} {b : Bool} {K : AV → List AObj → Prop} (h : PCall P f args fun r => r = [.int .i64 X, .bool b]) (ha : optL pureX aargs = some args) (k : ∀ z, X = z → K (packV (mapX .p [.int .i64 z, .bool b])) H) : cc f aargs H K := eA hcc h ha fun r hr => hr ▸ k _ rfl
theorem insW_len (x : Val) : ∀ u : List Val, (insW x u).length ≤ u.length + 1
 | [] => by simp [insW]
 | y :: u => by
   have := insW_len x u
   rw [insW]
   split
   · simp
   · split
     · simp
     · simp; omega
theorem words_len : ∀ l : List Val, (words l).length ≤ l.length
 | [] => Nat.le_refl _
 | x :: l => by
   have h1 := words_len l
   have h2 := insW_len x (words l)
   show (insW x (words l)).length ≤ _
   rw [List.length_cons]; omega
def wordsW (u : List Val) : Int := if u = [] then 0 else lenI ((u.length : Int) - 1)
theorem wordsW_le (u : List Val) : 0 ≤ wordsW u ∧ wordsW u ≤ 64 := by
 rw [wordsW]; split
 · omega
 · exact lenI_le _
def wordsB (l : List Val) : List UInt8 := byW 2 (u64 (words l).length) ++ plainB (words l) ++ bitsB (wordsW (words l)) (l.map fun v => u64 (placeV v (words l)))
theorem few_words {l : List Val} (hl : Few l) (hc : Clean l) : Few (words l) := hl.sub (words_len l) fun v hv => ((words_ok hc).2.1 v).1 hv
set_option maxHeartbeats 1000000 in
theorem words_c (l : List Val) (C : List (List PV)) (hC : l.map Val.cells = C) (hl : Few l) (hc : Clean l) (b : List UInt8) (L0 : List (List PV)) (m0 : Nat) (hb : OwnB 40000000 b L0 m0) (L3 : List (List PV)) (m3 : Nat) (hL3 : bl (b ++ wordsB l) = L3) (hm3 : L3.length = m3) :
   ACall Try.prog 39 [.tok 0 L0, .p (.sl C)] [.spare m0 1] fun r H' => r = .tok 0 L3 ∧ takeX H' 1 = [.spare m3 1] := by
 have hb2 := hb.le
 have hbl := hb.blen
 have hCl : C.length = l.length := by rw [← hC, List.length_map]
 have hl0 := hl.1
 have hun := unlike_c l C hC (by omega) hc
 have hfw := few_words hl hc
 have hrise := (words_ok hc).1
 have hmem : ∀ {x : Val}, x ∈ l → x ∈ words l := fun h => ((words_ok hc).2.1 _).2 h
 obtain ⟨u, hu⟩ : ∃ u, words l = u := ⟨_, rfl⟩
 have hW2 : wordsB l = byW 2 (u64 u.length) ++ plainB u ++ bitsB (wordsW u) (l.map fun v => u64 (placeV v u)) := by rw [wordsB, hu]
 rw [hu] at hun hfw hrise hmem
 obtain ⟨U, hU⟩ : ∃ U, u.map Val.cells = U := ⟨_, rfl⟩
 rw [hU] at hun
 have hUl : U.length = u.length := by rw [← hU, List.length_map]
 have hu0 := hfw.1
 refine ACall.x (nt := ⟨51, []⟩) (res := [.tmp 4]) mixed tt_ok [] Try.func39 rfl rfl rfl c39 (Nat.le_of_ble_eq_true rfl) ?_
 intro cp cc lp Q' hcp hcc hlp hQ
 have hpos : ∀ {x m : Int}, IntKind.u64.wrap x = m → 0 ≤ m := fun h => h ▸ u64_pos _
 have hu64 : ∀ {x m : Int}, IntKind.u64.wrap x = m → 0 ≤ m ∧ m < 18446744073709551616 := fun h => h ▸ u64_in _
 have hOe := hb.e
 have hOl := hb.len
 have hOn : m0 ≤ 1000000000 := by have := hb.le; omega
 have hO2 : ∀ {z : Int} {L2 : List (List PV)} {m2 : Nat}, bl (b ++ byW 2 z) = L2 → L2.length = m2 → OwnB 50000000 (b ++ byW 2 z) L2 m2 := by
   intro z L2 m2 h1 h2
   exact .mk' h1 h2 (by rw [List.length_append, byW_len]; show b.length + 2 ≤ _; omega)
 have hpos : ∀ {x m : Int}, IntKind.u64.wrap x = m → 0 ≤ m := fun h => h ▸ u64_pos _
 have hu64 : ∀ {x m : Int}, IntKind.u64.wrap x = m → 0 ≤ m ∧ m < 18446744073709551616 := fun h => h ▸ u64_in _
 have hOe := hb.e
 have hOl := hb.len
 have hOn : m0 ≤ 1000000000 := by have := hb.le; omega
 have hO2 : ∀ {z : Int} {L2 : List (List PV)} {m2 : Nat}, bl (b ++ byW 2 z) = L2 → L2.length = m2 → OwnB 50000000 (b ++ byW 2 z) L2 m2 := by
   intro z L2 m2 h1 h2
   exact .mk' h1 h2 (by rw [List.length_append, byW_len]; show b.length + 2 ≤ _; omega)
 have hplu : (plainB u).length ≤ 4136960 := by have := plainB_len (l := u) hfw.2; omega
 have hhead : ∀ {z5 z4 : Int}, (U.length : Int) = z5 → IntKind.u64.wrap z5 = z4 → z4 = u64 u.length := by
   rintro z5 z4 rfl rfl; rw [hUl]; rfl
 have hwid1 : ∀ {z3 z2 z1 z0 w : Int}, (U.length : Int) = z3 → decide (0 < z3) = true → (U.length : Int) = z2 → IntKind.i64.wrap (z2 - 1) = z1 → IntKind.u64.wrap z1 = z0 → lenI z0 = w → w = wordsW u := by
   intro z3 z2 z1 z0 w h3 h3d h2 h1 h0 hw
   have := of_decide_eq_true h3d
   have hne : u ≠ [] := by
     intro e
     have : U.length = 0 := by rw [hUl, e]; rfl
     omega
   rw [wrap_in (by omega)] at h1
   have e : z0 = z1 := by rw [← h0]; simp [IntKind.wrap, IntKind.bits, IntKind.signed]; omega
   rw [wordsW, if_neg hne, ← hw, e, ← h1, ← h2, hUl]
 have hwid0 : ∀ {z3 : Int}, (U.length : Int) = z3 → decide (0 < z3) = false → 0 = wordsW u := by
   intro z3 h3 h3d
   have := of_decide_eq_false h3d
   have hne : u = [] := List.length_eq_zero_iff.1 (by omega)
   rw [wordsW, if_pos hne]
 have hpos : ∀ {x m : Int}, IntKind.u64.wrap x = m → 0 ≤ m := fun h => h ▸ u64_pos _
 have hu64 : ∀ {x m : Int}, IntKind.u64.wrap x = m → 0 ≤ m ∧ m < 18446744073709551616 := fun h => h ▸ u64_in _
 have hOe := hb.e
 have hOl := hb.len
 have hOn : m0 ≤ 1000000000 := by have := hb.le; omega
 have hO2 : ∀ {z : Int} {L2 : List (List PV)} {m2 : Nat}, bl (b ++ byW 2 z) = L2 → L2.length = m2 → OwnB 50000000 (b ++ byW 2 z) L2 m2 := by
   intro z L2 m2 h1 h2
   exact .mk' h1 h2 (by rw [List.length_append, byW_len]; show b.length + 2 ≤ _; omega)
 have hplu : (plainB u).length ≤ 4136960 := by have := plainB_len (l := u) hfw.2; omega
 have hhead : ∀ {z5 z4 : Int}, (U.length : Int) = z5 → IntKind.u64.wrap z5 = z4 → z4 = u64 u.length := by
   rintro z5 z4 rfl rfl; rw [hUl]; rfl
 have hwid1 : ∀ {z3 z2 z1 z0 w : Int}, (U.length : Int) = z3 → decide (0 < z3) = true → (U.length : Int) = z2 → IntKind.i64.wrap (z2 - 1) = z1 → IntKind.u64.wrap z1 = z0 → lenI z0 = w → w = wordsW u := by
   intro z3 z2 z1 z0 w h3 h3d h2 h1 h0 hw
   have := of_decide_eq_true h3d
   have hne : u ≠ [] := by
     intro e
     have : U.length = 0 := by rw [hUl, e]; rfl
     omega
   rw [wrap_in (by omega)] at h1
   have e : z0 = z1 := by
     have hz1 : 0 ≤ z1 ∧ z1 < 18446744073709551616 := by omega
     rw [← h0]; simp [IntKind.wrap, IntKind.bits, IntKind.signed]; omega
   rw [wordsW, if_neg hne, ← hw, e, ← h1, ← h2, hUl]
 have hwid0 : ∀ {z3 : Int}, (U.length : Int) = z3 → decide (0 < z3) = false → 0 = wordsW u := by
   intro z3 h3 h3d
   have := of_decide_eq_false h3d
   have hne : u = [] := List.length_eq_zero_iff.1 (by omega)
   rw [wordsW, if_pos hne]
 repeat' (first
   | (with_reducible refine Nm.mk ?_; intro z hz)
   | (with_reducible refine IfB.mk ?_ ?_ <;> (intro h; cases h))
   | (with_reducible refine Two.l ?_; refine Asm.mk ?_ ?_; focus (decide +kernel))
   | (with_reducible refine Two.r ?_)
   | (with_reducible refine TwoT.r ?_)
   | (with_reducible refine TwoU.r ?_)
   | (with_reducible refine Asm.mk ?_ ?_; focus (first | (show (_ : Bool) = true; kernel_rfl)))
   | (with_reducible refine isCP hcp ?_; first | (refine eP hcp (hun) ?_; rintro r rfl) | (refine iP hcp (len_c _ (hu64 (by assumption))) ?_; intro w hw))
   | (with_reducible refine isCC hcc ?_; first | (refine eA hcc (hun) rfl ?_; rintro r rfl) | (refine iA hcc (len_c _ (hu64 (by assumption))) rfl ?_; intro w hw))
   | (with_reducible refine isCC hcc ?_; refine putWCC hcc 0 2 b rfl (hpos (by assumption)) (by decide) hOe hOl hOn rfl ?_; intro Lp mp hLp hmp)
   | (with_reducible refine isCC hcc ?_; refine plainCC hcc 0 hU hfw _ rfl (hO2 (by assumption) (by assumption)) rfl ?_; intro Lq mq hLq hmq)
   | (with_reducible refine Asm.mk2 ?_ ?_)
   | ((fail_if_success (with_reducible first | refine hQ _ _ ?_ | refine Side.mk ?_ | refine isCP hcp ?_ | refine isCC hcc ?_ | refine isLP hlp ?_ | refine Ix.mk ?_ | refine SIx.mk ?_ | refine SEx.mk ?_ | refine EIx.mk ?_ | refine RIx.mk ?_ | refine LkX.mk ?_ | show False | refine hR ?_ _ ?_ ?_ ?_ ?_ ?_ | refine hR2 ?_ _ ?_ ?_ ?_ ?_ ?_)); cbv))
 · rename_i z5 h5 z4 h4 z3 h3 h3d z2 h2 z1 h1 z0 h0
   have hz4 := hhead h5 h4
   have hzl : z = (l.length : Int) := by rw [← hz, ← hCl]
   clear hz
   refine mintVX hlp 1 1 0 rfl rfl ?_
   refine loopT (ι := Int × Int × Nat × List (List PV) × Nat × Int) mixed tt_ok hcp hcc hlp [0, 5, 7, 30, 31] (fun p => [(32, .p (.int .i64 p.1)), (6, .p (.int .i64 p.2.2.2.2.2))]) (fun p => [.spare mq 1, .cells [.vec 2 p.2.2.1 1 0 p.2.2.2.2.1, .p (.int .i64 p.2.1)], .vec p.2.2.1 p.2.2.2.1 1]) (fun p => 0 ≤ p.1 ∧ p.1 ≤ l.length ∧ p.2.2.2.2.2 * p.1 = p.2.1 ∧ bl (bitsB p.2.2.2.2.2 ((l.take p.1.toNat).map fun v => u64 (placeV v u))) = p.2.2.2.1 ∧ p.2.2.2.1.length = p.2.2.2.2.1 ∧ p.2.2.2.2.2 = wordsW u) (fun p => (l.length - p.1).toNat) (0, 0, 0, [], 0, w) 3 (fun _ => rfl) ⟨Int.le_refl _, by show (0 : Int) ≤ _; omega, by simp, rfl, rfl, hwid1 h3 h3d h2 h1 h0 hw⟩ ⟨rfl, rfl, trivial⟩ rfl ?_
   rintro R2 ⟨j, a, g, L, n, w⟩ ⟨hj0, hj1, ha, hL, hn, hwW⟩ hR2
   replace hj0 : 0 ≤ j := hj0
   replace hj1 : j ≤ l.length := hj1
   replace ha : w * j = a := ha
   replace hL : bl (bitsB w ((l.take j.toNat).map fun v => u64 (placeV v u))) = L := hL
   replace hn : L.length = n := hn
   replace hwW : w = wordsW u := hwW
   have hw0 : 0 ≤ w ∧ w ≤ 64 := by rw [hwW]; exact wordsW_le u
   have hjn : ((List.take j.toNat l).map fun v => u64 (placeV v u)).length = j.toNat := by rw [List.length_map, List.length_take]; omega
   have hA8 : At8 a (bitsB w ((List.take j.toNat l).map fun v => u64 (placeV v u))) := by
     have := bitsB_at (W := w) hw0.1 ((List.take j.toNat l).map fun v => u64 (placeV v u))
     rw [hjn, show ((j.toNat : Nat) : Int) = j by omega, ha] at this
     exact this
   have hale : a ≤ 262144 := by
     rw [← ha]
     have h1 : w * j ≤ 64 * 4096 := Int.le_trans (Int.mul_le_mul_of_nonneg_right hw0.2 hj0) (Int.mul_le_mul_of_nonneg_left (by omega) (by decide))
     omega
   have hale2 : a ≤ 1000000000 := by omega
   have hLlen : L.length ≤ 1000000 := by
     have := hA8.2
     rw [← hL, List.length_map]; omega
   have hdrop : ∀ {y : List (List PV)}, List.take n (List.drop 0 L) = y → okEs 1 y = true ∧ y.length ≤ 1000000000 ∧ y = L := by
     rintro y rfl
     have e : List.take n (List.drop 0 L) = L := by rw [List.drop_zero, ← hn, List.take_length]
     rw [e]
     exact ⟨by rw [← hL]; exact okEs_bl _, by omega, rfl⟩
   have hnL : 0 + n ≤ L.length := by omega
   have hO : OwnB 100000000 (b ++ byW 2 z4 ++ plainB u) Lq mq := .mk' hLq hmq (by
     rw [List.length_append, List.length_append, byW_len]; show b.length + 2 + _ ≤ _; omega)
   have hk2 : decide (j < z) = true → j < l.length := fun h => by have := of_decide_eq_true h; omega
   have hgo2 : decide (j < z) = true → 0 ≤ j + 1 ∧ j + 1 ≤ l.length ∧ (l.length - (j + 1)).toNat < (l.length - j).toNat ∧ IntKind.i64.wrap (j + 1) = j + 1 ∧ (j + 1).toNat = j.toNat + 1 ∧ w * (j + 1) = a + w ∧ w * ((j.toNat : Nat) : Int) = a := by
     intro h
     have := of_decide_eq_true h
     exact ⟨by omega, by omega, by omega, wrap_in (by omega), by omega, by rw [Int.mul_add, ha, Int.mul_one], by rw [show ((j.toNat : Nat) : Int) = j by omega]; exact ha⟩
   have hend2 : decide (j < z) = false → j.toNat = l.length := by
     intro h
     have := of_decide_eq_false h
     omega
   have hgn : bl (b ++ wordsB l) = Lq ++ bl (bitsB w (l.map fun v => u64 (placeV v u))) := by
     rw [hW2, ← hz4, ← hwW, ← List.append_assoc, ← List.append_assoc]
     exact List.map_append.trans (congrArg (· ++ _) hLq)
   have hpl : ∀ {x : Val}, l[j.toNat]? = some x → u[placeV x u]? = some x := fun h => placeV_ok (hmem (List.mem_of_getElem? h))
   repeat' (first
     | (with_reducible refine Nm.mk ?_; intro z hz)
     | (with_reducible refine IfB.mk ?_ ?_ <;> (intro h; cases h))
     | (with_reducible refine Two.l ?_; refine Asm.mk ?_ ?_; focus (decide +kernel))
     | (with_reducible refine Two.r ?_)
     | (with_reducible refine TwoT.r ?_)
     | (with_reducible refine TwoU.r ?_)
     | (with_reducible refine Asm.mk ?_ ?_; focus (first | exact ⟨rfl, rfl, hnL⟩ | exact hO.side (by decide) (hdrop (by assumption)).1 (hdrop (by assumption)).2.1 | (show (_ : Bool) = true; kernel_rfl)))
     | (with_reducible refine isCP hcp ?_; first | (refine schP hcp (search_c u U hU hrise (by omega) x _ (hpl hx)) ?_; intro q hq))
     | (with_reducible refine isCC hcc ?_; first | (refine schA hcc (search_c u U hU hrise (by omega) x _ (hpl hx)) rfl ?_; intro q hq))
     | (with_reducible refine Ix.map hC cells_len (by decide) hj0 (hk2 (by assumption)) ?_; intro x hx)
     | (with_reducible refine isCC hcc ?_; refine putCC hcc 1 2 (by decide) _ w a hw0 g _ hA8 hale2 hL hn rfl rfl rfl ?_; intro g' L' n' a' hL' hn' ha')
     | (with_reducible refine Asm.mk2 ?_ ?_)
     | ((fail_if_success (with_reducible first | refine hQ _ _ ?_ | refine Side.mk ?_ | refine isCP hcp ?_ | refine isCC hcc ?_ | refine isLP hlp ?_ | refine Ix.mk ?_ | refine SIx.mk ?_ | refine SEx.mk ?_ | refine EIx.mk ?_ | refine RIx.mk ?_ | refine LkX.mk ?_ | show False | refine hR ?_ _ ?_ ?_ ?_ ?_ ?_ | refine hR2 ?_ _ ?_ ?_ ?_ ?_ ?_)); cbv))
   · rename_i hjz z7 h7
     obtain ⟨g1, g2, g3, g4, g5, g6, g7⟩ := hgo2 hjz
     rw [g4] at hz
     subst hz
     refine hR2 (j + 1, a', g', L', n', w) _ ⟨g1, g2, g6.trans ha', ?_, hn', hwW⟩ g3 ⟨rfl, rfl, trivial⟩ ⟨rfl, rfl, rfl, rfl, rfl, trivial⟩ rfl
     show bl (bitsB w ((l.take (j + 1).toNat).map fun v => u64 (placeV v u))) = L'
     rw [g5, bitsB_succ hx, g7, ← hL']
     have e7 : u64 (placeV x u) = z7 := by rw [← h7, ← hq]; rfl
     rw [e7]
   · rename_i hjz y hy zR hzR
     have e := (hdrop hy).2.2
     have e2 : zR = L3 := by
       rw [← hzR, e, ← hL3, hgn, ← hL, hend2 hjz, List.take_length]
     subst e2
     refine hQ _ _ ⟨rfl, ?_⟩
     rw [← hm3, ← hz, ← hzR, List.length_append]; rfl
 · rename_i z5 h5 z4 h4 z3 h3 h3d
   have hz4 := hhead h5 h4
   have hzl : z = (l.length : Int) := by rw [← hz, ← hCl]
   clear hz
   refine mintVX hlp 1 1 0 rfl rfl ?_
   refine loopT (ι := Int × Int × Nat × List (List PV) × Nat × Int) mixed tt_ok hcp hcc hlp [0, 5, 7, 30, 31] (fun p => [(32, .p (.int .i64 p.1)), (6, .p (.int .i64 p.2.2.2.2.2))]) (fun p => [.spare mq 1, .cells [.vec 2 p.2.2.1 1 0 p.2.2.2.2.1, .p (.int .i64 p.2.1)], .vec p.2.2.1 p.2.2.2.1 1]) (fun p => 0 ≤ p.1 ∧ p.1 ≤ l.length ∧ p.2.2.2.2.2 * p.1 = p.2.1 ∧ bl (bitsB p.2.2.2.2.2 ((l.take p.1.toNat).map fun v => u64 (placeV v u))) = p.2.2.2.1 ∧ p.2.2.2.1.length = p.2.2.2.2.1 ∧ p.2.2.2.2.2 = wordsW u) (fun p => (l.length - p.1).toNat) (0, 0, 0, [], 0, 0) 3 (fun _ => rfl) ⟨Int.le_refl _, by show (0 : Int) ≤ _; omega, by simp, rfl, rfl, hwid0 h3 h3d⟩ ⟨rfl, rfl, trivial⟩ rfl ?_
   rintro R2 ⟨j, a, g, L, n, w⟩ ⟨hj0, hj1, ha, hL, hn, hwW⟩ hR2
   replace hj0 : 0 ≤ j := hj0
   replace hj1 : j ≤ l.length := hj1
   replace ha : w * j = a := ha
   replace hL : bl (bitsB w ((l.take j.toNat).map fun v => u64 (placeV v u))) = L := hL
   replace hn : L.length = n := hn
   replace hwW : w = wordsW u := hwW
   have hw0 : 0 ≤ w ∧ w ≤ 64 := by rw [hwW]; exact wordsW_le u
   have hjn : ((List.take j.toNat l).map fun v => u64 (placeV v u)).length = j.toNat := by rw [List.length_map, List.length_take]; omega
   have hA8 : At8 a (bitsB w ((List.take j.toNat l).map fun v => u64 (placeV v u))) := by
     have := bitsB_at (W := w) hw0.1 ((List.take j.toNat l).map fun v => u64 (placeV v u))
     rw [hjn, show ((j.toNat : Nat) : Int) = j by omega, ha] at this
     exact this
   have hale : a ≤ 262144 := by
     rw [← ha]
     have h1 : w * j ≤ 64 * 4096 := Int.le_trans (Int.mul_le_mul_of_nonneg_right hw0.2 hj0) (Int.mul_le_mul_of_nonneg_left (by omega) (by decide))
     omega
   have hale2 : a ≤ 1000000000 := by omega
   have hLlen : L.length ≤ 1000000 := by
     have := hA8.2
     rw [← hL, List.length_map]; omega
   have hdrop : ∀ {y : List (List PV)}, List.take n (List.drop 0 L) = y → okEs 1 y = true ∧ y.length ≤ 1000000000 ∧ y = L := by
     rintro y rfl
     have e : List.take n (List.drop 0 L) = L := by rw [List.drop_zero, ← hn, List.take_length]
     rw [e]
     exact ⟨by rw [← hL]; exact okEs_bl _, by omega, rfl⟩
   have hnL : 0 + n ≤ L.length := by omega
   have hO : OwnB 100000000 (b ++ byW 2 z4 ++ plainB u) Lq mq := .mk' hLq hmq (by
     rw [List.length_append, List.length_append, byW_len]; show b.length + 2 + _ ≤ _; omega)
   have hk2 : decide (j < z) = true → j < l.length := fun h => by have := of_decide_eq_true h; omega
   have hgo2 : decide (j < z) = true → 0 ≤ j + 1 ∧ j + 1 ≤ l.length ∧ (l.length - (j + 1)).toNat < (l.length - j).toNat ∧ IntKind.i64.wrap (j + 1) = j + 1 ∧ (j + 1).toNat = j.toNat + 1 ∧ w * (j + 1) = a + w ∧ w * ((j.toNat : Nat) : Int) = a := by
     intro h
     have := of_decide_eq_true h
     exact ⟨by omega, by omega, by omega, wrap_in (by omega), by omega, by rw [Int.mul_add, ha, Int.mul_one], by rw [show ((j.toNat : Nat) : Int) = j by omega]; exact ha⟩
   have hend2 : decide (j < z) = false → j.toNat = l.length := by
     intro h
     have := of_decide_eq_false h
     omega
   have hgn : bl (b ++ wordsB l) = Lq ++ bl (bitsB w (l.map fun v => u64 (placeV v u))) := by
     rw [hW2, ← hz4, ← hwW, ← List.append_assoc, ← List.append_assoc]
     exact List.map_append.trans (congrArg (· ++ _) hLq)
   have hpl : ∀ {x : Val}, l[j.toNat]? = some x → u[placeV x u]? = some x := fun h => placeV_ok (hmem (List.mem_of_getElem? h))
   repeat' (first
     | (with_reducible refine Nm.mk ?_; intro z hz)
     | (with_reducible refine IfB.mk ?_ ?_ <;> (intro h; cases h))
     | (with_reducible refine Two.l ?_; refine Asm.mk ?_ ?_; focus (decide +kernel))
     | (with_reducible refine Two.r ?_)
     | (with_reducible refine TwoT.r ?_)
     | (with_reducible refine TwoU.r ?_)
     | (with_reducible refine Asm.mk ?_ ?_; focus (first | exact ⟨rfl, rfl, hnL⟩ | exact hO.side (by decide) (hdrop (by assumption)).1 (hdrop (by assumption)).2.1 | (show (_ : Bool) = true; kernel_rfl)))
     | (with_reducible refine isCP hcp ?_; first | (refine schP hcp (search_c u U hU hrise (by omega) x _ (hpl hx)) ?_; intro q hq))
     | (with_reducible refine isCC hcc ?_; first | (refine schA hcc (search_c u U hU hrise (by omega) x _ (hpl hx)) rfl ?_; intro q hq))
     | (with_reducible refine Ix.map hC cells_len (by decide) hj0 (hk2 (by assumption)) ?_; intro x hx)
     | (with_reducible refine isCC hcc ?_; refine putCC hcc 1 2 (by decide) _ w a hw0 g _ hA8 hale2 hL hn rfl rfl rfl ?_; intro g' L' n' a' hL' hn' ha')
     | (with_reducible refine Asm.mk2 ?_ ?_)
     | ((fail_if_success (with_reducible first | refine hQ _ _ ?_ | refine Side.mk ?_ | refine isCP hcp ?_ | refine isCC hcc ?_ | refine isLP hlp ?_ | refine Ix.mk ?_ | refine SIx.mk ?_ | refine SEx.mk ?_ | refine EIx.mk ?_ | refine RIx.mk ?_ | refine LkX.mk ?_ | show False | refine hR ?_ _ ?_ ?_ ?_ ?_ ?_ | refine hR2 ?_ _ ?_ ?_ ?_ ?_ ?_)); cbv))
   · rename_i hjz z7 h7
     obtain ⟨g1, g2, g3, g4, g5, g6, g7⟩ := hgo2 hjz
     rw [g4] at hz
     subst hz
     refine hR2 (j + 1, a', g', L', n', w) _ ⟨g1, g2, g6.trans ha', ?_, hn', hwW⟩ g3 ⟨rfl, rfl, trivial⟩ ⟨rfl, rfl, rfl, rfl, rfl, trivial⟩ rfl
     show bl (bitsB w ((l.take (j + 1).toNat).map fun v => u64 (placeV v u))) = L'
     rw [g5, bitsB_succ hx, g7, ← hL']
     have e7 : u64 (placeV x u) = z7 := by rw [← h7, ← hq]; rfl
     rw [e7]
   · rename_i hjz y hy zR hzR
     have e := (hdrop hy).2.2
     have e2 : zR = L3 := by
       rw [← hzR, e, ← hL3, hgn, ← hL, hend2 hjz, List.take_length]
     subst e2
     refine hQ _ _ ⟨rfl, ?_⟩
     rw [← hm3, ← hz, ← hzR, List.length_append]; rfl
theorem wordsCC {cc : FuncId → List AV → List AObj → (AV → List AObj → Prop) → Prop} (hcc : ACall Try.prog = cc) (id : Nat) {l : List Val} {C : List (List PV)} (hC : l.map Val.cells = C) (hl : Few l) (hc : Clean l) (b : List UInt8) {L : List (List PV)} {m : Nat} {H : List AObj} {args : List AV} {K : AV → List AObj → Prop} (ha : args = [.tok id L, .p (.sl C)]) (hb : OwnB 40000000 b L m) (hH : nth H id = some (.spare m 1))
   (k : ∀ L2 m2, bl (b ++ wordsB l) = L2 → L2.length = m2 → K (.tok id L2) (setX H id (.spare m2 1))) : cc 39 args H K := by
 subst ha
 refine frameT (H1 := [.spare (bl (b ++ wordsB l)).length 1]) hcc [id] (words_c l C hC hl hc b L m hb _ _ rfl rfl) (by simp [onceX, idxX]) rfl rfl ?_ rfl (k _ _ rfl rfl)
 simp only [optL, hH]; rfl
end Go.Proofs.Ytcajncmjlmpkgaa

namespace Go.Proofs.Ytcajncmjlmpkgaa
open Go Go.RowKit Go.Deep Go.Sort Go.Shelf
set_option linter.unusedVariables false
set_option linter.unusedSimpArgs false
set_option maxRecDepth 100000
def stand (l : List Val) : List Val := l.filter fun x => !decide (x.k = 0)
theorem stand_snoc (l : List Val) (x : Val) : stand (l ++ [x]) = stand l ++ (if x.k = 0 then [] else [x]) := by
 unfold stand
 rw [List.filter_append]
 congr 1
 by_cases h : x.k = 0 <;> simp [h]
theorem stand_take (F : List Val) {i : Nat} {x : Val} (hx : F[i]? = some x) : stand (F.take (i + 1)) = stand (F.take i) ++ (if x.k = 0 then [] else [x]) := by
 rw [List.take_add_one, hx, Option.toList_some, stand_snoc]
theorem stand_all {F : List Val} {i : Nat} (h : ∀ (t : Nat) (x : Val), t < i → F[t]? = some x → x.k ≠ 0) : stand (F.take i) = F.take i := by
 unfold stand
 rw [List.filter_eq_self]
 intro x hx
 obtain ⟨t, ht, e⟩ := List.getElem_of_mem hx
 have ht' : t < i := by simp at ht; omega
 have := h t x ht' (by rw [← e, List.getElem_take]; exact List.getElem?_eq_getElem _)
 simp [this]
theorem isNull_w (x : Val) (w : World) : Calls Try.prog 34 #[.agg #[.int .i64 x.k, .int .i64 x.n, .string x.s]] w fun e w' => e = .returned (.bool (decide (x.k = 0))) ∧ ∃ q os, w' = grow (w.drewN q) os := by
 obtain ⟨k, n, s⟩ := x
 go_enter Try.func34, Try.ntmps34
 go_wp2
 go_ret
 exact ⟨rfl, 0, #[_], alloc_eq_grow _ _⟩
set_option maxHeartbeats 2000000 in
theorem indexNull_w (g cap n : Nat) (F : List Val) (w : World) (hH : HoldsK encV 3 w g 0 F.toArray) (hg : g < w.heap.size) (hF : F.length = n) (hl : n ≤ 2000000) :
   Calls Try.prog 67 #[.slice (some ⟨g, 0, none⟩) n cap, .func (.func 34) #[] #[]] w fun e w' => ∃ i : Int, e = .returned (.int .i64 i) ∧ SWK encV 3 w g 0 F.toArray w' ∧
     ((i = -1 ∧ ∀ (t : Nat) (x : Val), F[t]? = some x → x.k ≠ 0) ∨ ∃ j : Nat, i = j ∧ j < n ∧ (∃ x, F[j]? = some x ∧ x.k = 0) ∧ ∀ (t : Nat) (x : Val), t < j → F[t]? = some x → x.k ≠ 0) := by
 have hS0 := SWK.start hH
 have hF1 : F.length ≤ n ∧ n ≤ F.length := by omega
 clear hF
 go_enter Try.func67, Try.ntmps67
 go_wp2
 go_loopg [8] n (fun gg s8 wr => ∃ i : Nat, s8 = .int .i64 i ∧ i + gg = n ∧ Hid (∀ (t : Nat) (x : Val), t < i → F[t]? = some x → x.k ≠ 0) ∧ SWK encV 3 w g 0 F.toArray wr)
 case atStart => exact ⟨0, rfl, by omega, fun t x h => by omega, hS0⟩
 case round =>
   clear hS0
   obtain ⟨i, rfl, hig, hO, hS⟩ := hrel
   by_cases hlt : i < n
   · obtain ⟨x, hx⟩ : ∃ x, F[i]? = some x := ⟨_, List.getElem?_eq_getElem (by omega)⟩
     obtain ⟨x0, x1, x2⟩ := holds_at (hS.holds hg hH rfl) hx
     have hc := fun W => isNull_w x W
     have HX : Hid (F[i]? = some x) := hx
     have HS : Hid (SWK encV 3 w g 0 F.toArray wr) := hS
     clear hx hS
     have HW : Hid (wr = wr) := rfl
     obtain ⟨wq, hwq⟩ : ∃ W, W = wr := ⟨wr, rfl⟩
     obtain ⟨k1, n1, s1⟩ := x
     simp only at x0 x1 x2 hc
     by_cases hk : k1 = 0
     · have HK : Hid (k1 = 0) := hk
       have hd : decide (k1 = 0) = true := by simp [hk]
       rw [hd] at hc
       clear hk hd hwq
       go_wp2_with (go_at_call 34; (with_reducible refine (hc _).mono ?_); rintro e w1 ⟨rfl, q, os, rfl⟩)
       go_ret
       exact ⟨_, rfl, swk_grow HS q os, .inr ⟨i, rfl, hlt, ⟨_, HX, HK⟩, hO⟩⟩
     · have HK : Hid (¬ k1 = 0) := hk
       have hd : decide (k1 = 0) = false := by simp [hk]
       rw [hd] at hc
       clear hk hd hwq
       go_wp2_with (go_at_call 34; (with_reducible refine (hc _).mono ?_); rintro e w1 ⟨rfl, q, os, rfl⟩)
       go_roundg (n - (i + 1))
       case measure => omega
       case rel =>
         refine ⟨i + 1, by go_num, by omega, fun t x ht hx => ?_, swk_grow HS q os⟩
         rcases Nat.lt_or_ge t i with h | h
         · exact hO t x h hx
         · have e : t = i := by omega
           subst e
           have hx' : F[t]? = some (⟨k1, n1, s1⟩ : Val) := HX
           rw [hx'] at hx
           cases hx
           exact HK
   · have HS : Hid (SWK encV 3 w g 0 F.toArray wr) := hS
     clear hS
     go_wp2
     go_ret
     exact ⟨_, rfl, HS, .inl ⟨rfl, fun t x hx => hO t x (by have := (List.getElem?_eq_some_iff.1 hx).1; omega) hx⟩⟩
theorem index_short (a : Option Addr) (c : Nat) (fv : Value) (w : World) : Calls Try.prog 67 #[.slice a 0 c, fv] w fun e w' => e = .returned (.int .i64 (-1)) ∧ w' = w := by
 go_enter Try.func67, Try.ntmps67
 go_wp2
 refine wp_loop_rounds 1 ?_
 rw [rounds_succ]
 go_wp2
 go_ret
 exact ⟨rfl, rfl⟩
theorem delete_short (a : Option Addr) (c : Nat) (fv : Value) (w : World) : Calls Try.prog 32 #[.slice a 0 c, fv] w fun e w' => e = .returned (.slice a 0 c) ∧ w' = w := by
 go_enter Try.func32, Try.ntmps32
 go_wp2_with (go_at_call 67; (with_reducible refine (index_short _ _ _ _).mono ?_); rintro e w1 ⟨rfl, rfl⟩)
 go_ret
 exact ⟨rfl, rfl⟩
end Go.Proofs.Ytcajncmjlmpkgaa

namespace Go.Proofs.Ytcajncmjlmpkgaa
open Go Go.RowKit Go.Deep Go.Sort Go.Shelf
set_option linter.unusedVariables false
set_option linter.unusedSimpArgs false
set_option maxRecDepth 100000
set_option maxHeartbeats 4000000 in
theorem delete_w (g cap n : Nat) (F : List Val) (w : World) (hH : HoldsK encV 3 w g 0 F.toArray) (hg : g < w.heap.size) (hF : F.length = n) (hl : n ≤ 2000000) (hcap : n ≤ cap) :
   Calls Try.prog 32 #[.slice (some ⟨g, 0, none⟩) n cap, .func (.func 34) #[] #[]] w fun e w' => e = .returned (.slice (some ⟨g, 0, none⟩) (stand F).length cap) ∧ ∃ D : List Val, D.length = F.length ∧ D.take (stand F).length = stand F ∧ SWK encV 3 w g 0 D.toArray w' := by
 have hix := indexNull_w g cap n F w hH hg hF hl
 have hF1 : F.length ≤ n ∧ n ≤ F.length := by omega
 have HFn : Hid (F.length = n) := hF
 clear hF
 have hq : ∀ j : Nat, (((j : Nat) : Int) == -1) = false := fun j => by rw [beq_eq_false_iff_ne]; omega
 go_enter Try.func32, Try.ntmps32
 go_wp2_with (go_at_call 67; (with_reducible refine hix.mono ?_); rintro e w1 ⟨I, rfl, hS1, hI⟩; rcases hI with ⟨rfl, hN⟩ | ⟨j0, rfl, hj0, hx0, hb⟩)
 · go_ret
   have hst : stand F = F := by
     have h := stand_all (F := F) (i := F.length) (fun t x _ hx => hN t x hx)
     rwa [List.take_length] at h
   have hF : F.length = n := HFn
   rw [hst, hF]
   exact ⟨rfl, F, hF, by rw [← hF, List.take_length], hS1⟩
 · have HI : Hid (stand (F.take (j0 + 1)) = F.take j0) := by
     obtain ⟨x, hx, hk⟩ := hx0
     show stand (F.take (j0 + 1)) = F.take j0
     rw [stand_take F hx, if_pos hk, List.append_nil, stand_all hb]
   clear hx0 hb hix
   go_loopg [5, 6] n (fun gg s5 s6 wr => ∃ (i j : Nat) (D : List Val), s5 = .int .i64 i ∧ s6 = .int .i64 j ∧ n - j ≤ gg ∧ j ≤ n ∧ i + 1 ≤ j ∧ n ≤ D.length ∧ D.length ≤ n ∧ Hid (D.take i = stand (F.take j) ∧ i = (stand (F.take j)).length ∧ D.drop j = F.drop j) ∧ SWK encV 3 w g 0 D.toArray wr)
   case atStart =>
     have hI' : stand (F.take (j0 + 1)) = F.take j0 := HI
     exact ⟨j0, j0 + 1, F, rfl, by go_num, by omega, by omega, by omega, by omega, by omega, ⟨by rw [hI'], by rw [hI', List.length_take]; omega, rfl⟩, hS1⟩
   case round =>
     clear hS1
     obtain ⟨i, j, D, rfl, rfl, hjg, hjn, hij, hD1, hD2, hI2, hS⟩ := hrel
     have hHr := hS.holds hg hH (by simp; omega)
     by_cases hlt : j < n
     · obtain ⟨x, hx⟩ : ∃ x, F[j]? = some x := ⟨_, List.getElem?_eq_getElem (by omega)⟩
       have hdr : D.drop j = F.drop j := (show _ ∧ _ ∧ _ from hI2).2.2
       have hxD : D[j]? = some x := by
         have : (D.drop j)[0]? = (F.drop j)[0]? := by rw [hdr]
         rw [List.getElem?_drop, List.getElem?_drop, Nat.add_zero] at this
         rw [this]; exact hx
       obtain ⟨x0, x1, x2⟩ := holds_at hHr hxD
       obtain ⟨z, hz⟩ : ∃ z, D[i]? = some z := ⟨_, List.getElem?_eq_getElem (by omega)⟩
       have hc := fun W => isNull_w x W
       have HX : Hid (F[j]? = some x ∧ D[i]? = some z) := ⟨hx, hz⟩
       have HST := hS.alloc (.cells #[.int .i64 x.k, .int .i64 x.n, .string x.s] 24)
       have hB := heap_alloc_new wr (.cells #[.int .i64 x.k, .int .i64 x.n, .string x.s] 24)
       have b0 := cell_of_heap hB (i := 0) rfl
       have b1 := cell_of_heap hB (i := 1) rfl
       have b2 := cell_of_heap hB (i := 2) rfl
       have HB : Hid ((wr.alloc (.cells #[.int .i64 x.k, .int .i64 x.n, .string x.s] 24)).cell? ⟨wr.heap.size, 0, none⟩ = some (.int .i64 x.k) ∧ (wr.alloc (.cells #[.int .i64 x.k, .int .i64 x.n, .string x.s] 24)).cell? ⟨wr.heap.size, 1, none⟩ = some (.int .i64 x.n) ∧ (wr.alloc (.cells #[.int .i64 x.k, .int .i64 x.n, .string x.s] 24)).cell? ⟨wr.heap.size, 2, none⟩ = some (.string x.s)) := ⟨b0, b1, b2⟩
       have HST' : Hid (SWK encV 3 w g 0 D.toArray (wr.alloc (.cells #[.int .i64 x.k, .int .i64 x.n, .string x.s] 24))) := HST
       have hgn : g < w.heap.size ∧ w.heap.size ≤ wr.heap.size := ⟨hg, hS.le⟩
       clear hx hdr hxD hz HST hB b0 b1 b2 hS hHr
       obtain ⟨k1, n1, s1⟩ := x
       simp only at x0 x1 x2 hc HB HST'
       by_cases hk : k1 = 0
       · have HK : Hid (k1 = 0) := hk
         have hd : decide (k1 = 0) = true := by simp [hk]
         rw [hd] at hc
         clear hk hd
         go_wp2_with (go_at_call 34; (with_reducible refine (hc _).mono ?_); rintro e w3 ⟨rfl, q, os, hw3⟩; have HS3 : Hid (SWK encV 3 w g 0 D.toArray w3) := (by rw [hw3]; exact swk_grow HST' q os); clear hw3)
         go_roundg (n - (j + 1))
         case measure => omega
         case rel =>
           obtain ⟨q1, q2, q3⟩ := (show _ ∧ _ ∧ _ from hI2)
           have hO : stand (F.take (j + 1)) = stand (F.take j) := by rw [stand_take F (show _ ∧ _ from HX).1, if_pos (show k1 = 0 from HK), List.append_nil]
           refine ⟨i, j + 1, D, rfl, by go_num, Nat.le_refl _, by omega, by omega, hD1, hD2, ⟨by rw [hO]; exact q1, by rw [hO]; exact q2, ?_⟩, HS3⟩
           rw [← List.drop_drop, ← List.drop_drop, q3]
       · have HK : Hid (¬ k1 = 0) := hk
         have hd : decide (k1 = 0) = false := by simp [hk]
         rw [hd] at hc
         clear hk hd
         go_wp2_with (go_at_call 34; (with_reducible refine (hc _).mono ?_); rintro e w3 ⟨rfl, q, os, hw3⟩; have hS3 : SWK encV 3 w g 0 D.toArray w3 := (by rw [hw3]; exact swk_grow HST' q os); have b0 : w3.cell? ⟨wr.heap.size, 0, none⟩ = some (.int .i64 k1) := (by rw [hw3]; exact grown_cell (show _ ∧ _ ∧ _ from HB).1); have b1 : w3.cell? ⟨wr.heap.size, 1, none⟩ = some (.int .i64 n1) := (by rw [hw3]; exact grown_cell (show _ ∧ _ ∧ _ from HB).2.1); have b2 : w3.cell? ⟨wr.heap.size, 2, none⟩ = some (.string s1) := (by rw [hw3]; exact grown_cell (show _ ∧ _ ∧ _ from HB).2.2); have hH3 := hS3.holds hg hH (by simp; omega); obtain ⟨z0, z1, z2⟩ := holds_at hH3 (show _ ∧ _ from HX).2; have f0 := frozen_holds hH3 (t := i) (j := 0) (by omega) (by omega); have f1 := frozen_holds hH3 (t := i) (j := 1) (by omega) (by omega); have f2 := frozen_holds hH3 (t := i) (j := 2) (by omega) (by omega); rw [Nat.add_zero] at f0; have HS9 : Hid (SWK encV 3 w g 0 (D.take i ++ [(⟨k1, n1, s1⟩ : Val)] ++ D.drop (i + 1)).toArray (((w3.setCell ⟨g, i * 3, none⟩ (.int .i64 k1)).setCell ⟨g, i * 3 + 1, none⟩ (.int .i64 n1)).setCell ⟨g, i * 3 + 2, none⟩ (.string s1))) := (swk_set hS3 hg i [⟨k1, n1, s1⟩] (by simp; omega)); clear hw3 hS3 hH3 x0 x1 x2)
         go_roundg (n - (j + 1))
         case measure => omega
         case rel =>
           obtain ⟨q1, q2, q3⟩ := (show _ ∧ _ ∧ _ from hI2)
           have hO : stand (F.take (j + 1)) = stand (F.take j) ++ [⟨k1, n1, s1⟩] := by rw [stand_take F (show _ ∧ _ from HX).1, if_neg (show ¬ k1 = 0 from HK)]
           obtain ⟨p1, p2, p3, p4, p5⟩ := put_one (m := j + 1) hD1 hD2 (by omega) (by omega) q1 q2 q3 hO
           exact ⟨i + 1, j + 1, _, by go_num, by go_num, Nat.le_refl _, by omega, by omega, p1, p2, ⟨p3, p4, p5⟩, HS9⟩
     · have hjn2 : j = n := by omega
       obtain ⟨q1, q2, q3⟩ := (show D.take i = stand (F.take j) ∧ i = (stand (F.take j)).length ∧ D.drop j = F.drop j from hI2)
       rw [hjn2, List.take_of_length_le (l := F) (by omega)] at q1 q2
       have HQ : Hid (D.take i = stand F ∧ i = (stand F).length) := ⟨q1, q2⟩
       have hcl := run_clear24 (cap := cap - i) hHr i (n - i) (by omega) (by omega) 0
       have HS3 : Hid (SWK encV 3 w g 0 (D.take i ++ List.replicate (n - i) Val.zero ++ D.drop (i + (List.replicate (n - i) Val.zero).length)).toArray (wr.setCells g (i * 3) (flatV (List.replicate (n - i) Val.zero)))) := swk_set hS hg i (List.replicate (n - i) Val.zero) (by simp; omega)
       have hkn2 : i ≤ n ∧ i ≤ cap := by omega
       clear q1 q2 q3 hjn2 hS hHr hI2
       generalize wr.setCells g (i * 3) (flatV (List.replicate (n - i) Val.zero)) = w9 at *
       go_wp2
       go_ret
       obtain ⟨q1, q2⟩ := (show D.take i = stand F ∧ i = (stand F).length from HQ)
       rw [← q2]
       have hF : F.length = n := HFn
       refine ⟨rfl, _, ?_, ?_, HS3⟩
       · simp; omega
       · rw [List.append_assoc, List.take_append_of_le_length (by rw [List.length_take]; omega), List.take_take, Nat.min_self]; exact q1
end Go.Proofs.Ytcajncmjlmpkgaa
