/- Values are ordered; slices. Own work; no condition. -/
import Derived.Test.YtcajncmjlmpkgaaPc46
import Derived.Test.YtcajncmjlmpkgaaPcPw1
import Derived.Shelf.SlSortCmp.NoneTotal
import Derived.Shelf.SlSortFuncK.SWK
namespace Go.Proofs.Ytcajncmjlmpkgaa
open Go Go.RowKit Go.Deep Go.Sort Go.Shelf
set_option linter.unusedVariables false
set_option linter.unusedSimpArgs false
structure Cmp {α : Type} (c : α → α → Int) : Prop where
 swap : ∀ x y, c y x = - c x y
 trans : ∀ x y z, c x y < 0 → c y z < 0 → c x z < 0
 eq0 : ∀ x y, c x y = 0 → x = y
theorem Cmp.refl {α : Type} {c : α → α → Int} (h : Cmp c) (x : α) : c x x = 0 := by have := h.swap x x; omega
theorem Cmp.le {α : Type} {c : α → α → Int} (h : Cmp c) (x y z : α) (h1 : 0 ≤ c x y) (h2 : 0 ≤ c y z) : 0 ≤ c x z := by
 have e1 := h.swap x y
 have e2 := h.swap y z
 have e3 := h.swap x z
 by_cases a : c x y = 0
 · rw [h.eq0 _ _ a]; exact h2
 · by_cases b : c y z = 0
   · rw [← h.eq0 _ _ b]; exact h1
   · have := h.trans z y x (by omega) (by omega); omega
theorem Cmp.swo {α β : Type} {c : α → α → Int} (h : Cmp c) (f : β → α) : SWO (ltOf fun x y : β => c (f x) (f y)) where
 irrefl x := by simp [ltOf, h.refl]
 trans x y z h1 h2 := by simp [ltOf] at *; exact h.trans _ _ _ h1 h2
 ntrans x y z h1 h2 := by simp [ltOf] at *; exact h.le _ _ _ h1 h2
theorem cmpI_cmp : Cmp cmpI where
 swap x y := by unfold cmpI; split <;> split <;> omega
 trans x y z h1 h2 := by
   unfold cmpI at *
   split at h1 <;> split at h2 <;> (try (split at h1)) <;> (try (split at h2)) <;> split <;> (try split) <;> omega
 eq0 x y h := by unfold cmpI at h; split at h <;> (try split at h) <;> omega
theorem bytes_swap : ∀ a b : List UInt8, Lib.compareBytes b a = - Lib.compareBytes a b
 | [], [] => rfl
 | [], _ :: _ => rfl
 | _ :: _, [] => rfl
 | a :: r, b :: s => by
   simp only [Lib.compareBytes]
   by_cases h : a < b
   · have : ¬ b < a := fun h' => by have := UInt8.lt_iff_toNat_lt.1 h; have := UInt8.lt_iff_toNat_lt.1 h'; omega
     simp [h, this]
   · by_cases h' : b < a
     · simp [h, h']
     · simp [h, h', bytes_swap r s]
theorem bytes_eq0 : ∀ a b : List UInt8, Lib.compareBytes a b = 0 → a = b
 | [], [], _ => rfl
 | [], _ :: _, h => by simp [Lib.compareBytes] at h
 | _ :: _, [], h => by simp [Lib.compareBytes] at h
 | a :: r, b :: s, h => by
   simp only [Lib.compareBytes] at h
   by_cases h1 : a < b
   · simp [h1] at h
   · by_cases h2 : b < a
     · simp [h1, h2] at h
     · simp [h1, h2] at h
       have e : a = b := by
         apply UInt8.toNat_inj.1
         rw [UInt8.lt_iff_toNat_lt] at h1 h2; omega
       rw [e, bytes_eq0 r s h]
theorem bytes_trans : ∀ a b c : List UInt8, Lib.compareBytes a b < 0 → Lib.compareBytes b c < 0 → Lib.compareBytes a c < 0
 | [], _, [], h1, h2 => by
   rename_i b; cases b <;> simp [Lib.compareBytes] at h1 h2
 | [], _, _ :: _, _, _ => by simp [Lib.compareBytes]
 | _ :: _, [], _, h1, _ => by simp [Lib.compareBytes] at h1
 | _ :: _, _ :: _, [], _, h2 => by simp [Lib.compareBytes] at h2
 | a :: r, b :: s, c :: t, h1, h2 => by
   simp only [Lib.compareBytes] at h1 h2 ⊢
   have key : ∀ x y : UInt8, x < y ↔ x.toNat < y.toNat := fun x y => UInt8.lt_iff_toNat_lt
   simp only [key] at h1 h2 ⊢
   have ih := bytes_trans r s t
   split at h1
   · split at h2
     · rw [if_pos (by omega)]; decide
     · split at h2
       · simp at h2
       · rw [if_pos (by omega)]; decide
   · split at h1
     · simp at h1
     · split at h2
       · rw [if_pos (by omega)]; decide
       · split at h2
         · simp at h2
         · rw [if_neg (by omega), if_neg (by omega)]; exact ih h1 h2
theorem cmpS_cmp : Cmp cmpS where
 swap x y := bytes_swap _ _
 trans x y z h1 h2 := bytes_trans _ _ _ h1 h2
 eq0 x y h := by
   have := bytes_eq0 _ _ h
   cases x with | mk a => cases y with | mk b => cases a; cases b; simp at this; subst this; rfl
def cmpV (p q : Val) : Int := or3 (cmpI p.k q.k) (cmpI p.n q.n) (cmpS p.s q.s)
theorem cmpV_cmp : Cmp cmpV where
 swap x y := by
   unfold cmpV
   rw [cmpI_cmp.swap x.k y.k, cmpI_cmp.swap x.n y.n, cmpS_cmp.swap x.s y.s]
   unfold or3
   split <;> split <;> (try split) <;> (try split) <;> simp_all
 trans x y z h1 h2 := by
   unfold cmpV or3 at *
   by_cases a : cmpI x.k y.k = 0
   · have ea := cmpI_cmp.eq0 _ _ a
     by_cases b : cmpI y.k z.k = 0
     · have eb := cmpI_cmp.eq0 _ _ b
       have ec : cmpI x.k z.k = 0 := by rw [ea, eb]; exact cmpI_cmp.refl _
       simp only [a, b, ec, ne_eq, not_true_eq_false, if_false] at h1 h2 ⊢
       by_cases a' : cmpI x.n y.n = 0
       · have ea' := cmpI_cmp.eq0 _ _ a'
         by_cases b' : cmpI y.n z.n = 0
         · have eb' := cmpI_cmp.eq0 _ _ b'
           have ec' : cmpI x.n z.n = 0 := by rw [ea', eb']; exact cmpI_cmp.refl _
           simp only [a', b', ec', not_true_eq_false, if_false] at h1 h2 ⊢
           exact cmpS_cmp.trans _ _ _ h1 h2
         · rw [ea']; simp only [b', not_false_eq_true, if_true] at h2 ⊢; exact h2
       · by_cases b' : cmpI y.n z.n = 0
         · have eb' := cmpI_cmp.eq0 _ _ b'
           rw [← eb']; simp only [a', not_false_eq_true, if_true] at h1 ⊢; exact h1
         · simp only [a', b', not_false_eq_true, if_true] at h1 h2
           have := cmpI_cmp.trans _ _ _ h1 h2
           rw [if_pos (by omega)]; exact this
     · rw [ea]; simp only [b, ne_eq, not_false_eq_true, if_true] at h2 ⊢; exact h2
   · by_cases b : cmpI y.k z.k = 0
     · have eb := cmpI_cmp.eq0 _ _ b
       rw [← eb]; simp only [a, ne_eq, not_false_eq_true, if_true] at h1 ⊢; exact h1
     · simp only [a, b, ne_eq, not_false_eq_true, if_true] at h1 h2
       have := cmpI_cmp.trans _ _ _ h1 h2
       rw [if_pos (by omega)]; exact this
 eq0 x y h := by
   unfold cmpV or3 at h
   split at h
   · omega
   · rename_i a
     split at h
     · omega
     · rename_i b
       have e1 := cmpI_cmp.eq0 _ _ (by omega : cmpI x.k y.k = 0)
       have e2 := cmpI_cmp.eq0 _ _ (by omega : cmpI x.n y.n = 0)
       have e3 := cmpS_cmp.eq0 _ _ h
       cases x; cases y; simp_all
theorem orderV_eq (p q : Val) : orderV p q = cmpV (clean p) (clean q) := (ordV_order p q).symm
def ltV (x y : Val) : Bool := decide (orderV x y < 0)
theorem swoV : SWO ltV := by
 have h := cmpV_cmp.swo fun x : Val => clean x
 have e : (fun x y : Val => cmpV (clean x) (clean y)) = orderV := by funext x y; rw [orderV_eq]
 rw [e] at h
 exact h
theorem grow_of {w w' : World} (h : w.Since w.heap.size w') (hd : w.drawn ≤ w'.drawn) : ∃ q os, w' = grow (w.drewN q) os := by
 refine ⟨w'.drawn - w.drawn, w'.heap.extract w.heap.size w'.heap.size, ?_⟩
 have e : w'.heap = w.heap ++ w'.heap.extract w.heap.size w'.heap.size := by
   apply Array.ext_getElem?
   intro i
   rw [Array.getElem?_append]
   split
   · rename_i hi; exact h.block i hi
   · rename_i hi
     rw [Array.getElem?_extract]
     have := h.size
     split
     · congr 1; omega
     · rw [Array.getElem?_eq_none]; omega
 have h1 := h.os
 have h2 := h.tape
 have h3 := h.output
 cases w' with
 | mk heap tape drawn os output =>
   simp only at h1 h2 h3 hd e
   subst h1 h2 h3
   simp only [grow, World.drewN]
   congr 1
   omega
theorem order_g (x y : Val) (w : World) : Calls Try.prog 72 #[x.val, y.val] w fun e w' => e = .returned (.int .i64 (orderV x y)) ∧ ∃ q os, w' = grow (w.drewN q) os :=
 (order_w x y w).mono fun _ _ ⟨h, hs, hd⟩ => ⟨by rw [h, ordV_order], grow_of hs hd⟩
theorem info24 : (Try.prog.info? 24).map (fun i => (i.zero, i.size, i.bytes)) = some (some (.agg #[.int .i64 0, .int .i64 0, .string ByteArray.empty]), 3, 32) := by kernel_rfl
theorem sortV_w (blk off cap : Nat) (d : Array Val) (w : World) (hH : HoldsK encV 3 w blk off d) (hblk : blk < w.heap.size) (hsz : d.size < 4611686018427387904) :
   Calls Try.prog 87 #[.slice (some ⟨blk, off, none⟩) d.size cap, .func (.func 72) #[] #[]] w fun e w' => e = .returned (.tuple #[]) ∧ ∃ d' n os, PermIn 0 d.size d d' ∧ SortedIn ltV 0 d.size d' ∧ w' = sortWorldK encV 3 w blk off n d' os := by
 have eg : ∀ args w, (callFunc 72 args).run Try.prog w = .ok (.enter 72 args) w := enters_of Try.func72 (by kernel_rfl) rfl
 exact AnyQ.slices_SortFunc layF 3 Try.isAgg24 Try.sizeOf24 encV (fun _ => rfl) (fun x v hv => by simp [encV] at hv; rcases hv with rfl | rfl | rfl <;> rfl) orderV swoV 72 #[] blk off cap d w eg (fun _ _ _ _ x y => order_g x y _) hH hblk hsz
theorem sortV_none (p : Option Addr) (cap : Nat) (fv : Value) (w : World) : Calls Try.prog 87 #[.slice p 0 cap, fv] w fun e w' => e = .returned (.tuple #[]) ∧ w' = w := AnyF.slices_SortFunc_none layF p cap fv w
abbrev flatV (F : List Val) : List Value := F.flatMap encV
theorem flatV_len (F : List Val) : (flatV F).length = F.length * 3 := by
 induction F with
 | nil => rfl
 | cons x r ih => simp [flatV, encV] at ih ⊢; omega
theorem flatv_get : ∀ (F : List Val) (t : Nat), t < F.length * 3 → (flatV F)[t]? = some (encV F[t / 3]!)[t % 3]!
 | [], t, h => by simp at h
 | x :: r, t, h => by
   simp only [flatV, List.flatMap_cons]
   rw [List.getElem?_append]
   split
   · rename_i g
     simp [encV] at g
     rw [show t / 3 = 0 by omega, show t % 3 = t by omega]
     rw [List.getElem?_eq_getElem (by simpa [encV] using g)]
     simp only [List.getElem!_cons_zero]
     rw [getElem!_pos _ t (by simpa [encV] using g)]
   · rename_i g
     simp [encV] at g
     have := flatv_get r (t - 3) (by simp at h; omega)
     rw [show (encV x).length = 3 from rfl, this, show (t - 3) / 3 = t / 3 - 1 by omega, show (t - 3) % 3 = t % 3 by omega]
     obtain ⟨k, hk⟩ : ∃ k, t / 3 = k + 1 := ⟨t / 3 - 1, by omega⟩
     rw [hk]; rfl
theorem flatK_eq (F : List Val) : flatK encV 3 F.toArray = (flatV F).toArray := by
 apply Array.ext_getElem?
 intro t
 by_cases h : t < F.length * 3
 · rw [List.getElem?_toArray (xs := flatV F), flatv_get F t h]
   have := get_flatK encV 3 F.toArray t (by simpa using h)
   rw [getElem!_pos _ t (by simpa using h)] at this
   rw [Array.getElem?_eq_getElem (by simpa using h), this]
   congr 3
   simp
 · rw [Array.getElem?_eq_none (by simp; omega), List.getElem?_toArray (xs := flatV F), List.getElem?_eq_none (by rw [flatV_len]; omega)]
theorem heap_mapBlock_same {w : World} {b : Nat} {arr : Array Value} {t : TypeId} {fr : Nat × Nat} (f : Array Value → Array Value) (h : w.heap[b]? = some (.cells arr t fr)) : (mapBlock w b f).heap[b]? = some (.cells (f arr) t fr) := by
 have hlt := (Array.getElem?_eq_some_iff.1 h).1
 have hv := (Array.getElem?_eq_some_iff.1 h).2
 unfold mapBlock
 rw [Array.getElem?_eq_getElem (by simpa using hlt), Array.getElem_modify]
 simp [hv, onCells]
theorem heap_mapBlock_other {w : World} {b k : Nat} (f : Array Value → Array Value) (h : k ≠ b) : (mapBlock w b f).heap[k]? = w.heap[k]? := by
 simp [mapBlock, Array.getElem?_modify, Ne.symm h]
theorem heap_grow {w : World} {os : Array Obj} {k : Nat} (h : k < w.heap.size) : (grow w os).heap[k]? = w.heap[k]? := by
 simp [grow, Array.getElem?_append, h]
theorem size_mapBlock (w : World) (b : Nat) (f : Array Value → Array Value) : (mapBlock w b f).heap.size = w.heap.size := by simp [mapBlock]
theorem holdsV {w : World} {base g n cap : Nat} {F : List Val} (h : w.ownsRow base 24 3 (.slice (some ⟨g, 0, none⟩) n cap) n (flatV F)) : HoldsK encV 3 w g 0 F.toArray := by
 intro j hj
 rw [flatK_eq] at hj ⊢
 have hj' : j < (flatV F).length := by simpa using hj
 rcases h.2 with ⟨e, _⟩ | ⟨g', cap', cur, e, _, hg, _, _, _, hx⟩
 · cases e
 · simp only [Value.slice.injEq, Option.some.injEq, Addr.mk.injEq, and_true] at e
   obtain ⟨rfl, _, rfl⟩ := e
   rw [Nat.zero_add]
   refine ⟨?_, by simp [World.frozen?, hg]⟩
   have h1 : cur.toList[j]? = some ((flatV F)[j]) := by
     have h2 : (flatV F)[j]? = some ((flatV F)[j]) := List.getElem?_eq_getElem hj'
     rw [← h2, ← hx, List.getElem?_take, if_pos (by have := h.1; omega)]
   rw [getElem!_pos _ j hj]
   exact cell_of_heap hg (by simpa using h1)
theorem ownsV_sorted {w : World} {base g n cap : Nat} {F F' : List Val} (h : w.ownsRow base 24 3 (.slice (some ⟨g, 0, none⟩) n cap) n (flatV F)) (hl : F'.length = F.length) (q : Nat) (os : Array Obj) :
   (sortWorldK encV 3 w g 0 q F'.toArray os).ownsRow base 24 3 (.slice (some ⟨g, 0, none⟩) n cap) n (flatV F') := by
 have hFl := h.1
 rw [flatV_len] at hFl
 refine ⟨by rw [flatV_len]; omega, ?_⟩
 rcases h.2 with ⟨e, _⟩ | ⟨g', cap', cur, e, h3, h4, h5, h6, h7, h8⟩
 · cases e
 · simp only [Value.slice.injEq, Option.some.injEq, Addr.mk.injEq, and_true] at e
   obtain ⟨rfl, _, rfl⟩ := e
   have hlt : g < w.heap.size := (Array.getElem?_eq_some_iff.1 h4).1
   refine .inr ⟨g, cap, putCells id 0 (flatV F').toArray cur, rfl, h3, ?_, h5, h6, by simp [putCells]; omega, ?_⟩
   · unfold sortWorldK
     rw [heap_grow (by rw [putRowK, putRow, size_mapBlock]; exact hlt), putRowK, putRow, flatK_eq, heap_mapBlock_same _ (by exact h4)]
   · apply List.ext_getElem?
     intro k
     have hF' : (flatV F').length = n * 3 := by rw [flatV_len]; omega
     rw [List.getElem?_take]
     by_cases hk : k < n * 3
     · rw [if_pos hk]
       have hc5 : n * 3 ≤ cap * 3 := Nat.mul_le_mul_right 3 h5
       have hkc : k < cur.size := by omega
       have hk' : k < (flatV F').length := by omega
       simp only [putCells, Array.getElem?_toList, Array.getElem?_mapIdx, Array.getElem?_eq_getElem hkc, Option.map_some, Nat.zero_le, true_and, Nat.zero_add, Nat.sub_zero, List.size_toArray, hk', if_true, id]
       rw [List.getElem?_eq_getElem hk', getElem!_pos _ k (by simpa using hk')]
       simp
     · rw [if_neg hk, List.getElem?_eq_none (by omega)]
end Go.Proofs.Ytcajncmjlmpkgaa
