/- A region whose order is open, in pieces: an operation that all others stand before or behind may turn any object. Own work; no condition. -/
import Derived.Test.YtcajncmjlmpkgaaPcAbs18
namespace Go.Proofs.Ytcajncmjlmpkgaa
open Go Go.RowKit
def OnlyN (R : Act → World → Prop) : Exit → Act → World → Prop
 | .normal, a, w => R a w
 | _, _, _ => False
theorem wp_onlyN {P : Program} {o : Oper} {a : Act} {w : World} {K K' : Act → World → Prop} {R : Act → World → Prop} {Q : Exit → Act → World → Prop} (h : ∀ a w, K a w → K' a w) (hh : o.wp P a w K (OnlyN R)) : o.wp P a w K' Q := by
 unfold Oper.wp at *
 generalize (execOp a.eval o).run P w = r at *
 cases r with
 | ok n w' =>
   cases n <;> simp only [Oper.upon] at hh ⊢ <;>
     first
       | exact h _ _ hh
       | exact Calls.mono hh (fun e w'' he => by cases e <;> first | exact h _ _ he | exact he.elim | (obtain ⟨_, _, he⟩ := he; exact he.elim))
       | exact Rows.mono hh (fun _ _ he => h _ _ he)
 | halt x w' => cases x <;> simp only [Oper.upon] at hh ⊢ <;> first | exact hh | exact hh.elim
theorem wpAny_more {P : Program} {ops : Array Oper} {Q : Exit → Act → World → Prop} : ∀ (n : Nat) (listed : Array Bool) (a : Act) (w : World), wpAny P .any ops Q n listed a w → wpAny P .any ops Q (n + 1) listed a w
 | 0, _, _, _, h => ⟨fun _ => h.2, fun i hi => by rw [h.1] at hi; cases hi⟩
 | n + 1, _, _, _, h => ⟨h.1, fun i hi => wpOp_mono (fun a w h => wpAny_more n _ a w h) (h.2 i hi)⟩
theorem wpAny_le {P : Program} {ops : Array Oper} {Q : Exit → Act → World → Prop} {listed : Array Bool} {a : Act} {w : World} {m n : Nat} (h : m ≤ n) (hm : wpAny P .any ops Q m listed a w) : wpAny P .any ops Q n listed a w := by
 induction h with
 | refl => exact hm
 | step _ ih => exact wpAny_more _ _ _ _ ih
theorem anc_lt {ops : List Oper} (hb : backOk ops = true) : ∀ (i : Nat), i < ops.length → ∀ k, k ∈ (ancs ops []).getD i [] → k < i := by
 intro i
 induction i using Nat.strongRecOn with
 | _ i ih =>
   intro hi k hk
   obtain ⟨e, he, hbd, hk⟩ := (anc_spec ops []).2 i ops[i] (List.getElem?_eq_getElem hi) k (by simpa using hk)
   have hon : e.on < i := by
     simp only [backOk, List.all_eq_true, List.mem_range] at hb
     have := hb i hi
     simp only [List.getElem?_eq_getElem hi, List.all_eq_true, Bool.or_eq_true, Bool.not_eq_true', decide_eq_true_eq] at this
     exact (this e he).resolve_left (by simp [hbd])
   rcases hk with rfl | hk
   · exact hon
   · exact Nat.lt_trans (ih e.on hon (by omega) k hk) hon
theorem ready_closed {ops : Array Oper} {listed : Array Bool} (hcl : ∀ j, listed.getD j false = true → ∀ k, k ∈ (ancs ops.toList []).getD j [] → listed.getD k false = true) {i : Nat} (hi : i ∈ Region.ready .any ops listed) : ∀ k, k ∈ (ancs ops.toList []).getD i [] → listed.getD k false = true := by
 intro k hk
 obtain ⟨_, o, ho, haft⟩ := mem_ready.1 hi
 obtain ⟨e, he, hbd, hk⟩ := (anc_spec ops.toList []).2 i o (by simpa using ho) k (by simpa using hk)
 have h1 := haft e (by simpa using he) hbd
 rcases hk with rfl | hk
 · exact h1
 · exact hcl _ h1 _ hk
theorem getDtf {listed : Array Bool} {j : Nat} (hj : j < listed.size) : listed.getD j true = listed.getD j false := by simp [Array.getD, hj]
theorem ready_nil {ops : Array Oper} (hb : backOk ops.toList = true) {listed : Array Bool} (hsz : listed.size = ops.size) (hr : Region.ready .any ops listed = []) : ∀ j, j < ops.size → listed.getD j false = true := by
 intro j
 induction j using Nat.strongRecOn with
 | _ j ih =>
   intro hj
   cases hl : listed.getD j false with
   | true => rfl
   | false =>
     exfalso
     have : j ∈ Region.ready .any ops listed := by
       refine mem_ready.2 ⟨by rw [getDtf (by omega)]; exact hl, ops[j], by simp [hj], fun e he hbd => ?_⟩
       simp only [backOk, List.all_eq_true, List.mem_range] at hb
       have := hb j (by simpa using hj)
       simp only [Array.getElem?_toList, Array.getElem?_eq_getElem hj, List.all_eq_true, Bool.or_eq_true, Bool.not_eq_true', decide_eq_true_eq] at this
       have := (this e (by simpa using he)).resolve_left (by simp [hbd])
       exact ih e.on this (by omega)
     rw [hr] at this; cases this
def elemX : Nat → List Nat → Bool
 | _, [] => false
 | n, x :: r => if x = n then true else elemX n r
theorem elemX_mem {n : Nat} : ∀ {l : List Nat}, elemX n l = true → n ∈ l
 | [], h => by simp [elemX] at h
 | x :: r, h => by
   simp only [elemX] at h
   split at h
   · rename_i e; simp [e]
   · exact List.mem_cons_of_mem _ (elemX_mem h)
def gateOk (ops : List Oper) (k : Nat) : Bool :=
 (List.range k).all (fun i => elemX i ((ancs ops []).getD k [])) && (List.range ops.length).all (fun j => decide (j ≤ k) || elemX k ((ancs ops []).getD j [])) &&
   (ops.take k).all fun o => match o.guard with | some (j, _) => decide (j < k) | none => true
structure Gate (ops : List Oper) (k : Nat) : Prop where
 before : ∀ i, i < k → i ∈ (ancs ops []).getD k []
 behind : ∀ j, k < j → j < ops.length → k ∈ (ancs ops []).getD j []
 guards : ∀ i o j b, i < k → ops[i]? = some o → o.guard = some (j, b) → j < k
theorem gate_of {ops : List Oper} {k : Nat} (h : gateOk ops k = true) : Gate ops k := by
 simp only [gateOk, Bool.and_eq_true, List.all_eq_true, List.mem_range, Bool.or_eq_true, decide_eq_true_eq] at h
 obtain ⟨⟨h1, h2⟩, h3⟩ := h
 refine ⟨fun i hi => elemX_mem (h1 i hi), fun j hj hl => elemX_mem ((h2 j hl).resolve_left (by omega)), fun i o j b hi ho hg => ?_⟩
 have := h3 o (List.mem_of_getElem? (i := i) (by rw [List.getElem?_take_of_lt hi]; exact ho))
 rw [hg] at this; simpa using this
section
variable {P : Program} {ops : Array Oper} {k : Nat}
theorem yielded_take (t : Array Value) {j : Nat} (hj : j < k) : yielded (ops.toList.take k).toArray t j = yielded ops t j := by
 unfold yielded
 rw [List.getElem?_toArray, List.getElem?_take_of_lt hj, Array.getElem?_toList]
theorem wpAny_seg (hk : k < ops.size) (hb : backOk ops.toList = true) (hb' : backOk (ops.toList.take k) = true) (hg : Gate ops.toList k) {Q : Exit → Act → World → Prop} {fuel2 : Nat} {R : Act → World → Prop}
   (hR : ∀ a w listed, R a w → listed.size = ops.size → (∀ j, j < k → listed.getD j false = true) → (∀ j, k ≤ j → listed.getD j false = false) → wpAny P .any ops Q fuel2 listed a w) :
   ∀ (fuel : Nat) (listed listed' : Array Bool) (a : Act) (w : World), listed.size = ops.size → listed'.size = k → (∀ j, j < k → listed.getD j false = listed'.getD j false) → (∀ j, k ≤ j → listed.getD j false = false) →
     (∀ j, listed.getD j false = true → ∀ i, i ∈ (ancs ops.toList []).getD j [] → listed.getD i false = true) →
     wpAny P .any (ops.toList.take k).toArray (OnlyN R) fuel listed' a w → wpAny P .any ops Q (fuel + fuel2) listed a w := by
 have hsz' : (ops.toList.take k).toArray.size = k := by simp; omega
 intro fuel
 induction fuel with
 | zero =>
   intro listed listed' a w h1 h2 h3 h4 h5 h
   have hall := ready_nil (ops := (ops.toList.take k).toArray) (by simpa using hb') (by rw [hsz']; exact h2) h.1
   rw [Nat.zero_add]
   exact hR a w listed h.2 h1 (fun j hj => by rw [h3 j hj]; exact hall j (by rw [hsz']; exact hj)) h4
 | succ fuel ih =>
   intro listed listed' a w h1 h2 h3 h4 h5 h
   by_cases hdone : ∀ j, j < k → listed'.getD j false = true
   · have hr : Region.ready .any (ops.toList.take k).toArray listed' = [] := by
       cases hr : Region.ready .any (ops.toList.take k).toArray listed' with
       | nil => rfl
       | cons i l =>
         have : i ∈ Region.ready .any (ops.toList.take k).toArray listed' := by rw [hr]; simp
         obtain ⟨h0, o, ho, _⟩ := mem_ready.1 this
         have hi := (Array.getElem?_eq_some_iff.1 ho).1
         rw [hsz'] at hi
         rw [getDtf (by omega), hdone i hi] at h0; cases h0
     exact wpAny_le (Nat.le_add_left _ _) (hR a w listed (h.1 hr) h1 (fun j hj => by rw [h3 j hj]; exact hdone j hj) h4)
   · have hsome : ∃ j, j < k ∧ listed'.getD j false = false := by
       refine Classical.byContradiction fun hn => hdone fun j hj => ?_
       cases hl : listed'.getD j false with
       | true => rfl
       | false => exact absurd ⟨j, hj, hl⟩ hn
     obtain ⟨j0, hj0, hl0⟩ := hsome
     rw [Nat.succ_add]
     refine ⟨fun hr => ?_, fun i hi => ?_⟩
     · have := ready_nil hb h1 hr j0 (by omega)
       rw [h3 j0 hj0, hl0] at this; cases this
     · have hcl := ready_closed h5 hi
       obtain ⟨h0, o, ho, haft⟩ := mem_ready.1 hi
       have hin := (Array.getElem?_eq_some_iff.1 ho).1
       have ho' : ops.toList[i]? = some o := by simpa using ho
       have hik : i < k := by
         rcases Nat.lt_trichotomy i k with g | g | g
         · exact g
         · subst g
           have := hcl j0 (hg.before j0 hj0)
           rw [h3 j0 hj0, hl0] at this; cases this
         · have := hcl k (hg.behind i g (by simpa using hin))
           rw [h4 k (Nat.le_refl _)] at this; cases this
       have hback : ∀ e, e ∈ o.after → Region.binds .any e = true → e.on < i := by
         intro e he hbd
         simp only [backOk, List.all_eq_true, List.mem_range] at hb
         have := hb i (by simpa using hin)
         simp only [ho', List.all_eq_true, Bool.or_eq_true, Bool.not_eq_true', decide_eq_true_eq] at this
         exact (this e (by simpa using he)).resolve_left (by simp [hbd])
       have hi' : i ∈ Region.ready .any (ops.toList.take k).toArray listed' := by
         refine mem_ready.2 ⟨?_, o, ?_, fun e he hbd => ?_⟩
         · rw [getDtf (by omega), ← h3 i hik, ← getDtf (by omega)]; exact h0
         · rw [List.getElem?_toArray, List.getElem?_take_of_lt hik]; exact ho'
         · have := hback e he hbd
           rw [← h3 e.on (by omega)]; exact haft e he hbd
       have hw := h.2 i hi'
       have next : ∀ a' w', wpAny P .any (ops.toList.take k).toArray (OnlyN R) fuel (listed'.setIfInBounds i true) a' w' → wpAny P .any ops Q (fuel + fuel2) (listed.setIfInBounds i true) a' w' := by
         intro a' w' h'
         refine ih (listed.setIfInBounds i true) (listed'.setIfInBounds i true) a' w' (by simpa using h1) (by simpa using h2) (fun j hj => ?_) (fun j hj => ?_) (fun j hj l hl => ?_) h'
         · by_cases e : j = i
           · subst e; simp [Array.getD, h1, h2, hj, hin]
           · rw [getD_set_ne false (Ne.symm e), getD_set_ne false (Ne.symm e)]; exact h3 j hj
         · rw [getD_set_ne false (by omega)]; exact h4 j hj
         · by_cases e : j = i
           · subst e; exact getD_set_true (hcl l hl)
           · rw [getD_set_ne false (Ne.symm e)] at hj; exact getD_set_true (h5 j hj l hl)
       unfold wpOp at hw ⊢
       have e1 : (ops.toList.take k).toArray[i]? = some o := by rw [List.getElem?_toArray, List.getElem?_take_of_lt hik]; exact ho'
       have e2 : Region.wanted o (yielded (ops.toList.take k).toArray a.tmps) = Region.wanted o (yielded ops a.tmps) := by
         unfold Region.wanted
         cases hgd : o.guard with
         | none => rfl
         | some g =>
           obtain ⟨j, b⟩ := g
           simp only
           rw [yielded_take a.tmps (hg.guards i o j b hik ho' hgd)]
       rw [e1] at hw
       rw [ho]
       simp only [e2] at hw ⊢
       by_cases hwd : Region.wanted o (yielded ops a.tmps) = true
       · rw [if_pos hwd] at hw ⊢
         rcases hw with hw | ⟨_, _, _, hw⟩
         · exact .inl (wp_onlyN next hw)
         · exact hw.elim
       · rw [if_neg hwd] at hw ⊢
         exact next _ _ hw
theorem wpAny_gate (hk : k < ops.size) (hb : backOk ops.toList = true) (hg : Gate ops.toList k) {Q : Exit → Act → World → Prop} {fuel : Nat} {listed : Array Bool} {a : Act} {w : World} (h1 : listed.size = ops.size) (h2 : ∀ j, j < k → listed.getD j false = true) (h3 : ∀ j, k ≤ j → listed.getD j false = false)
   (h : wpOp P ops Q k (fun a' w' => ∀ listed', listed'.size = ops.size → (∀ j, j < k + 1 → listed'.getD j false = true) → (∀ j, k + 1 ≤ j → listed'.getD j false = false) → wpAny P .any ops Q fuel listed' a' w') a w) : wpAny P .any ops Q (fuel + 1) listed a w := by
 have hcl : ∀ j, listed.getD j false = true → ∀ i, i ∈ (ancs ops.toList []).getD j [] → listed.getD i false = true := by
   intro j hj i hi
   have hjk : j < k := by
     rcases Nat.lt_or_ge j k with g | g
     · exact g
     · rw [h3 j g] at hj; cases hj
   exact h2 i (by have := anc_lt hb j (by simp; omega) i hi; omega)
 refine ⟨fun hr => ?_, fun i hi => ?_⟩
 · have := ready_nil hb h1 hr k hk
   rw [h3 k (Nat.le_refl _)] at this; cases this
 · have hc := ready_closed hcl hi
   obtain ⟨h0, o, ho, haft⟩ := mem_ready.1 hi
   have hin := (Array.getElem?_eq_some_iff.1 ho).1
   have e : i = k := by
     rcases Nat.lt_trichotomy i k with g | g | g
     · rw [getDtf (by omega), h2 i g] at h0; cases h0
     · exact g
     · have := hc k (hg.behind i g (by simpa using hin))
       rw [h3 k (Nat.le_refl _)] at this; cases this
   subst e
   refine wpOp_mono (fun a' w' hw => ?_) h
   refine hw _ (by simpa using h1) (fun j hj => ?_) (fun j hj => ?_)
   · by_cases e : j = i
     · subst e; simp [Array.getD, h1, hin]
     · exact getD_set_true (h2 j (by omega))
   · rw [getD_set_ne false (by omega)]; exact h3 j (by omega)
end
theorem getD_ext (l : Array Bool) (k j : Nat) : (l.extract 0 k).getD j false = if j < k then l.getD j false else false := by
 rw [Array.getD_eq_getD_getElem?, Array.getElem?_extract, Array.getD_eq_getD_getElem?]
 by_cases h : j < k
 · rw [if_pos h]
   by_cases h2 : j < l.size
   · rw [if_pos (by omega)]; simp
   · rw [if_neg (by omega), Array.getElem?_eq_none (by omega)]
 · rw [if_neg h, if_neg (by omega)]; rfl
def nullE (n : Nat) : List Ef := List.replicate n ⟨none, none⟩
def nullF (n : Nat) : List (List Nat × Bool) := List.replicate n ([], false)
theorem mT_null (E : List Ef) (t : Nat) (r : Option AV) : ∀ (n : Nat) (S : Nat → Bool), mT (nullE n ++ E) S 0 t r = mT E (fun j => S (n + j)) 0 t r := by
 intro n
 induction n with
 | zero => intro S; simp [nullE]
 | succ n ih =>
   intro S
   have e : nullE (n + 1) ++ E = ⟨none, none⟩ :: (nullE n ++ E) := by simp [nullE, List.replicate_succ]
   rw [e]
   simp only [mT]
   rw [mT_shift]
   have : (if S 0 = true then r else r) = r := by split <;> rfl
   rw [this, ih]
   congr 1; funext j; congr 1; omega
theorem mH_null (E : List Ef) (t : Nat) (r : Option AObj) : ∀ (n : Nat) (S : Nat → Bool), mH (nullE n ++ E) S 0 t r = mH E (fun j => S (n + j)) 0 t r := by
 intro n
 induction n with
 | zero => intro S; simp [nullE]
 | succ n ih =>
   intro S
   have e : nullE (n + 1) ++ E = ⟨none, none⟩ :: (nullE n ++ E) := by simp [nullE, List.replicate_succ]
   rw [e]
   simp only [mH]
   rw [mH_shift]
   have : (if S 0 = true then r else r) = r := by split <;> rfl
   rw [this, ih]
   congr 1; funext j; congr 1; omega
theorem nullE_get {n : Nat} {E : List Ef} {j : Nat} {e : Ef} (h : (nullE n ++ E)[j]? = some e) : (j < n ∧ e = ⟨none, none⟩) ∨ (n ≤ j ∧ E[j - n]? = some e) := by
 rcases Nat.lt_or_ge j n with g | g
 · rw [List.getElem?_append_left (by simpa [nullE] using g)] at h
   refine .inl ⟨g, ?_⟩
   simp only [nullE, List.getElem?_replicate, g, if_true, Option.some.injEq] at h
   exact h.symm
 · rw [List.getElem?_append_right (by simpa [nullE] using g)] at h
   exact .inr ⟨g, by simpa [nullE] using h⟩
theorem At.shift {P : Program} {ops : List Oper} {o : Oper} {i : Nat} {T : List (Nat × AV)} {R : Nat → Option AObj} {nx0 nxl : Nat} {E : List Ef} {F : List (List Nat × Bool)} {Ai : AS} {nx nx' : Nat} {e : Ef} {f : List Nat × Bool} (h : At P ops o i T R nx0 nxl E F Ai nx nx' e f) (n : Nat) :
   At P ops o (n + i) T R nx0 nxl (nullE n ++ E) (nullF n ++ F) Ai nx nx' e f := by
 have sh : (fun j => lt (n + i) (n + j)) = lt i := by funext j; simp [lt]
 refine ⟨?_, ?_, h.link, h.len, h.lo, h.hi, fun t => ?_, fun id hid => ?_, fun j e' id x hj he hx => ?_⟩
 · rw [List.getElem?_append_right (by simp [nullE])]; simpa [nullE] using h.e_at
 · rw [List.getElem?_append_right (by simp [nullF])]; simpa [nullF] using h.f_at
 · rw [mT_null, sh]; exact h.T_at t
 · rw [mH_null, sh]; exact h.H_at id hid
 · rcases nullE_get he with ⟨_, rfl⟩ | ⟨g, he⟩
   · cases hx
   · exact h.old (j - n) e' id x (by omega) he hx
theorem Chn.snoc {P : Program} {ops : List Oper} {o : Oper} : ∀ (l : List Oper) (A : AS) (nx : Nat) (E : List Ef) (F : List (List Nat × Bool)) (A1 : AS) (nx1 : Nat) (e : Ef) (f : List Nat × Bool) (nx2 : Nat), Chn P ops l A nx E F A1 nx1 → Link P ops o A1 nx1 e f nx2 → Chn P ops (l ++ [o]) A nx (E ++ [e]) (F ++ [f]) (e.ap A1) nx2 := by
 intro l
 induction l with
 | nil =>
   rintro A nx E F A1 nx1 e f nx2 ⟨rfl, rfl, rfl, rfl⟩ hl
   exact ⟨_, e, f, nx2, [], [], fun _ => rfl, rfl, rfl, rfl, hl, rfl, rfl, rfl, rfl⟩
 | cons a l ih =>
   rintro A nx E F A1 nx1 e f nx2 ⟨A', e0, f0, nx0, E', F', h1, h2, rfl, rfl, h5, h6⟩ hl
   exact ⟨A', e0, f0, nx0, _, _, h1, h2, rfl, rfl, h5, ih _ _ _ _ _ _ _ _ _ h6 hl⟩
theorem guardV_take {ops : List Oper} {k j : Nat} (hj : j < k) (T : List (Nat × AV)) : guardV (ops.take k) T j = guardV ops T j := by
 unfold guardV; rw [List.getElem?_take_of_lt hj]
theorem guardN_take {ops : List Oper} {k j : Nat} (hj : j < k) (T : List (Nat × AV)) : guardN (ops.take k) T j = guardN ops T j := by
 unfold guardN; rw [List.getElem?_take_of_lt hj]
theorem Chn.take {P : Program} {ops : List Oper} {k : Nat} : ∀ (l : List Oper) (A : AS) (nx : Nat) (E : List Ef) (F : List (List Nat × Bool)) (A1 : AS) (nx1 : Nat), (∀ o j b, o ∈ l → o.guard = some (j, b) → j < k) → Chn P ops l A nx E F A1 nx1 → Chn P (ops.take k) l A nx E F A1 nx1 := by
 intro l
 induction l with
 | nil => intro A nx E F A1 nx1 _ h; exact h
 | cons a l ih =>
   rintro A nx E F A1 nx1 hg ⟨A', e0, f0, nx0, E', F', h1, h2, rfl, rfl, h5, h6⟩
   refine ⟨A', e0, f0, nx0, _, _, h1, h2, rfl, rfl, ?_, ih _ _ _ _ _ _ (fun o j b ho => hg o j b (List.mem_cons_of_mem _ ho)) h6⟩
   rcases h5 with ⟨h7, h8⟩ | ⟨⟨j, b, h7, h8⟩, h9⟩
   · refine .inl ⟨?_, h8⟩
     rcases h7 with h7 | ⟨j, b, h7, h9⟩
     · exact .inl h7
     · exact .inr ⟨j, b, h7, by rw [guardV_take (hg a j b (by simp) h7)]; exact h9⟩
   · have hj := hg a j b (by simp) h7
     exact .inr ⟨⟨j, b, h7, by rw [guardV_take hj, guardN_take hj]; exact h8⟩, h9⟩
theorem unl_pre (lo : Nat) : ∀ n, unl n (fun j => decide (j < lo)) = n - lo := by
 intro n
 induction n with
 | zero => simp [unl]
 | succ n ih =>
   unfold unl at ih ⊢
   rw [List.range_succ, List.filter_append, List.length_append, ih]
   by_cases h : n < lo
   · simp [h]; omega
   · simp [h]; omega
theorem unl_congr {n : Nat} {S S' : Nat → Bool} (h : ∀ j, j < n → S j = S' j) : unl n S = unl n S' := by
 unfold unl
 congr 1
 refine List.filter_congr fun j hj => ?_
 rw [h j (by simpa using hj)]
section
variable {P : Program} {nt : NT} {ops : Array Oper}
def Rest (P : Program) (nt : NT) (ops : Array Oper) (Q : Exit → AS → Prop) (lo : Nat) (A : AS) : Prop :=
 ∀ B G0 a w, TR nt G0 A.T a → WR B G0 A.H w → ∀ fuel listed, listed.size = ops.size → (∀ j, j < lo → listed.getD j false = true) → (∀ j, lo ≤ j → listed.getD j false = false) → ops.size - lo ≤ fuel →
   wpAny P .any ops (Po B nt G0 Q) fuel listed a w
theorem piece (hdst : dstOk nt ops.toList = true) (hs : orderOk ops.toList = true) {lo : Nat} (hlo : lo ≤ ops.size) {A A' : AS} {E : List Ef} {F : List (List Nat × Bool)} {nxl : Nat} (hc : Chn P ops.toList (ops.toList.drop lo) A A.H.length E F A' nxl) (hf : fpOk ops.toList (nullF lo ++ F) = true)
   {B : Base} {G0 : Ghost} {Q : Exit → Act → World → Prop} (hq : ∀ G a w, GExt G0 G → TR nt G A'.T a → WR B G A'.H w → Q .normal a w)
   {a : Act} {w : World} (tr : TR nt G0 A.T a) (wr : WR B G0 A.H w) {fuel : Nat} {listed : Array Bool} (h1 : listed.size = ops.size) (h2 : ∀ j, j < lo → listed.getD j false = true) (h3 : ∀ j, lo ≤ j → listed.getD j false = false) (hfu : ops.size - lo ≤ fuel) :
   wpAny P .any ops Q fuel listed a w := by
 have hb := (Bool.and_eq_true _ _ ▸ hs : backOk ops.toList = true ∧ namesOk ops.toList = true).1
 obtain ⟨k1, k2, k3, k4, k5, k6, k7⟩ := hc.at_ (ops.toList.drop lo) A A.H.length E F A' nxl (fun id => (A.H ++ List.replicate (nxl - A.H.length) AObj.gone)[id]?) rfl (fun id hid => by rw [List.getElem?_append_left hid])
 have hEl : (nullE lo ++ E).length = ops.size := by simp [nullE, k1]; omega
 refine draw_any (E := nullE lo ++ E) (F := nullF lo ++ F) (G0 := G0) (B := B) (A := A) (nxl := nxl) (R := fun id => (A.H ++ List.replicate (nxl - A.H.length) AObj.gone)[id]?) hdst hs hEl lo (fun j e hj hlt => ?_) (fun i o hi ho => ?_) hf (Q := Q) ?_ fuel listed a w G0 A.T (A.H ++ List.replicate (nxl - A.H.length) AObj.gone) h1 h2 (fun j hj i hi => ?_) ?_ tr ?_ (GExt.refl G0) (fun t => ?_) (by simp; omega) (fun id hid => ?_) (fun id hid _ => wr.dom id hid)
 · rcases nullE_get hj with ⟨_, rfl⟩ | ⟨g, _⟩
   · exact ⟨rfl, rfl⟩
   · omega
 · obtain ⟨Ai, nxi, nxi', e, f, q⟩ := k7 (i - lo) o (by rw [List.getElem?_drop, show lo + (i - lo) = i by omega]; exact ho)
   have := q.shift lo
   rw [show lo + (i - lo) = i by omega] at this
   exact ⟨Ai, nxi, nxi', e, f, this⟩
 · intro G T H a' w' ext tr' wr' hT hl hH
   have sh : ∀ S : Bool, (fun j : Nat => (fun _ : Nat => S) (lo + j)) = fun _ => S := fun S => rfl
   have eH : H = A'.H := by
     apply List.ext_getElem?
     intro i
     rcases Nat.lt_or_ge i nxl with g | g
     · rw [hH i g, k6 i g, mH_null]
     · rw [List.getElem?_eq_none (by omega), List.getElem?_eq_none (by omega)]
   subst eH
   exact hq G a' w' ext ⟨tr'.size, tr'.defers, fun t x hx => tr'.slots t x (by rw [hT t, mT_null, ← k5 t]; exact hx)⟩ wr'
 · have hjk : j < lo := by
     rcases Nat.lt_or_ge j lo with g | g
     · exact g
     · rw [h3 j g] at hj; cases hj
   exact h2 i (by have := anc_lt hb j (by simp; omega) i hi; omega)
 · refine Nat.le_trans (Nat.le_of_eq ?_) hfu
   rw [unl_congr (S' := fun j => decide (j < lo)) (fun j _ => ?_), unl_pre]
   by_cases g : j < lo
   · rw [h2 j g]; simp [g]
   · rw [h3 j (by omega)]; simp [g]
 · refine ⟨wr.below, wr.mem, wr.news, wr.olds, fun id x hx => ?_, wr.sep, wr.fresh, fun id hid => wr.dom id (by simp at hid; omega), wr.keep, wr.apart⟩
   rcases Nat.lt_or_ge id A.H.length with g | g
   · rw [List.getElem?_append_left g] at hx; exact wr.objs id x hx
   · rw [List.getElem?_append_right g, List.getElem?_replicate] at hx
     split at hx <;> simp at hx
     subst hx; trivial
 · rw [mT_null, mT_congr E _ (fun _ => false) 0 t _ (fun j _ _ _ _ _ _ => by simp only [Nat.zero_add]; exact h3 _ (by omega)), mT_none]
 · rw [mH_null, mH_congr E _ (fun _ => false) 0 id _ (fun j _ _ _ _ _ _ => by simp only [Nat.zero_add]; exact h3 _ (by omega)), mH_none]
theorem Rest.fin (hdst : dstOk nt ops.toList = true) (hs : orderOk ops.toList = true) {Q : Exit → AS → Prop} {lo : Nat} (hlo : lo ≤ ops.size) {A A' : AS} {E : List Ef} {F : List (List Nat × Bool)} {nxl : Nat} (hc : Chn P ops.toList (ops.toList.drop lo) A A.H.length E F A' nxl) (hf : fpOk ops.toList (nullF lo ++ F) = true) (hQ : Q .normal A') : Rest P nt ops Q lo A :=
 fun _ _ _ _ tr wr _ _ h1 h2 h3 h4 => piece hdst hs hlo hc hf (fun _ _ _ e t r => Po.go (A := A') (fun _ => nofun) e t r hQ) tr wr h1 h2 h3 h4
theorem Rest.gate (hdst : dstOk nt ops.toList = true) (hs : orderOk ops.toList = true) {Q : Exit → AS → Prop} {lo k : Nat} (hlo : lo ≤ k) (hk : k < ops.size) (hs' : orderOk (ops.toList.take k) = true) (hg : Gate ops.toList k) {A A' : AS} {E : List Ef} {F : List (List Nat × Bool)} {nxl : Nat}
   (hc : Chn P ops.toList ((ops.toList.take k).drop lo) A A.H.length E F A' nxl) (hf : fpOk (ops.toList.take k) (nullF lo ++ F) = true) {o : Oper} (ho : ops.toList[k]? = some o) (hgd : o.guard = none ∨ ∃ j b, o.guard = some (j, b) ∧ guardV ops.toList A'.T j = some b)
   (h : ∀ B G a w, TR nt G A'.T a → WR B G A'.H w → ∀ Q', o.wp P a w (Nx B nt G (Rest P nt ops Q (k + 1))) Q') : Rest P nt ops Q lo A := by
 intro B G0 a w tr wr fuel listed h1 h2 h3 h4
 have hb := (Bool.and_eq_true _ _ ▸ hs : backOk ops.toList = true ∧ namesOk ops.toList = true).1
 have hb' := (Bool.and_eq_true _ _ ▸ hs' : backOk (ops.toList.take k) = true ∧ namesOk (ops.toList.take k) = true).1
 have hsz' : (ops.toList.take k).toArray.size = k := by simp; omega
 have hdst' : dstOk nt (ops.toList.take k).toArray.toList = true := by
   simp only [dstOk, List.all_eq_true] at hdst ⊢
   exact fun o ho => hdst o (List.mem_of_mem_take ho)
 obtain ⟨f3, hf3⟩ : ∃ f3, fuel = (k - lo) + (f3 + 1) ∧ ops.size - (k + 1) ≤ f3 := ⟨fuel - (k - lo) - 1, by omega, by omega⟩
 rw [hf3.1]
 have hcl : ∀ j, listed.getD j false = true → ∀ i, i ∈ (ancs ops.toList []).getD j [] → listed.getD i false = true := by
   intro j hj i hi
   have hjk : j < lo := by
     rcases Nat.lt_or_ge j lo with g | g
     · exact g
     · rw [h3 j g] at hj; cases hj
   exact h2 i (by have := anc_lt hb j (by simp; omega) i hi; omega)
 refine wpAny_seg (k := k) (R := fun a' w' => ∃ G', GExt G0 G' ∧ TR nt G' A'.T a' ∧ WR B G' A'.H w') hk hb hb' hg ?_ (k - lo) listed (listed.extract 0 k) a w h1 (by simp; omega) (fun j hj => ?_) (fun j hj => h3 j (by omega)) hcl ?_
 · rintro a' w' listed' ⟨G', e1, tr', wr'⟩ l1 l2 l3
   refine wpAny_gate hk hb hg l1 l2 l3 ?_
   unfold wpOp
   have ho' : ops[k]? = some o := by simpa using ho
   rw [ho']
   have hw : Region.wanted o (yielded ops a'.tmps) = true := by
     rcases hgd with hgd | ⟨j, b, hgd, hv⟩
     · simp [Region.wanted, hgd]
     · simp [Region.wanted, hgd, guard_ok tr' hv]
   simp only [hw, if_true]
   refine .inl (Oper.wp_mono ?_ (h B G' a' w' tr' wr' _))
   rintro a2 w2 ⟨G2, A2, j1, j2, j3, j4⟩ listed2 m1 m2 m3
   have := j4 B G2 a2 w2 j2 j3 f3 listed2 m1 m2 m3 hf3.2
   have mono : ∀ (n : Nat) (l : Array Bool) (a : Act) (w : World), wpAny P .any ops (Po B nt G2 Q) n l a w → wpAny P .any ops (Po B nt G0 Q) n l a w := by
     have up : ∀ e a w, Po B nt G2 Q e a w → Po B nt G0 Q e a w := fun e a w p => p.pre (e1.trans j1)
     intro n
     induction n with
     | zero => intro l a w h; exact ⟨h.1, up _ _ _ h.2⟩
     | succ n ih =>
       intro l a w h
       refine ⟨fun hr => up _ _ _ (h.1 hr), fun i hi => ?_⟩
       have hh := h.2 i hi
       unfold wpOp at hh ⊢
       split
       · rename_i hn; rw [hn] at hh; exact ih _ _ _ hh
       · rename_i o' ho'
         rw [ho'] at hh
         simp only at hh ⊢
         split
         · rename_i hwd
           rw [if_pos hwd] at hh
           rcases hh with hh | ⟨hh, x, y, hz⟩
           · refine .inl ?_
             unfold Oper.wp at hh ⊢
             generalize (execOp a.eval o').run P w = r at *
             cases r with
             | ok n w' =>
               cases n <;> simp only [Oper.upon] at hh ⊢ <;>
                 first
                   | exact ih _ _ _ hh
                   | exact Calls.mono hh (fun e w'' he => by cases e <;> first | exact ih _ _ _ he | exact up _ _ _ he | (obtain ⟨x, y, he⟩ := he; exact ⟨x, y, up _ _ _ he⟩))
                   | exact Rows.mono hh (fun _ _ he => ih _ _ _ he)
             | halt x w' => cases x <;> simp only [Oper.upon] at hh ⊢ <;> first | exact up _ _ _ hh | exact hh
           · exact .inr ⟨hh, x, y, up _ _ _ hz⟩
         · rename_i hwd
           rw [if_neg hwd] at hh
           exact ih _ _ _ hh
   exact mono _ _ _ _ this
 · rw [getD_ext, if_pos hj]
 · refine piece (ops := (ops.toList.take k).toArray) (E := E) (F := F) (nxl := nxl) hdst' (by simpa using hs') (lo := lo) (by rw [hsz']; exact hlo) (A' := A') ?_ (by simpa using hf) (fun G a' w' e t r => ⟨G, e, t, r⟩) tr wr (by simp; omega) (fun j hj => ?_) (fun j hj => ?_) (by rw [hsz']; exact Nat.le_refl _)
   · refine Chn.take _ _ _ _ _ _ _ (fun o j b ho hgd => ?_) (by simpa using hc)
     have hm := List.mem_of_mem_drop ho
     obtain ⟨i, hi⟩ := List.getElem?_of_mem hm
     have hi2 : (ops.toList.take k)[i]? = some o := by simpa using hi
     rw [List.getElem?_take] at hi2
     split at hi2
     · rename_i hik; exact hg.guards i o j b hik hi2 hgd
     · cases hi2
   · rw [getD_ext, if_pos (by omega)]; exact h2 j hj
   · rw [getD_ext]; split
     · exact h3 j hj
     · rfl
theorem Wp.rest {id : Nat} {Q : Exit → AS → Prop} {A : AS} (hm : P.follows .mixedOrders = true) (h : Rest P nt ops Q 0 A) : Wp P nt (.region id ops true) Q A := by
 intro B G a w tr wr
 refine wp_region_any hm ?_
 exact h B G a _ tr wr.drew ops.size _ (by simp) (fun j hj => absurd hj (Nat.not_lt_zero _)) (fun j _ => by simp [Array.getD]) (by omega)
end
end Go.Proofs.Ytcajncmjlmpkgaa
