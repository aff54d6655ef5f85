/- The order inside a statement, asked with sets of places as numbers (each place once). Own work; no condition. -/
import Derived.Test.YtcajncmjlmpkgaaPcAbsB
namespace Go.Proofs.Ytcajncmjlmpkgaa
open Go Go.RowKit
def edgeM (acc : List Nat) (m : Nat) (e : Edge) : Nat := if Region.binds .any e then m ||| (2 ^ e.on ||| acc.getD e.on 0) else m
def ancM : List Oper → List Nat → List Nat
 | [], acc => acc
 | o :: r, acc => ancM r (acc ++ [o.after.toList.foldl (edgeM acc) 0])
def subM (acc' : List Nat) (acc : List (List Nat)) : Prop := ∀ j i, (acc'.getD j 0).testBit i = true → i ∈ acc.getD j []
theorem edge_ok {acc' : List Nat} {acc : List (List Nat)} (h : subM acc' acc) : ∀ (l : List Edge) (m i : Nat), (l.foldl (edgeM acc') m).testBit i = true → m.testBit i = true ∨ i ∈ l.flatMap fun e => if Region.binds .any e then e.on :: acc.getD e.on [] else []
 | [], m, i, hi => .inl hi
 | e :: l, m, i, hi => by
   simp only [List.foldl_cons] at hi
   rw [List.flatMap_cons, List.mem_append]
   rcases edge_ok h l _ i hi with g | g
   · unfold edgeM at g
     split at g
     · rename_i hb
       rw [if_pos hb]
       rw [Nat.testBit_or, Nat.testBit_or, Bool.or_eq_true, Bool.or_eq_true] at g
       rcases g with g | g | g
       · exact .inl g
       · rw [Nat.testBit_two_pow] at g
         have : e.on = i := by simpa using g
         right; left; rw [← this]; exact List.mem_cons_self
       · right; left; exact List.mem_cons_of_mem _ (h _ _ g)
     · exact .inl g
   · exact .inr (.inr g)
theorem ancM_ok : ∀ (l : List Oper) (acc' : List Nat) (acc : List (List Nat)), acc'.length = acc.length → subM acc' acc → subM (ancM l acc') (ancs l acc)
 | [], _, _, _, h => h
 | o :: r, acc', acc, hl, h => by
   rw [ancM, ancs]
   refine ancM_ok r _ _ (by simp [hl]) fun j i hi => ?_
   rcases Nat.lt_or_ge j acc'.length with g | g
   · rw [List.getD_eq_getElem?_getD, List.getElem?_append_left g, ← List.getD_eq_getElem?_getD] at hi
     rw [List.getD_eq_getElem?_getD, List.getElem?_append_left (by omega), ← List.getD_eq_getElem?_getD]
     exact h j i hi
   · rw [List.getD_eq_getElem?_getD, List.getElem?_append_right g] at hi
     rw [List.getD_eq_getElem?_getD, List.getElem?_append_right (by omega)]
     rcases Nat.eq_or_lt_of_le g with e | e
     · rw [← e] at hi
       simp only [Nat.sub_self, List.getElem?_cons_zero, Option.getD_some] at hi
       rw [← e, hl]
       simp only [Nat.sub_self, List.getElem?_cons_zero, Option.getD_some]
       rcases edge_ok h _ _ _ hi with k | k
       · simp at k
       · exact k
     · rw [show j - acc'.length = (j - acc'.length - 1) + 1 by omega] at hi
       simp at hi
def pairsG {α : Type} (bad : α → α → Bool) : List (Nat × α) → List α → List Nat → Nat → Bool
 | _, [], _, _ => true
 | _, _ :: _, [], _ => false
 | pre, a :: r, m :: ms, k => pre.all (fun x => !bad x.2 a || m.testBit x.1) && pairsG bad (pre ++ [(k, a)]) r ms (k + 1)
theorem pairsG_ok {α : Type} {bad : α → α → Bool} : ∀ (l : List α) (ms : List Nat) (k : Nat) (pre : List (Nat × α)), pairsG bad pre l ms k = true →
   ∀ j a, l[j]? = some a → (∀ i b, (i, b) ∈ pre → bad b a = true → (ms.getD j 0).testBit i = true) ∧ (∀ i b, i < j → l[i]? = some b → bad b a = true → (ms.getD j 0).testBit (k + i) = true)
 | [], _, _, _, _, j, a, h => by simp at h
 | x :: r, [], _, _, h, _, _, _ => by simp [pairsG] at h
 | x :: r, m :: ms, k, pre, h, j, a, ha => by
   simp only [pairsG, Bool.and_eq_true, List.all_eq_true] at h
   obtain ⟨h1, h2⟩ := h
   cases j with
   | zero =>
     simp only [List.getElem?_cons_zero, Option.some.injEq] at ha
     subst ha
     refine ⟨fun i b hb hbad => ?_, fun i b hi => by omega⟩
     have := h1 _ hb
     simp only [hbad, Bool.not_true, Bool.false_or] at this
     exact this
   | succ j =>
     simp only [List.getElem?_cons_succ] at ha
     obtain ⟨g1, g2⟩ := pairsG_ok r ms (k + 1) (pre ++ [(k, x)]) h2 j a ha
     refine ⟨fun i b hb hbad => ?_, fun i b hi hb hbad => ?_⟩
     · exact g1 i b (List.mem_append_left _ hb) hbad
     · cases i with
       | zero =>
         simp only [List.getElem?_cons_zero, Option.some.injEq] at hb
         subst hb
         exact g1 k x (List.mem_append_right _ (by simp)) hbad
       | succ i =>
         simp only [List.getElem?_cons_succ] at hb
         have := g2 i b (by omega) hb hbad
         rw [show k + 1 + i = k + (i + 1) by omega] at this
         exact this
theorem pairs_of {α : Type} {bad : α → α → Bool} {l : List α} {ops : List Oper} (hl : l.length = ops.length) (h : pairsG bad [] l (ancM ops []) 0 = true) (bad' : Nat → Nat → Bool) (hb : ∀ i j a b, l[i]? = some a → l[j]? = some b → bad' i j = bad a b) : pairsOk ops.length (ancs ops []) bad' = true := by
 simp only [pairsOk, List.all_eq_true, List.mem_range, Bool.or_eq_true, Bool.not_eq_true']
 intro j hj i hi
 have e1 := List.getElem?_eq_getElem (l := l) (i := i) (by omega)
 have e2 := List.getElem?_eq_getElem (l := l) (i := j) (by omega)
 rw [hb i j _ _ e1 e2]
 cases hbad : bad l[i] l[j] with
 | false => exact .inl rfl
 | true =>
   right
   have := (pairsG_ok _ _ _ _ h j _ e2).2 i _ hi e1 hbad
   rw [Nat.zero_add] at this
   have := ancM_ok ops [] [] rfl (fun j i h => by simp at h) j i this
   simpa using this
def nameM (ops : List Oper) : List (Option Nat × List Nat) := ops.map fun o => (o.dst, namesOf ops o)
def badN (a b : Option Nat × List Nat) : Bool := a.1.any (fun d => b.2.contains d) || b.1.any (fun d => a.2.contains d)
def backM : Nat → List Oper → Bool
 | _, [] => true
 | i, o :: r => o.after.toList.all (fun e => !Region.binds .any e || decide (e.on < i)) && backM (i + 1) r
theorem backM_ok : ∀ (l : List Oper) (k : Nat), backM k l = true → ∀ (i : Nat) (o : Oper), l[i]? = some o → o.after.toList.all (fun e => !Region.binds .any e || decide (e.on < k + i)) = true
 | [], _, _, i, o, h => by simp at h
 | x :: r, k, hk, 0, o, h => by
   simp only [backM, Bool.and_eq_true] at hk
   simp only [List.getElem?_cons_zero, Option.some.injEq] at h
   subst h; exact hk.1
 | x :: r, k, hk, i + 1, o, h => by
   simp only [backM, Bool.and_eq_true] at hk
   have := backM_ok r (k + 1) hk.2 i o (by simpa using h)
   rw [show k + 1 + i = k + (i + 1) by omega] at this
   exact this
def orderM (ops : List Oper) : Bool := backM 0 ops && pairsG badN [] (nameM ops) (ancM ops []) 0
theorem order_of {ops : List Oper} (h : orderM ops = true) : orderOk ops = true := by
 simp only [orderM, Bool.and_eq_true] at h
 simp only [orderOk, Bool.and_eq_true]
 refine ⟨?_, ?_⟩
 · simp only [backOk, List.all_eq_true, List.mem_range]
   intro i hi
   rw [List.getElem?_eq_getElem hi]
   have := backM_ok ops 0 h.1 i _ (List.getElem?_eq_getElem hi)
   rw [Nat.zero_add] at this
   exact this
 · refine pairs_of (l := nameM ops) (by simp [nameM]) h.2 _ fun i j a b ha hb => ?_
   simp only [nameM, List.getElem?_map, Option.map_eq_some_iff] at ha hb
   obtain ⟨o, ho, rfl⟩ := ha
   obtain ⟨o', ho', rfl⟩ := hb
   simp only [ho, ho', badN]
def badF (a b : List Nat × Bool) : Bool := (a.2 || b.2) && a.1.any fun x => b.1.contains x
def fpM (ops : List Oper) (acc : List (List Nat × Bool)) : Bool := acc.length == ops.length && pairsG badF [] acc (ancM ops []) 0
theorem fp_of {ops : List Oper} {acc : List (List Nat × Bool)} (h : fpM ops acc = true) : fpOk ops acc = true := by
 simp only [fpM, Bool.and_eq_true, beq_iff_eq] at h
 exact pairs_of h.1 h.2 _ fun i j a b ha hb => by simp only [ha, hb, badF]
def gateM (ops : List Oper) (k : Nat) : Bool :=
 (List.range k).all (fun i => ((ancM ops []).getD k 0).testBit i) && (List.range ops.length).all (fun j => decide (j ≤ k) || ((ancM ops []).getD j 0).testBit k) &&
   (ops.take k).all fun o => match o.guard with | some (j, _) => decide (j < k) | none => true
theorem mem_elemX {n : Nat} : ∀ {l : List Nat}, n ∈ l → elemX n l = true
 | x :: r, h => by
   simp only [elemX]
   split
   · rfl
   · rename_i e
     rcases List.mem_cons.1 h with g | g
     · exact absurd g.symm e
     · exact mem_elemX g
theorem gate_of' {ops : List Oper} {k : Nat} (h : gateM ops k = true) : gateOk ops k = true := by
 have key := ancM_ok ops [] [] rfl (fun j i h => by simp at h)
 simp only [gateM, Bool.and_eq_true, List.all_eq_true, List.mem_range, Bool.or_eq_true, decide_eq_true_eq] at h
 obtain ⟨⟨h1, h2⟩, h3⟩ := h
 simp only [gateOk, Bool.and_eq_true, List.all_eq_true, List.mem_range, Bool.or_eq_true, decide_eq_true_eq]
 exact ⟨⟨fun i hi => mem_elemX (key _ _ (h1 i hi)), fun j hj => (h2 j hj).imp id fun g => mem_elemX (key _ _ g)⟩, h3⟩
end Go.Proofs.Ytcajncmjlmpkgaa
