/- tallyref; Words: the values of a list, each once, rising: plain. Own work; no condition. -/
import Derived.Test.YtcajncmjlmpkgaaPcVa3
import Derived.Test.YtcajncmjlmpkgaaPcSb8
namespace Go.Proofs.Ytcajncmjlmpkgaa
open Go Go.RowKit Go.Deep Go.Sort Go.Shelf
set_option linter.unusedVariables false
set_option linter.unusedSimpArgs false
theorem grown_cell {W : World} {q : Nat} {os : Array Obj} {b o : Nat} {v : Value} (h : W.cell? ⟨b, o, none⟩ = some v) : (grow (W.drewN q) os).cell? ⟨b, o, none⟩ = some v := by
 have hlt := cell_lt_sb h
 rw [cell?_grow _ _ _ (by exact hlt)]; exact h
theorem holdsV_cell {W : World} {blk : Nat} {d : Array Val} (h : HoldsK encV 3 W blk 0 d) {t j : Nat} {v : Value} (ht : t < d.size) (hv : (encV d[t]!)[j]? = some v) : W.cell? ⟨blk, t * 3 + j, none⟩ = some v := by
 have hj : j < 3 := by have := (List.getElem?_eq_some_iff.1 hv).1; simpa [encV] using this
 have := (HoldsK.cell h ht hj).1
 rw [Nat.zero_add] at this
 rw [this, getElem!_def, hv]
end Go.Proofs.Ytcajncmjlmpkgaa

namespace Go.Proofs.Ytcajncmjlmpkgaa
open Go Go.RowKit Go.Deep Go.Sort Go.Shelf
set_option linter.unusedVariables false
set_option linter.unusedSimpArgs false
def Rise (u : List Val) : Prop := u.Pairwise fun x y => orderV x y < 0
def insW (x : Val) : List Val → List Val
 | [] => [x]
 | y :: r => if orderV x y < 0 then x :: y :: r else if orderV x y = 0 then y :: r else y :: insW x r
def words (l : List Val) : List Val := l.foldr insW []
def Clean (l : List Val) : Prop := ∀ x ∈ l, clean x = x
theorem order0 {x y : Val} (hx : clean x = x) (hy : clean y = y) (h : orderV x y = 0) : x = y := by
 rw [orderV_eq, hx, hy] at h; exact cmpV_cmp.eq0 _ _ h
theorem order_self (x : Val) : orderV x x = 0 := by rw [orderV_eq]; exact cmpV_cmp.refl _
theorem order_trans {x y z : Val} (h1 : orderV x y < 0) (h2 : orderV y z < 0) : orderV x z < 0 := by
 rw [orderV_eq] at *; exact cmpV_cmp.trans _ _ _ h1 h2
theorem order_swap (x y : Val) : orderV y x = - orderV x y := by rw [orderV_eq, orderV_eq]; exact cmpV_cmp.swap _ _
theorem insW_mem {x : Val} {u : List Val} (hx : clean x = x) (hu : Clean u) (z : Val) : z ∈ insW x u ↔ z = x ∨ z ∈ u := by
 induction u with
 | nil => simp [insW]
 | cons y r ih =>
   have hr : Clean r := fun a ha => hu a (List.mem_cons_of_mem _ ha)
   rw [insW]
   split
   · simp
   · split
     · rename_i h
       have := order0 hx (hu y (by simp)) h
       subst this; simp
     · simp only [List.mem_cons, ih hr]
       constructor
       · rintro (h | h | h) <;> simp [h]
       · rintro (h | h | h) <;> simp [h]
theorem insW_rise {x : Val} {u : List Val} (hx : clean x = x) (hu : Clean u) (h : Rise u) : Rise (insW x u) := by
 induction u with
 | nil => simp [insW, Rise]
 | cons y r ih =>
   have hr : Clean r := fun a ha => hu a (List.mem_cons_of_mem _ ha)
   obtain ⟨h1, h2⟩ := List.pairwise_cons.1 h
   rw [insW]
   split
   · rename_i g
     exact List.pairwise_cons.2 ⟨fun z hz => by
       rcases List.mem_cons.1 hz with rfl | hz
       · exact g
       · exact order_trans g (h1 z hz), h⟩
   · split
     · exact h
     · rename_i g1 g2
       refine List.pairwise_cons.2 ⟨fun z hz => ?_, ih hr h2⟩
       rcases (insW_mem hx hr z).1 hz with rfl | hz
       · have := order_swap z y; omega
       · exact h1 z hz
theorem words_ok {l : List Val} (hl : Clean l) : Rise (words l) ∧ (∀ z, z ∈ words l ↔ z ∈ l) ∧ Clean (words l) := by
 induction l with
 | nil => exact ⟨List.Pairwise.nil, fun z => Iff.rfl, fun x hx => by cases hx⟩
 | cons x r ih =>
   have hr : Clean r := fun a ha => hl a (List.mem_cons_of_mem _ ha)
   obtain ⟨h1, h2, h3⟩ := ih hr
   have hx := hl x (by simp)
   have hm := insW_mem hx h3
   exact ⟨insW_rise hx h3 h1, fun z => by rw [List.mem_cons, ← h2 z]; exact hm z, fun z hz => by
     rcases (hm z).1 hz with rfl | hz
     · exact hx
     · exact h3 z hz⟩
theorem rise_unique : ∀ {u v : List Val}, Rise u → Rise v → (∀ z, z ∈ u ↔ z ∈ v) → u = v
 | [], [], _, _, _ => rfl
 | [], y :: v, _, _, h => by have := (h y).2 (by simp); cases this
 | x :: u, [], _, _, h => by have := (h x).1 (by simp); cases this
 | x :: u, y :: v, hu, hv, h => by
   obtain ⟨u1, u2⟩ := List.pairwise_cons.1 hu
   obtain ⟨v1, v2⟩ := List.pairwise_cons.1 hv
   have hxy : x = y := by
     rcases List.mem_cons.1 ((h x).1 (by simp)) with g | g
     · exact g
     · rcases List.mem_cons.1 ((h y).2 (by simp)) with g2 | g2
       · exact g2.symm
       · have a := v1 x g
         have b := u1 y g2
         have := order_swap x y
         omega
   subst hxy
   congr 1
   refine rise_unique u2 v2 fun z => ⟨fun hz => ?_, fun hz => ?_⟩
   · rcases List.mem_cons.1 ((h z).1 (List.mem_cons_of_mem _ hz)) with g | g
     · subst g; have := u1 z hz; rw [order_self] at this; omega
     · exact g
   · rcases List.mem_cons.1 ((h z).2 (List.mem_cons_of_mem _ hz)) with g | g
     · subst g; have := v1 z hz; rw [order_self] at this; omega
     · exact g
theorem words_unique {l u : List Val} (hl : Clean l) (h1 : Rise u) (h2 : ∀ z, z ∈ u ↔ z ∈ l) : u = words l := by
 obtain ⟨w1, w2, _⟩ := words_ok hl
 exact rise_unique h1 w1 fun z => by rw [h2, w2]
def onceF : Option Val → List Val → List Val
 | _, [] => []
 | none, x :: r => x :: onceF (some x) r
 | some p, x :: r => if orderV x p = 0 then onceF (some x) r else x :: onceF (some x) r
theorem once_ok : ∀ (l : List Val) (p : Option Val), Clean l → (∀ q, p = some q → clean q = q ∧ ∀ x ∈ l, 0 ≤ orderV x q) → l.Pairwise (fun x y => 0 ≤ orderV y x) →
   Rise (onceF p l) ∧ (∀ z, z ∈ onceF p l ↔ z ∈ l ∧ p ≠ some z) ∧ ∀ q, p = some q → ∀ x ∈ onceF p l, orderV q x < 0
 | [], p, _, _, _ => by
   refine ⟨by cases p <;> exact List.Pairwise.nil, fun z => by cases p <;> simp [onceF], fun q _ x hx => by cases p <;> cases hx⟩
 | x :: r, p, hc, hp, hs => by
   obtain ⟨s1, s2⟩ := List.pairwise_cons.1 hs
   have hx := hc x (by simp)
   have hr : Clean r := fun a ha => hc a (List.mem_cons_of_mem _ ha)
   obtain ⟨i1, i2, i3⟩ := once_ok r (some x) hr (fun q e => by cases e; exact ⟨hx, s1⟩) s2
   have keepx : Rise (x :: onceF (some x) r) := List.pairwise_cons.2 ⟨fun z hz => i3 x rfl z hz, i1⟩
   have memx : ∀ z, z ∈ x :: onceF (some x) r ↔ z ∈ x :: r := fun z => by
     rw [List.mem_cons, List.mem_cons, i2]
     constructor
     · rintro (h | ⟨h, _⟩) <;> simp [h]
     · intro h
       by_cases e : x = z
       · exact .inl e.symm
       · rcases h with h | h
         · exact .inl h
         · exact .inr ⟨h, fun e' => e (by simpa using e')⟩
   cases p with
   | none => exact ⟨keepx, fun z => by rw [onceF, memx]; simp, fun q e => by cases e⟩
   | some q =>
     obtain ⟨hq, hqx⟩ := hp q rfl
     simp only [onceF]
     split
     · rename_i h
       have := order0 hx hq h
       subst this
       refine ⟨i1, fun z => ?_, fun q' e => by cases e; exact i3 x rfl⟩
       rw [i2, List.mem_cons]
       constructor
       · rintro ⟨h1, h2⟩; exact ⟨.inr h1, h2⟩
       · rintro ⟨h1 | h1, h2⟩
         · subst h1; exact absurd rfl h2
         · exact ⟨h1, h2⟩
     · rename_i h
       have hqx1 : orderV q x < 0 := by have := hqx x (by simp); have := order_swap x q; omega
       refine ⟨keepx, fun z => ?_, fun q' e => ?_⟩
       · rw [memx]
         constructor
         · intro hz
           refine ⟨hz, fun e => ?_⟩
           simp at e
           subst e
           rcases List.mem_cons.1 hz with g | g
           · subst g; rw [order_self] at h; exact h rfl
           · have := s1 q g; have := order_swap x q; omega
         · exact fun h => h.1
       · cases e
         intro z hz
         rcases List.mem_cons.1 hz with g | g
         · subst g; exact hqx1
         · exact order_trans hqx1 (i3 x rfl z g)
theorem once_words {l s : List Val} (hl : Clean l) (hp : s.Perm l) (hs : s.Pairwise fun x y => 0 ≤ orderV y x) : onceF none s = words l := by
 have hc : Clean s := fun x hx => hl x (hp.mem_iff.1 hx)
 obtain ⟨h1, h2, _⟩ := once_ok s none hc (fun q e => by cases e) hs
 exact words_unique hl h1 fun z => by rw [h2, hp.mem_iff]; simp
def RdL (w : World) (v : Value) (n : Nat) (xs : List Value) : Prop :=
 (∃ c, v = .slice none 0 c ∧ n = 0 ∧ xs = []) ∨ ∃ ad c, v = .slice (some ad) n c ∧ ∀ j u, xs[j]? = some u → w.cell? (ad.add j) = some u
theorem run_append_rdl {P : Program} (w : World) (base : Nat) (t ty e : TypeId) (i : TypeInfo) (z : Value) (size bytes : Nat) (ht : P.underlying t = some (.slice e)) (hi : P.info? e = some i) (hz : i.zero = some z) (hsize : i.size = size) (hby : i.bytes = bytes) (hzs : z.cells.size = size) (hsz : 0 < size)
   (v : Value) (n : Nat) (xs : List Value) (hown : w.ownsRow base e size v n xs) (x : Value) (m : Nat) (ys : List Value) (hx : RdL w x m ys) (hl : ys.length = m * size) (h1 : ∀ u ∈ ys, u.oneCell' = true)
   (h63 : n + m ≤ maxLen) (hbytes : (n + m) * bytes ≤ 140737488355328) (hbase : base ≤ w.heap.size) :
   ∃ v' w', (Builtin.append_ #[t, t] ty #[v, x]).run P w = .ok v' w' ∧ w'.ownsRow base e size v' (n + m) (xs ++ ys) ∧ w.grownBy w' v.ownBlock ∧ (v'.ownBlock = v.ownBlock ∨ v'.ownBlock = some w.heap.size) := by
 rcases hx with ⟨c, rfl, rfl, rfl⟩ | ⟨ad, c, rfl, hc⟩
 · refine ⟨v, w, ?_, by simpa using hown, World.grownBy.refl _ _, .inl rfl⟩
   rcases hown.2 with ⟨rfl, rfl⟩ | ⟨g, cap, cur, rfl, h3, h4, h5, h6, h7, h8⟩
   · simp [Builtin.append_, run_underlying ht, sizeOf, typeInfo, hi, Builtin.lenOf, Builtin.firstCells]
   · simp [Builtin.append_, run_underlying ht, sizeOf, typeInfo, hi, Builtin.lenOf, Builtin.firstCells, loadCells, storeCells, h5]
 · obtain ⟨v', w', h2, h3, h4, _, h5⟩ := run_append_own_at (P := P) w base t ty e i z size bytes ht hi hz hsize hby hzs hsz v n xs hown ad m c ys hl hc h1 h63 hbytes hbase
   exact ⟨v', w', h2, h3, h4, h5⟩
theorem wpList_append_rdl {P : Program} (w : World) {ops : Array Oper} {rest : List Oper} {o : Oper} {a : Act} {Q : Exit → Act → World → Prop} (hgd : o.guard = none) (s x : Operand) (t : TypeId)
   (ho : o.op = .call { callee := .builtin .append, args := #[s, x], argTypes := #[t, t] })
   (base : Nat) (e : TypeId) (i : TypeInfo) (z : Value) (size bytes : Nat) (ht : P.underlying t = some (.slice e)) (hi : P.info? e = some i) (hz : i.zero = some z) (hsize : i.size = size) (hby : i.bytes = bytes) (hzs : z.cells.size = size) (hsz : 0 < size)
   (v : Value) (n : Nat) (xs : List Value) (hs : a.eval s = v) (hown : w.ownsRow base e size v n xs) (xv : Value) (m : Nat) (ys : List Value) (hxv : a.eval x = xv) (hx : RdL w xv m ys) (hl : ys.length = m * size) (h1 : ∀ u ∈ ys, u.oneCell' = true)
   (h63 : n + m ≤ maxLen) (hbytes : (n + m) * bytes ≤ 140737488355328) (hbase : base ≤ w.heap.size)
   (h : ∀ v' w', w'.ownsRow base e size v' (n + m) (xs ++ ys) → w.grownBy w' v.ownBlock → (v'.ownBlock = v.ownBlock ∨ v'.ownBlock = some w.heap.size) → wpList P ops Q rest (a.put o.dst v') w') : wpList P ops Q (o :: rest) a w := by
 obtain ⟨v', w', hr, h2, h3, h4⟩ := run_append_rdl (P := P) w base t o.type e i z size bytes ht hi hz hsize hby hzs hsz v n xs hown xv m ys hx hl h1 h63 hbytes hbase
 refine wpList_plain hgd fun _ hK => ?_
 unfold Oper.wp execOp
 simp only [ho, resolve, invoke, builtin, Sem.run_bind, Sem.run_pure, Result.andThen_ok, List.map_toArray, List.map_cons, List.map_nil, hs, hxv, hr]
 exact hK _ _ (h v' w' h2 h3 h4)
theorem flatV_one (F : List Val) : ∀ u ∈ flatV F, u.oneCell' = true := fun u hu => by
 obtain ⟨y, _, h2⟩ := List.mem_flatMap.1 hu
 simp [encV] at h2
 rcases h2 with rfl | rfl | rfl <;> rfl
end Go.Proofs.Ytcajncmjlmpkgaa
