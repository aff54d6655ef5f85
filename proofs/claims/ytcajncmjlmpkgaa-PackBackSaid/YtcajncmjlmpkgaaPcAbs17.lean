/- A region whose order is open: every order ends in the text's. Own work; no condition. -/
import Derived.Test.YtcajncmjlmpkgaaPcAbs16
import Derived.Orders
namespace Go.Proofs.Ytcajncmjlmpkgaa
open Go Go.RowKit
theorem anc_spec : ∀ (rest : List Oper) (acc : List (List Nat)),
   (∀ k, k < acc.length → (ancs rest acc)[k]? = acc[k]?) ∧ ∀ i o, rest[i]? = some o → ∀ k, k ∈ (ancs rest acc).getD (acc.length + i) [] → ∃ e, e ∈ o.after.toList ∧ Region.binds .any e = true ∧ (k = e.on ∨ k ∈ (ancs rest acc).getD e.on []) := by
 intro rest
 induction rest with
 | nil => intro acc; exact ⟨fun k _ => rfl, fun i o h => by simp at h⟩
 | cons o rest ih =>
   intro acc
   simp only [ancs]
   obtain ⟨h1, h2⟩ := ih (acc ++ [o.after.toList.flatMap fun e => if Region.binds .any e then e.on :: acc.getD e.on [] else []])
   have h1' : ∀ k, k < acc.length → (ancs rest (acc ++ [o.after.toList.flatMap fun e => if Region.binds .any e then e.on :: acc.getD e.on [] else []]))[k]? = acc[k]? := by
     intro k hk
     rw [h1 k (by simp; omega), List.getElem?_append_left hk]
   refine ⟨h1', fun i o' ho k hk => ?_⟩
   cases i with
   | zero =>
     simp only [List.getElem?_cons_zero, Option.some.injEq] at ho; subst ho
     rw [Nat.add_zero, List.getD_eq_getElem?_getD, h1 acc.length (by simp)] at hk
     simp only [List.getElem?_append_right (Nat.le_refl _), Nat.sub_self, List.getElem?_cons_zero, Option.getD_some, List.mem_flatMap] at hk
     obtain ⟨e, he, hk⟩ := hk
     split at hk
     · rename_i hb
       refine ⟨e, he, hb, ?_⟩
       simp only [List.mem_cons] at hk
       rcases hk with hk | hk
       · exact .inl hk
       · right
         rcases Nat.lt_or_ge e.on acc.length with g | g
         · rw [List.getD_eq_getElem?_getD, h1' e.on g, ← List.getD_eq_getElem?_getD]; exact hk
         · rw [List.getD_eq_getElem?_getD, List.getElem?_eq_none g] at hk; simp at hk
     · simp at hk
   | succ i =>
     refine h2 i o' (by simpa using ho) k ?_
     simpa [Nat.add_assoc, Nat.add_comm 1 i] using hk
theorem pairs_spec {n : Nat} {anc : List (List Nat)} {bad : Nat → Nat → Bool} (h : pairsOk n anc bad = true) {i j : Nat} (hij : i < j) (hj : j < n) (hb : bad i j = true) : i ∈ anc.getD j [] := by
 simp only [pairsOk, List.all_eq_true, List.mem_range] at h
 have := h j hj i hij
 simpa [hb] using this
def backOk (ops : List Oper) : Bool := (List.range ops.length).all fun i => match ops[i]? with
 | some o => o.after.toList.all fun e => !Region.binds .any e || decide (e.on < i)
 | none => true
def orderOk (ops : List Oper) : Bool := backOk ops && namesOk ops
theorem mT_shift : ∀ (E : List Ef) (S : Nat → Bool) (i t : Nat) (r : Option AV), mT E S (i + 1) t r = mT E (fun j => S (j + 1)) i t r := by
 intro E; induction E with
 | nil => intros; rfl
 | cons e E ih => intro S i t r; simp only [mT]; exact ih S (i + 1) t _
theorem mH_shift : ∀ (E : List Ef) (S : Nat → Bool) (i t : Nat) (r : Option AObj), mH E S (i + 1) t r = mH E (fun j => S (j + 1)) i t r := by
 intro E; induction E with
 | nil => intros; rfl
 | cons e E ih => intro S i t r; simp only [mH]; exact ih S (i + 1) t _
theorem mT_none (E : List Ef) (i t : Nat) (r : Option AV) : mT E (fun _ => false) i t r = r := by
 induction E generalizing i r with
 | nil => rfl
 | cons e E ih => simp only [mT]; exact ih _ _
theorem mH_none (E : List Ef) (i t : Nat) (r : Option AObj) : mH E (fun _ => false) i t r = r := by
 induction E generalizing i r with
 | nil => rfl
 | cons e E ih => simp only [mH]; exact ih _ _
theorem Link.shape {P : Program} {ops : List Oper} {o : Oper} {A : AS} {nx nx' : Nat} {e : Ef} {f : List Nat × Bool} (h : Link P ops o A nx e f nx') (hl : A.H.length = nx) :
   (∀ d x, e.t = some (d, x) → o.dst = some d) ∧ (∀ id x, e.h = some (id, x) → id ∈ f.1 ∧ f.2 = true ∧ id < nx') ∧ nx ≤ nx' ∧ (e.ap A).H.length = nx' ∧
   (∀ id, id < nx → (e.ap A).H[id]? = match e.h with | some (d, x) => if d = id then some x else A.H[id]? | none => A.H[id]?) ∧
   (∀ id, nx ≤ id → id < nx' → ∃ x, e.h = some (id, x) ∧ (e.ap A).H[id]? = some x) ∧ (nx ∈ f.1 → nx < nx') := by
 rcases h with ⟨_, he, hf⟩ | ⟨_, rfl, rfl, rfl⟩
 · obtain ⟨s1, s2, s3, _⟩ := he
   have hlt : ∀ id x, e.h = some (id, x) → id < nx ∨ (id = nx ∧ nx' = nx + 1) := by
     intro id x hx
     have hm := s2 id x hx
     rcases s3 with ⟨rfl, y, hy, hfp⟩ | ⟨rfl, h4⟩
     · rw [hy] at hx; simp only [Option.some.injEq, Prod.mk.injEq] at hx; exact .inr ⟨hx.1.symm, rfl⟩
     · exact .inl (h4 hl id hm)
   refine ⟨s1, fun id x hx => ⟨s2 id x hx, by rw [hf, hx]; rfl, ?_⟩, ?_, ?_, ?_, ?_, ?_⟩
   · rcases s3 with ⟨rfl, _⟩ | ⟨rfl, _⟩ <;> rcases hlt id x hx with g | ⟨g, g'⟩ <;> omega
   · rcases s3 with ⟨rfl, _⟩ | ⟨rfl, _⟩ <;> omega
   · rcases s3 with ⟨rfl, y, hy, hfp⟩ | ⟨rfl, h4⟩
     · simp [Ef.ap, hy, setH, hl]
     · cases hh : e.h with
       | none => simpa [Ef.ap, hh] using hl
       | some y =>
         obtain ⟨id, x⟩ := y
         have := h4 hl id (s2 id x hh)
         simp [Ef.ap, hh, setH, hl, this]
   · intro id hid
     cases hh : e.h with
     | none => simp [Ef.ap, hh]
     | some y =>
       obtain ⟨d, x⟩ := y
       rcases hlt d x hh with g | ⟨g, _⟩
       · simp only [Ef.ap, hh, setH, hl, g, if_true, List.getElem?_set]
       · subst g
         have e' : d ≠ id := by omega
         simp only [Ef.ap, hh, setH, hl, Nat.lt_irrefl, if_false, e']
         exact List.getElem?_append_left (by omega)
   · intro id h1 h2
     rcases s3 with ⟨rfl, y, hy, hfp⟩ | ⟨rfl, h4⟩
     · have : id = nx := by omega
       subst this
       exact ⟨y, hy, by simp [Ef.ap, hy, setH, hl]⟩
     · omega
   · intro hm
     rcases s3 with ⟨rfl, y, hy, hfp⟩ | ⟨rfl, h4⟩
     · omega
     · exact absurd (h4 hl _ hm) (Nat.lt_irrefl _)
 · refine ⟨fun d x hx => ?_, fun id x hx => by simp at hx, Nat.le_refl _, by simpa [Ef.ap] using hl, fun id hid => by simp [Ef.ap], fun id h1 h2 => by omega, fun h => by simp at h⟩
   cases hd : o.dst with
   | none => simp [tw, hd] at hx
   | some d' => simp only [tw, hd, Option.map_some, Option.some.injEq, Prod.mk.injEq] at hx; rw [hx.1]
theorem Ef.ap_look (e : Ef) (A : AS) (t : Nat) : look (e.ap A).T t = match e.t with | some (d, x) => if d = t then some x else look A.T t | none => look A.T t := by
 cases he : e.t with
 | none => simp [Ef.ap, he]
 | some y => obtain ⟨d, x⟩ := y; simp [Ef.ap, he, look]
def lt (i : Nat) : Nat → Bool := fun j => decide (j < i)
structure At (P : Program) (ops : List Oper) (o : Oper) (i : Nat) (T : List (Nat × AV)) (R : Nat → Option AObj) (nx0 nxl : Nat) (E : List Ef) (F : List (List Nat × Bool)) (Ai : AS) (nx nx' : Nat) (e : Ef) (f : List Nat × Bool) : Prop where
 e_at : E[i]? = some e
 f_at : F[i]? = some f
 link : Link P ops o Ai nx e f nx'
 len : Ai.H.length = nx
 lo : nx0 ≤ nx
 hi : nx' ≤ nxl
 T_at : ∀ t, look Ai.T t = mT E (lt i) 0 t (look T t)
 H_at : ∀ id, id < nx → Ai.H[id]? = mH E (lt i) 0 id (R id)
 old : ∀ j e' id x, j < i → E[j]? = some e' → e'.h = some (id, x) → id < nx
theorem Chn.at_ {P : Program} {ops : List Oper} : ∀ (rest : List Oper) (A : AS) (nx : Nat) (E : List Ef) (F : List (List Nat × Bool)) (A' : AS) (nx' : Nat) (R : Nat → Option AObj), Chn P ops rest A nx E F A' nx' → A.H.length = nx →
   (∀ id, id < nx → A.H[id]? = R id) →
   E.length = rest.length ∧ F.length = rest.length ∧ A'.H.length = nx' ∧ nx ≤ nx' ∧ (∀ t, look A'.T t = mT E (fun _ => true) 0 t (look A.T t)) ∧ (∀ id, id < nx' → A'.H[id]? = mH E (fun _ => true) 0 id (R id)) ∧
   ∀ i o, rest[i]? = some o → ∃ Ai nxi nxi' e f, At P ops o i A.T R nx nx' E F Ai nxi nxi' e f := by
 intro rest
 induction rest with
 | nil =>
   rintro A nx E F A' nx' R ⟨rfl, rfl, rfl, rfl⟩ hl hR
   exact ⟨rfl, rfl, hl, Nat.le_refl _, fun t => rfl, hR, fun i o h => by simp at h⟩
 | cons o rest ih =>
   rintro A nx E F A' nx' R ⟨A1, e, f, nx1, E', F', hT, hH, rfl, rfl, link, hc⟩ hl hR
   have hl1 : A1.H.length = nx := by rw [hH]; exact hl
   obtain ⟨s1, s2, s3, s4, s5, s6, s7⟩ := link.shape hl1
   obtain ⟨k1, k2, k3, k4, k5, k6, k7⟩ := ih (e.ap A1) nx1 E' F' A' nx' (fun id => match e.h with | some (d, x) => if d = id then some x else R id | none => R id) hc s4 (by
     intro id hid
     rcases Nat.lt_or_ge id nx with g | g
     · rw [s5 id g, hH, hR id g]
     · obtain ⟨x, hx, hx'⟩ := s6 id g hid
       rw [hx', hx]; simp)
   refine ⟨by simp [k1], by simp [k2], k3, by omega, fun t => ?_, fun id hid => ?_, fun i o' ho => ?_⟩
   · rw [k5 t, Ef.ap_look, hT t]; simp only [mT, if_true]; rw [mT_shift]; rfl
   · rw [k6 id hid]; simp only [mH, if_true]; rw [mH_shift]; rfl
   · cases i with
     | zero =>
       simp only [List.getElem?_cons_zero, Option.some.injEq] at ho; subst ho
       refine ⟨A1, nx, nx1, e, f, rfl, rfl, link, hl1, Nat.le_refl _, k4, fun t => ?_, fun id hid => ?_, fun j _ _ _ hj => by omega⟩
       · rw [show lt 0 = fun _ => false by funext j; simp [lt], mT_none, hT t]
       · rw [show lt 0 = fun _ => false by funext j; simp [lt], mH_none, hH, hR id hid]
     | succ i =>
       obtain ⟨Ai, nxi, nxi', e1, f1, q⟩ := k7 i o' (by simpa using ho)
       have sh : (fun j => lt (i + 1) (j + 1)) = lt i := by funext j; simp [lt]
       refine ⟨Ai, nxi, nxi', e1, f1, by simpa using q.e_at, by simpa using q.f_at, q.link, q.len, by have := q.lo; omega, q.hi, fun t => ?_, fun id hid => ?_, fun j e' id x hj he hx => ?_⟩
       · rw [q.T_at t, Ef.ap_look, hT t]; simp only [mT, show lt (i + 1) 0 = true by simp [lt], if_true]; rw [mT_shift, sh]; rfl
       · rw [q.H_at id hid]; simp only [mH, show lt (i + 1) 0 = true by simp [lt], if_true]; rw [mH_shift, sh]; rfl
       · cases j with
         | zero =>
           simp only [List.getElem?_cons_zero, Option.some.injEq] at he; subst he
           have := (s2 id x hx).2.2
           have := q.lo; omega
         | succ j => exact q.old j e' id x (by omega) (by simpa using he) hx
end Go.Proofs.Ytcajncmjlmpkgaa
