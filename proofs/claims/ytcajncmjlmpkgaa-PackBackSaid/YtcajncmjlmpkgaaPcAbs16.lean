/- Regions whose order is open: every order comes to where the text's order comes. Own work; no condition. -/
import Derived.Test.YtcajncmjlmpkgaaPcAbs15
namespace Go.Proofs.Ytcajncmjlmpkgaa
open Go Go.RowKit
def mT : List Ef → (Nat → Bool) → Nat → Nat → Option AV → Option AV
 | [], _, _, _, r => r
 | e :: es, S, i, t, r => mT es S (i + 1) t (if S i then (match e.t with | some (d, x) => if d = t then some x else r | none => r) else r)
def mH : List Ef → (Nat → Bool) → Nat → Nat → Option AObj → Option AObj
 | [], _, _, _, r => r
 | e :: es, S, i, id, r => mH es S (i + 1) id (if S i then (match e.h with | some (d, x) => if d = id then some x else r | none => r) else r)
theorem mT_congr : ∀ (E : List Ef) (S S' : Nat → Bool) (i t : Nat) (r : Option AV), (∀ j e d x, E[j]? = some e → e.t = some (d, x) → d = t → S (i + j) = S' (i + j)) → mT E S i t r = mT E S' i t r := by
 intro E
 induction E with
 | nil => intros; rfl
 | cons e E ih =>
   intro S S' i t r h
   simp only [mT]
   have e1 : (if S i then (match e.t with | some (d, x) => if d = t then some x else r | none => r) else r) = (if S' i then (match e.t with | some (d, x) => if d = t then some x else r | none => r) else r) := by
     cases he : e.t with
     | none => simp
     | some y =>
       obtain ⟨d, x⟩ := y
       by_cases hd : d = t
       · have := h 0 e d x rfl he hd
         simp only [Nat.add_zero] at this
         rw [this]
       · simp [hd]
   rw [e1]
   refine ih S S' (i + 1) t _ (fun j e' d x hj he hd => ?_)
   have := h (j + 1) e' d x (by simpa using hj) he hd
   rw [show i + 1 + j = i + (j + 1) by omega]; exact this
theorem mH_congr : ∀ (E : List Ef) (S S' : Nat → Bool) (i t : Nat) (r : Option AObj), (∀ j e d x, E[j]? = some e → e.h = some (d, x) → d = t → S (i + j) = S' (i + j)) → mH E S i t r = mH E S' i t r := by
 intro E
 induction E with
 | nil => intros; rfl
 | cons e E ih =>
   intro S S' i t r h
   simp only [mH]
   have e1 : (if S i then (match e.h with | some (d, x) => if d = t then some x else r | none => r) else r) = (if S' i then (match e.h with | some (d, x) => if d = t then some x else r | none => r) else r) := by
     cases he : e.h with
     | none => simp
     | some y =>
       obtain ⟨d, x⟩ := y
       by_cases hd : d = t
       · have := h 0 e d x rfl he hd
         simp only [Nat.add_zero] at this
         rw [this]
       · simp [hd]
   rw [e1]
   refine ih S S' (i + 1) t _ (fun j e' d x hj he hd => ?_)
   have := h (j + 1) e' d x (by simpa using hj) he hd
   rw [show i + 1 + j = i + (j + 1) by omega]; exact this
theorem mT_add : ∀ (E : List Ef) (S S' : Nat → Bool) (i t k : Nat) (e : Ef) (r : Option AV), E[k]? = some e → S' (i + k) = true → (∀ j, j ≠ k → S' (i + j) = S (i + j)) → (∀ j e' d x, k < j → E[j]? = some e' → e'.t = some (d, x) → d = t → (∃ y, e.t = some (t, y)) → S (i + j) = false) →
   (S (i + k) = false) → mT E S' i t r = (match e.t with | some (d, x) => if d = t then some x else mT E S i t r | none => mT E S i t r) := by
 intro E
 induction E with
 | nil => intro S S' i t k e r h; simp at h
 | cons e0 E ih =>
   intro S S' i t k e r hk hs hne hlater hsk
   simp only [mT]
   cases k with
   | zero =>
     simp only [List.getElem?_cons_zero, Option.some.injEq] at hk; subst hk
     simp only [Nat.add_zero] at hs hsk
     have tail : ∀ r', mT E S' (i + 1) t r' = mT E S (i + 1) t r' := fun r' => mT_congr E S' S (i + 1) t r' (fun j e' d x _ _ _ => by
       have := hne (j + 1) (by omega)
       rw [show i + 1 + j = i + (j + 1) by omega]; exact this)
     rw [tail, hs, hsk]
     cases he : e0.t with
     | none => simp
     | some y =>
       obtain ⟨d, x⟩ := y
       by_cases hd : d = t
       · subst hd
         simp only [if_true]
         have : ∀ r', mT E S (i + 1) d r' = r' := by
           intro r'
           have := mT_congr E S (fun _ => false) (i + 1) d r' (fun j e' d' x' hj he' hd' => by
             have := hlater (j + 1) e' d' x' (by omega) (by simpa using hj) he' hd' ⟨x, he⟩
             rw [show i + 1 + j = i + (j + 1) by omega]; exact this)
           rw [this]
           clear this
           have : ∀ (E : List Ef) (i : Nat) (r : Option AV), mT E (fun _ => false) i d r = r := by
             intro E; induction E with
             | nil => intros; rfl
             | cons e E ih => intro i r; simp only [mT]; exact ih _ _
           exact this E _ r'
         rw [this]
       · simp [hd]
   | succ k =>
     have h0 := hne 0 (by omega)
     simp only [Nat.add_zero] at h0
     rw [h0]
     exact ih S S' (i + 1) t k e _ (by simpa using hk) (by rw [show i + 1 + k = i + (k + 1) by omega]; exact hs) (fun j hj => by rw [show i + 1 + j = i + (j + 1) by omega]; exact hne (j + 1) (by omega))
       (fun j e' d x hkj hj he hd hy => by rw [show i + 1 + j = i + (j + 1) by omega]; exact hlater (j + 1) e' d x (by omega) (by simpa using hj) he hd hy) (by rw [show i + 1 + k = i + (k + 1) by omega]; exact hsk)
theorem mH_add : ∀ (E : List Ef) (S S' : Nat → Bool) (i t k : Nat) (e : Ef) (r : Option AObj), E[k]? = some e → S' (i + k) = true → (∀ j, j ≠ k → S' (i + j) = S (i + j)) → (∀ j e' d x, k < j → E[j]? = some e' → e'.h = some (d, x) → d = t → (∃ y, e.h = some (t, y)) → S (i + j) = false) →
   (S (i + k) = false) → mH E S' i t r = (match e.h with | some (d, x) => if d = t then some x else mH E S i t r | none => mH E S i t r) := by
 intro E
 induction E with
 | nil => intro S S' i t k e r h; simp at h
 | cons e0 E ih =>
   intro S S' i t k e r hk hs hne hlater hsk
   simp only [mH]
   cases k with
   | zero =>
     simp only [List.getElem?_cons_zero, Option.some.injEq] at hk; subst hk
     simp only [Nat.add_zero] at hs hsk
     have tail : ∀ r', mH E S' (i + 1) t r' = mH E S (i + 1) t r' := fun r' => mH_congr E S' S (i + 1) t r' (fun j e' d x _ _ _ => by
       have := hne (j + 1) (by omega)
       rw [show i + 1 + j = i + (j + 1) by omega]; exact this)
     rw [tail, hs, hsk]
     cases he : e0.h with
     | none => simp
     | some y =>
       obtain ⟨d, x⟩ := y
       by_cases hd : d = t
       · subst hd
         simp only [if_true]
         have : ∀ r', mH E S (i + 1) d r' = r' := by
           intro r'
           have := mH_congr E S (fun _ => false) (i + 1) d r' (fun j e' d' x' hj he' hd' => by
             have := hlater (j + 1) e' d' x' (by omega) (by simpa using hj) he' hd' ⟨x, he⟩
             rw [show i + 1 + j = i + (j + 1) by omega]; exact this)
           rw [this]
           clear this
           have : ∀ (E : List Ef) (i : Nat) (r : Option AObj), mH E (fun _ => false) i d r = r := by
             intro E; induction E with
             | nil => intros; rfl
             | cons e E ih => intro i r; simp only [mH]; exact ih _ _
           exact this E _ r'
         rw [this]
       · simp [hd]
   | succ k =>
     have h0 := hne 0 (by omega)
     simp only [Nat.add_zero] at h0
     rw [h0]
     exact ih S S' (i + 1) t k e _ (by simpa using hk) (by rw [show i + 1 + k = i + (k + 1) by omega]; exact hs) (fun j hj => by rw [show i + 1 + j = i + (j + 1) by omega]; exact hne (j + 1) (by omega))
       (fun j e' d x hkj hj he hd hy => by rw [show i + 1 + j = i + (j + 1) by omega]; exact hlater (j + 1) e' d x (by omega) (by simpa using hj) he hd hy) (by rw [show i + 1 + k = i + (k + 1) by omega]; exact hsk)
def SameT (T T' : List (Nat × AV)) : Prop := ∀ t, look T t = look T' t
structure EfR (P : Program) (o : Oper) (A : AS) (nx : Nat) (e : Ef) (fp : List Nat) (nx' : Nat) : Prop where
 dst : ∀ d x, e.t = some (d, x) → o.dst = some d
 sub : ∀ id x, e.h = some (id, x) → id ∈ fp
 new : (nx' = nx + 1 ∧ ∃ x, e.h = some (nx, x) ∧ (A.H.length = nx → ∀ id, id ∈ fp → id ≤ nx)) ∨ (nx' = nx ∧ (A.H.length = nx → ∀ id, id ∈ fp → id < nx))
 goes : ∀ {nt : NT} {B : Base} {G : Ghost} {T : List (Nat × AV)} {H : List AObj} {a : Act} {w : World}, TR nt G T a → WR B G H w → (∀ d, o.dst = some d → d < nt) → AgT T A.T o.op → (∀ id, id ∈ fp → id < nx → H[id]? = A.H[id]?) → A.H.length = nx →
   (nx ∈ fp → (∃ y, H[nx]? = some y) ∧ G.obj nx = none) → ∀ Q, o.wp P a w (Goes nt B G T H e) Q
def guardN (ops : List Oper) (T : List (Nat × AV)) (j : Nat) : Prop := ((ops[j]?).bind (·.dst)).bind (look T) = some (.tup [])
def Link (P : Program) (ops : List Oper) (o : Oper) (A : AS) (nx : Nat) (e : Ef) (f : List Nat × Bool) (nx' : Nat) : Prop :=
 (o.guard = none ∨ (∃ j b, o.guard = some (j, b) ∧ guardV ops A.T j = some b)) ∧ EfR P o A nx e f.1 nx' ∧ f.2 = e.h.isSome ∨
 (∃ j b, o.guard = some (j, b) ∧ (guardV ops A.T j = some (!b) ∨ guardN ops A.T j)) ∧ e = ⟨tw o.dst (.tup []), none⟩ ∧ f = ([], false) ∧ nx' = nx
def Chn (P : Program) (ops : List Oper) : List Oper → AS → Nat → List Ef → List (List Nat × Bool) → AS → Nat → Prop
 | [], A, nx, E, F, A', nx' => E = [] ∧ F = [] ∧ A' = A ∧ nx' = nx
 | o :: r, A, nx, E, F, A', nx' => ∃ A1 e f nx1 E' F', SameT A1.T A.T ∧ A1.H = A.H ∧ E = e :: E' ∧ F = f :: F' ∧ Link P ops o A1 nx e f nx1 ∧ Chn P ops r (e.ap A1) nx1 E' F' A' nx'
theorem ef_shape {P : Program} {C : CT} {o : Oper} {A : AS} {nx nx' : Nat} {e : Ef} {fp : List Nat} (h : efOp P C o A nx = some (e, fp, nx')) :
   (∀ d x, e.t = some (d, x) → o.dst = some d) ∧ (∀ id x, e.h = some (id, x) → id ∈ fp) ∧
   ((nx' = nx + 1 ∧ ∃ x, e.h = some (nx, x) ∧ fp = [nx]) ∨ (nx' = nx ∧ (A.H.length = nx → ∀ id, id ∈ fp → id < nx))) := by
 have twd : ∀ {v : AV} {d x}, tw o.dst v = some (d, x) → o.dst = some d := by
   intro v d x h
   cases hd : o.dst with
   | none => simp [tw, hd] at h
   | some d' => simp only [tw, hd, Option.map_some, Option.some.injEq, Prod.mk.injEq] at h; rw [h.1]
 have lt : ∀ {id : Nat} {y : AObj}, A.H[id]? = some y → A.H.length = nx → id < nx := fun hy hl => by rw [← hl]; exact (List.getElem?_eq_some_iff.1 hy).1
 unfold efOp at h
 split at h
 · split at h <;> try (cases h; done)
   simp only [Option.some.injEq, Prod.mk.injEq] at h
   obtain ⟨rfl, rfl, rfl⟩ := h
   exact ⟨fun d x hx => twd hx, fun id x hx => by simp at hx; simp [hx.1], .inl ⟨rfl, _, rfl, rfl⟩⟩
 · split at h <;> try (cases h; done)
   simp only [Option.some.injEq, Prod.mk.injEq] at h
   obtain ⟨rfl, rfl, rfl⟩ := h
   exact ⟨fun d x hx => twd hx, fun id x hx => by simp at hx; simp [hx.1], .inl ⟨rfl, _, rfl, rfl⟩⟩
 · split at h <;> try (cases h; done)
   split at h <;> try (cases h; done)
   rename_i id y hs
   simp only [Option.some.injEq, Prod.mk.injEq] at h
   obtain ⟨rfl, rfl, rfl⟩ := h
   refine ⟨fun d x hx => by simp at hx, fun id x hx => by simp at hx; simp [hx.1], .inr ⟨rfl, fun hl id hid => ?_⟩⟩
   simp at hid; subst hid
   unfold efSt at hs
   split at hs <;> try (cases hs; done)
   split at hs <;> try (cases hs; done)
   rename_i hcs
   split at hs <;> try (cases hs; done)
   simp only [Option.some.injEq, Prod.mk.injEq] at hs
   obtain ⟨rfl, _⟩ := hs
   exact lt hcs hl
 · split at h <;> try (cases h; done)
   split at h <;> try (cases h; done)
   split at h <;> try (cases h; done)
   split at h <;> try (cases h; done)
   split at h <;> try (cases h; done)
   simp only [Option.some.injEq, Prod.mk.injEq] at h
   obtain ⟨rfl, rfl, rfl⟩ := h
   exact ⟨fun d x hx => twd hx, fun id x hx => by simp at hx, .inr ⟨rfl, fun _ id hid => by simp at hid⟩⟩
 · split at h
   · split at h <;> try (cases h; done)
     unfold efApp at h
     split at h <;> try (cases h; done)
     split at h <;> try (cases h; done)
     split at h <;> try (cases h; done)
     split at h <;> try (cases h; done)
     · split at h <;> try (cases h; done)
       rename_i hH
       split at h <;> try (cases h; done)
       simp only [Option.some.injEq, Prod.mk.injEq] at h
       obtain ⟨rfl, rfl, rfl⟩ := h
       refine ⟨fun d x hx => twd hx, fun id x hx => by simp at hx; simp [hx.1], .inr ⟨rfl, fun hl id hid => ?_⟩⟩
       simp at hid; subst hid
       exact lt hH hl
     · split at h <;> try (cases h; done)
       simp only [Option.some.injEq, Prod.mk.injEq] at h
       obtain ⟨rfl, rfl, rfl⟩ := h
       exact ⟨fun d x hx => twd hx, fun id x hx => by simp at hx; simp [hx.1], .inl ⟨rfl, _, rfl, rfl⟩⟩
   · split at h <;> try (cases h; done)
     split at h <;> try (cases h; done)
     · simp only [Option.some.injEq, Prod.mk.injEq] at h
       obtain ⟨rfl, rfl, rfl⟩ := h
       exact ⟨fun d x hx => twd hx, fun id x hx => by simp at hx, .inr ⟨rfl, fun _ id hid => by simp at hid⟩⟩
     · simp only [Option.some.injEq, Prod.mk.injEq] at h
       obtain ⟨rfl, rfl, rfl⟩ := h
       exact ⟨fun d x hx => twd hx, fun id x hx => by simp at hx; simp [hx.1], .inl ⟨rfl, _, rfl, rfl⟩⟩
   · split at h <;> try (cases h; done)
     simp only [Option.some.injEq, Prod.mk.injEq] at h
     obtain ⟨rfl, rfl, rfl⟩ := h
     exact ⟨fun d x hx => twd hx, fun id x hx => by simp at hx, .inr ⟨rfl, fun _ id hid => by simp at hid⟩⟩
 · split at h <;> try (cases h; done)
   rename_i v hv
   simp only [Option.some.injEq, Prod.mk.injEq] at h
   obtain ⟨rfl, rfl, rfl⟩ := h
   refine ⟨fun d x hx => twd hx, fun id x hx => by simp at hx, .inr ⟨rfl, fun hl id hid => ?_⟩⟩
   unfold loadFp at hid
   split at hid
   · rename_i t x ho
     split at hid
     · rename_i id' off hx
       simp at hid; subst hid
       rw [ho] at hv
       simp only [vop, hx] at hv
       split at hv <;> try (cases hv; done)
       rename_i ti p hti hp
       simp only [Option.some.injEq] at hp; subst hp
       simp only [ldV] at hv
       split at hv <;> try (cases hv; done)
       rename_i cs hcs
       exact lt hcs hl
     · simp at hid
   · simp at hid
theorem EfR.of {P : Program} {C : CT} {o : Oper} {A : AS} {nx nx' : Nat} {e : Ef} {fp : List Nat} (hC : CTOk P C) (h : efOp P C o A nx = some (e, fp, nx')) : EfR P o A nx e fp nx' :=
 ⟨(ef_shape h).1, (ef_shape h).2.1, (ef_shape h).2.2.imp (fun ⟨h1, x, h2, h3⟩ => ⟨h1, x, h2, fun _ id hid => by rw [h3, List.mem_singleton] at hid; omega⟩) (fun h => h), fun tr wr hd ag agH hlen hnew Q => ef_ok hC tr wr hd h ag agH hlen hnew Q⟩
theorem EfR.wp {P : Program} {o : Oper} {A : AS} {e : Ef} {fp : List Nat} {nx' : Nat} {nt : NT} {B : Base} {G : Ghost} {a : Act} {w : World} (h : EfR P o A A.H.length e fp nx') (tr : TR nt G A.T a) (wr : WR B G A.H w) (hd : ∀ d, o.dst = some d → d < nt) {K : AS → Prop} (hk : K (e.ap A)) (Q : Exit → Act → World → Prop) :
   o.wp P a w (Nx B nt G K) Q := by
 have eT : e.T A.T = (e.ap A).T := by simp only [Ef.T, Ef.ap]; cases e.t <;> rfl
 rcases h.new with ⟨h1, x, h2, h3⟩ | ⟨h1, h2⟩
 · have wr' : WR B G (A.H ++ [.gone]) w := ⟨wr.below, wr.mem, wr.news, wr.olds, fun id x hx => by
     rcases Nat.lt_or_ge id A.H.length with g | g
     · rw [List.getElem?_append_left g] at hx; exact wr.objs id x hx
     · rw [List.getElem?_append_right g] at hx
       have : x = .gone := by
         cases hi : id - A.H.length with
         | zero => rw [hi] at hx; simpa using hx.symm
         | succ k => rw [hi] at hx; simp at hx
       subst this; trivial, wr.sep, wr.fresh, fun id hid => wr.dom id (by simp at hid; omega), wr.keep, wr.apart⟩
   have eH : e.H (A.H ++ [.gone]) = (e.ap A).H := by
     simp only [Ef.H, Ef.ap, h2, setH, Nat.lt_irrefl, if_false]
     rw [List.set_append_right _ _ (Nat.le_refl _)]; simp
   refine Oper.wp_mono (fun a' w' ⟨G', g1, g2, g3, _⟩ => ⟨G', e.ap A, g1, eT ▸ g2, eH ▸ g3, hk⟩) (h.goes tr wr' hd (fun _ _ => rfl) (fun id hid hlt => ?_) rfl (fun _ => ⟨⟨.gone, by simp⟩, wr.dom _ (Nat.le_refl _)⟩) Q)
   rw [List.getElem?_append_left hlt]
 · have eH : e.H A.H = (e.ap A).H := by
     simp only [Ef.H, Ef.ap]
     cases hh : e.h with
     | none => rfl
     | some y =>
       obtain ⟨id, x⟩ := y
       have := h2 rfl id (h.sub id x hh)
       simp only [setH, this, if_true]
   exact Oper.wp_mono (fun a' w' ⟨G', g1, g2, g3, _⟩ => ⟨G', e.ap A, g1, eT ▸ g2, eH ▸ g3, hk⟩) (h.goes tr wr hd (fun _ _ => rfl) (fun _ _ _ => rfl) rfl (fun hm => absurd (h2 rfl _ hm) (Nat.lt_irrefl _)) Q)
theorem EfR.st1 {P : Program} {o : Oper} {A : AS} {nx id : Nat} {y : AObj} (hdst : o.dst = none) (hid : A.H.length = nx → id < nx)
   (h : ∀ {nt : NT} {B : Base} {G : Ghost} {T : List (Nat × AV)} {H : List AObj} {a : Act} {w : World}, TR nt G T a → WR B G H w → AgT T A.T o.op → H[id]? = A.H[id]? →
     ∃ w' G', (execOp a.eval o).run P w = .ok .skip w' ∧ GExt G G' ∧ WR B G' (H.set id y) w' ∧ ∀ j, G.obj j = none → G'.obj j = none) :
   EfR P o A nx ⟨none, some (id, y)⟩ [id] nx := by
 refine ⟨fun d' x' e => by simp at e, fun i z e => by simp at e; simp [e.1], .inr ⟨rfl, fun hl i hi => by simp at hi; subst hi; exact hid hl⟩, fun {nt B G T H a w} tr wr hd ag agH hlen hnew Q => ?_⟩
 obtain ⟨w', G', r1, r2, r4, r5⟩ := h tr wr ag (agH id (by simp) (hid hlen))
 unfold Oper.wp
 rw [r1]
 refine ⟨G', r2, ?_, r4, fun j _ hj => r5 j hj⟩
 rw [hdst]; exact tr.mono r2
end Go.Proofs.Ytcajncmjlmpkgaa
