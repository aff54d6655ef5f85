/- Regions whose order is open: every order comes to where the text's order comes. Own work; no condition. -/
import Derived.Test.YtnhmnfokbinplaaAbs15
namespace Go.Proofs.Ytnhmnfokbinplaa
open Go Go.RowKit

/-! ### a slot, an object, behind some of the operations -/
def mT : List Ef → (Nat → Bool) → Nat → Nat → Option AV → Option AV
  | [], _, _, _, r => r
  | e :: es, S, i, t, r => mT es S (i + 1) t (if S i then (match e.t with | some (d, x) => if d = t then some x else r | none => r) else r)
def mH : List Ef → (Nat → Bool) → Nat → Nat → Option AObj → Option AObj
  | [], _, _, _, r => r
  | e :: es, S, i, id, r => mH es S (i + 1) id (if S i then (match e.h with | some (d, x) => if d = id then some x else r | none => r) else r)

theorem mT_congr : ∀ (E : List Ef) (S S' : Nat → Bool) (i t : Nat) (r : Option AV), (∀ j e d x, E[j]? = some e → e.t = some (d, x) → d = t → S (i + j) = S' (i + j)) → mT E S i t r = mT E S' i t r := by
  intro E
  induction E with
  | nil => intros; rfl
  | cons e E ih =>
    intro S S' i t r h
    simp only [mT]
    have e1 : (if S i then (match e.t with | some (d, x) => if d = t then some x else r | none => r) else r) = (if S' i then (match e.t with | some (d, x) => if d = t then some x else r | none => r) else r) := by
      cases he : e.t with
      | none => simp
      | some y =>
        obtain ⟨d, x⟩ := y
        by_cases hd : d = t
        · have := h 0 e d x rfl he hd
          simp only [Nat.add_zero] at this
          rw [this]
        · simp [hd]
    rw [e1]
    refine ih S S' (i + 1) t _ (fun j e' d x hj he hd => ?_)
    have := h (j + 1) e' d x (by simpa using hj) he hd
    rw [show i + 1 + j = i + (j + 1) by omega]; exact this

theorem mH_congr : ∀ (E : List Ef) (S S' : Nat → Bool) (i t : Nat) (r : Option AObj), (∀ j e d x, E[j]? = some e → e.h = some (d, x) → d = t → S (i + j) = S' (i + j)) → mH E S i t r = mH E S' i t r := by
  intro E
  induction E with
  | nil => intros; rfl
  | cons e E ih =>
    intro S S' i t r h
    simp only [mH]
    have e1 : (if S i then (match e.h with | some (d, x) => if d = t then some x else r | none => r) else r) = (if S' i then (match e.h with | some (d, x) => if d = t then some x else r | none => r) else r) := by
      cases he : e.h with
      | none => simp
      | some y =>
        obtain ⟨d, x⟩ := y
        by_cases hd : d = t
        · have := h 0 e d x rfl he hd
          simp only [Nat.add_zero] at this
          rw [this]
        · simp [hd]
    rw [e1]
    refine ih S S' (i + 1) t _ (fun j e' d x hj he hd => ?_)
    have := h (j + 1) e' d x (by simpa using hj) he hd
    rw [show i + 1 + j = i + (j + 1) by omega]; exact this

/-- One more operation, of which nothing later that turns the same thing has been. -/
theorem mT_add : ∀ (E : List Ef) (S S' : Nat → Bool) (i t k : Nat) (e : Ef) (r : Option AV), E[k]? = some e → S' (i + k) = true → (∀ j, j ≠ k → S' (i + j) = S (i + j)) → (∀ j e' d x, k < j → E[j]? = some e' → e'.t = some (d, x) → d = t → (∃ y, e.t = some (t, y)) → S (i + j) = false) →
    (S (i + k) = false) → mT E S' i t r = (match e.t with | some (d, x) => if d = t then some x else mT E S i t r | none => mT E S i t r) := by
  intro E
  induction E with
  | nil => intro S S' i t k e r h; simp at h
  | cons e0 E ih =>
    intro S S' i t k e r hk hs hne hlater hsk
    simp only [mT]
    cases k with
    | zero =>
      simp only [List.getElem?_cons_zero, Option.some.injEq] at hk; subst hk
      simp only [Nat.add_zero] at hs hsk
      have tail : ∀ r', mT E S' (i + 1) t r' = mT E S (i + 1) t r' := fun r' => mT_congr E S' S (i + 1) t r' (fun j e' d x _ _ _ => by
        have := hne (j + 1) (by omega)
        rw [show i + 1 + j = i + (j + 1) by omega]; exact this)
      rw [tail, hs, hsk]
      cases he : e0.t with
      | none => simp
      | some y =>
        obtain ⟨d, x⟩ := y
        by_cases hd : d = t
        · subst hd
          simp only [if_true]
          have : ∀ r', mT E S (i + 1) d r' = r' := by
            intro r'
            have := mT_congr E S (fun _ => false) (i + 1) d r' (fun j e' d' x' hj he' hd' => by
              have := hlater (j + 1) e' d' x' (by omega) (by simpa using hj) he' hd' ⟨x, he⟩
              rw [show i + 1 + j = i + (j + 1) by omega]; exact this)
            rw [this]
            clear this
            have : ∀ (E : List Ef) (i : Nat) (r : Option AV), mT E (fun _ => false) i d r = r := by
              intro E; induction E with
              | nil => intros; rfl
              | cons e E ih => intro i r; simp only [mT]; exact ih _ _
            exact this E _ r'
          rw [this]
        · simp [hd]
    | succ k =>
      have h0 := hne 0 (by omega)
      simp only [Nat.add_zero] at h0
      rw [h0]
      exact ih S S' (i + 1) t k e _ (by simpa using hk) (by rw [show i + 1 + k = i + (k + 1) by omega]; exact hs) (fun j hj => by rw [show i + 1 + j = i + (j + 1) by omega]; exact hne (j + 1) (by omega))
        (fun j e' d x hkj hj he hd hy => by rw [show i + 1 + j = i + (j + 1) by omega]; exact hlater (j + 1) e' d x (by omega) (by simpa using hj) he hd hy) (by rw [show i + 1 + k = i + (k + 1) by omega]; exact hsk)

theorem mH_add : ∀ (E : List Ef) (S S' : Nat → Bool) (i t k : Nat) (e : Ef) (r : Option AObj), E[k]? = some e → S' (i + k) = true → (∀ j, j ≠ k → S' (i + j) = S (i + j)) → (∀ j e' d x, k < j → E[j]? = some e' → e'.h = some (d, x) → d = t → (∃ y, e.h = some (t, y)) → S (i + j) = false) →
    (S (i + k) = false) → mH E S' i t r = (match e.h with | some (d, x) => if d = t then some x else mH E S i t r | none => mH E S i t r) := by
  intro E
  induction E with
  | nil => intro S S' i t k e r h; simp at h
  | cons e0 E ih =>
    intro S S' i t k e r hk hs hne hlater hsk
    simp only [mH]
    cases k with
    | zero =>
      simp only [List.getElem?_cons_zero, Option.some.injEq] at hk; subst hk
      simp only [Nat.add_zero] at hs hsk
      have tail : ∀ r', mH E S' (i + 1) t r' = mH E S (i + 1) t r' := fun r' => mH_congr E S' S (i + 1) t r' (fun j e' d x _ _ _ => by
        have := hne (j + 1) (by omega)
        rw [show i + 1 + j = i + (j + 1) by omega]; exact this)
      rw [tail, hs, hsk]
      cases he : e0.h with
      | none => simp
      | some y =>
        obtain ⟨d, x⟩ := y
        by_cases hd : d = t
        · subst hd
          simp only [if_true]
          have : ∀ r', mH E S (i + 1) d r' = r' := by
            intro r'
            have := mH_congr E S (fun _ => false) (i + 1) d r' (fun j e' d' x' hj he' hd' => by
              have := hlater (j + 1) e' d' x' (by omega) (by simpa using hj) he' hd' ⟨x, he⟩
              rw [show i + 1 + j = i + (j + 1) by omega]; exact this)
            rw [this]
            clear this
            have : ∀ (E : List Ef) (i : Nat) (r : Option AObj), mH E (fun _ => false) i d r = r := by
              intro E; induction E with
              | nil => intros; rfl
              | cons e E ih => intro i r; simp only [mH]; exact ih _ _
            exact this E _ r'
          rw [this]
        · simp [hd]
    | succ k =>
      have h0 := hne 0 (by omega)
      simp only [Nat.add_zero] at h0
      rw [h0]
      exact ih S S' (i + 1) t k e _ (by simpa using hk) (by rw [show i + 1 + k = i + (k + 1) by omega]; exact hs) (fun j hj => by rw [show i + 1 + j = i + (j + 1) by omega]; exact hne (j + 1) (by omega))
        (fun j e' d x hkj hj he hd hy => by rw [show i + 1 + j = i + (j + 1) by omega]; exact hlater (j + 1) e' d x (by omega) (by simpa using hj) he hd hy) (by rw [show i + 1 + k = i + (k + 1) by omega]; exact hsk)

/-! ### the text's order as a chain -/
def SameT (T T' : List (Nat × AV)) : Prop := ∀ t, look T t = look T' t

/-- What an operation turns, by some table of calls. -/
def EfR (P : Program) (o : Oper) (A : AS) (nx : Nat) (e : Ef) (fp : List Nat) (nx' : Nat) : Prop := ∃ C, CTOk P C ∧ efOp P C o A nx = some (e, fp, nx')

/-- The operation that guards was left out itself. -/
def guardN (ops : List Oper) (T : List (Nat × AV)) (j : Nat) : Prop := ((ops[j]?).bind (·.dst)).bind (look T) = some (.tup [])

/-- What one operation is in the text's order. -/
def Link (P : Program) (ops : List Oper) (o : Oper) (A : AS) (nx : Nat) (e : Ef) (f : List Nat × Bool) (nx' : Nat) : Prop :=
  (o.guard = none ∨ (∃ j b, o.guard = some (j, b) ∧ guardV ops A.T j = some b)) ∧ EfR P o A nx e f.1 nx' ∧ f.2 = e.h.isSome ∨
  (∃ j b, o.guard = some (j, b) ∧ (guardV ops A.T j = some (!b) ∨ guardN ops A.T j)) ∧ e = ⟨tw o.dst (.tup []), none⟩ ∧ f = ([], false) ∧ nx' = nx

def Chn (P : Program) (ops : List Oper) : List Oper → AS → Nat → List Ef → List (List Nat × Bool) → AS → Nat → Prop
  | [], A, nx, E, F, A', nx' => E = [] ∧ F = [] ∧ A' = A ∧ nx' = nx
  | o :: r, A, nx, E, F, A', nx' => ∃ A1 e f nx1 E' F', SameT A1.T A.T ∧ A1.H = A.H ∧ E = e :: E' ∧ F = f :: F' ∧ Link P ops o A1 nx e f nx1 ∧ Chn P ops r (e.ap A1) nx1 E' F' A' nx'

theorem guardV_same {ops : List Oper} {T T' : List (Nat × AV)} (h : SameT T T') (j : Nat) : guardV ops T j = guardV ops T' j := by
  unfold guardV
  cases (ops[j]?).bind (·.dst) with
  | none => rfl
  | some t => simp only [Option.bind_some]; rw [h t]

theorem alias_same {ops : List Oper} {T : List (Nat × AV)} {j : Nat} {b : Bool} (h : guardV ops T j = some b) : SameT (putT T (dstOf ops j) (.p (.bool b))) T := by
  unfold guardV at h
  split at h <;> try (cases h; done)
  rename_i b' hb
  simp only [Option.some.injEq] at h; subst h
  rw [Option.bind_eq_some_iff] at hb
  obtain ⟨t, ht, hl⟩ := hb
  have e : dstOf ops j = some t := ht
  rw [e]
  intro t'
  simp only [putT, look]
  split
  · rename_i e'; subst e'; exact hl.symm
  · rfl

/-- What an operation writes is noted: its object is among what it touches; a new one is the next number. -/
theorem ef_shape {P : Program} {C : CT} {o : Oper} {A : AS} {nx nx' : Nat} {e : Ef} {fp : List Nat} (h : efOp P C o A nx = some (e, fp, nx')) :
    (∀ d x, e.t = some (d, x) → o.dst = some d) ∧ (∀ id x, e.h = some (id, x) → id ∈ fp) ∧
    ((nx' = nx + 1 ∧ ∃ x, e.h = some (nx, x) ∧ fp = [nx]) ∨ (nx' = nx ∧ (A.H.length = nx → ∀ id, id ∈ fp → id < nx))) := by
  have twd : ∀ {v : AV} {d x}, tw o.dst v = some (d, x) → o.dst = some d := by
    intro v d x h
    cases hd : o.dst with
    | none => simp [tw, hd] at h
    | some d' => simp only [tw, hd, Option.map_some, Option.some.injEq, Prod.mk.injEq] at h; rw [h.1]
  have lt : ∀ {id : Nat} {y : AObj}, A.H[id]? = some y → A.H.length = nx → id < nx := fun hy hl => by rw [← hl]; exact (List.getElem?_eq_some_iff.1 hy).1
  unfold efOp at h
  split at h
  · split at h <;> try (cases h; done)
    simp only [Option.some.injEq, Prod.mk.injEq] at h
    obtain ⟨rfl, rfl, rfl⟩ := h
    exact ⟨fun d x hx => twd hx, fun id x hx => by simp at hx; simp [hx.1], .inl ⟨rfl, _, rfl, rfl⟩⟩
  · split at h <;> try (cases h; done)
    simp only [Option.some.injEq, Prod.mk.injEq] at h
    obtain ⟨rfl, rfl, rfl⟩ := h
    exact ⟨fun d x hx => twd hx, fun id x hx => by simp at hx; simp [hx.1], .inl ⟨rfl, _, rfl, rfl⟩⟩
  · split at h <;> try (cases h; done)
    split at h <;> try (cases h; done)
    rename_i id y hs
    simp only [Option.some.injEq, Prod.mk.injEq] at h
    obtain ⟨rfl, rfl, rfl⟩ := h
    refine ⟨fun d x hx => by simp at hx, fun id x hx => by simp at hx; simp [hx.1], .inr ⟨rfl, fun hl id hid => ?_⟩⟩
    simp at hid; subst hid
    unfold efSt at hs
    split at hs <;> try (cases hs; done)
    split at hs <;> try (cases hs; done)
    rename_i hcs
    split at hs <;> try (cases hs; done)
    simp only [Option.some.injEq, Prod.mk.injEq] at hs
    obtain ⟨rfl, _⟩ := hs
    exact lt hcs hl
  · split at h <;> try (cases h; done)
    split at h <;> try (cases h; done)
    split at h <;> try (cases h; done)
    split at h <;> try (cases h; done)
    split at h <;> try (cases h; done)
    simp only [Option.some.injEq, Prod.mk.injEq] at h
    obtain ⟨rfl, rfl, rfl⟩ := h
    exact ⟨fun d x hx => twd hx, fun id x hx => by simp at hx, .inr ⟨rfl, fun _ id hid => by simp at hid⟩⟩
  · split at h
    · split at h <;> try (cases h; done)
      unfold efApp at h
      split at h <;> try (cases h; done)
      split at h <;> try (cases h; done)
      split at h <;> try (cases h; done)
      split at h <;> try (cases h; done)
      · split at h <;> try (cases h; done)
        rename_i hH
        split at h <;> try (cases h; done)
        simp only [Option.some.injEq, Prod.mk.injEq] at h
        obtain ⟨rfl, rfl, rfl⟩ := h
        refine ⟨fun d x hx => twd hx, fun id x hx => by simp at hx; simp [hx.1], .inr ⟨rfl, fun hl id hid => ?_⟩⟩
        simp at hid; subst hid
        exact lt hH hl
      · split at h <;> try (cases h; done)
        simp only [Option.some.injEq, Prod.mk.injEq] at h
        obtain ⟨rfl, rfl, rfl⟩ := h
        exact ⟨fun d x hx => twd hx, fun id x hx => by simp at hx; simp [hx.1], .inl ⟨rfl, _, rfl, rfl⟩⟩
    · split at h <;> try (cases h; done)
      split at h <;> try (cases h; done)
      · simp only [Option.some.injEq, Prod.mk.injEq] at h
        obtain ⟨rfl, rfl, rfl⟩ := h
        exact ⟨fun d x hx => twd hx, fun id x hx => by simp at hx, .inr ⟨rfl, fun _ id hid => by simp at hid⟩⟩
      · simp only [Option.some.injEq, Prod.mk.injEq] at h
        obtain ⟨rfl, rfl, rfl⟩ := h
        exact ⟨fun d x hx => twd hx, fun id x hx => by simp at hx; simp [hx.1], .inl ⟨rfl, _, rfl, rfl⟩⟩
    · split at h <;> try (cases h; done)
      simp only [Option.some.injEq, Prod.mk.injEq] at h
      obtain ⟨rfl, rfl, rfl⟩ := h
      exact ⟨fun d x hx => twd hx, fun id x hx => by simp at hx, .inr ⟨rfl, fun _ id hid => by simp at hid⟩⟩
  · split at h <;> try (cases h; done)
    rename_i v hv
    simp only [Option.some.injEq, Prod.mk.injEq] at h
    obtain ⟨rfl, rfl, rfl⟩ := h
    refine ⟨fun d x hx => twd hx, fun id x hx => by simp at hx, .inr ⟨rfl, fun hl id hid => ?_⟩⟩
    unfold loadFp at hid
    split at hid
    · rename_i t x ho
      split at hid
      · rename_i id' off hx
        simp at hid; subst hid
        rw [ho] at hv
        simp only [vop, hx] at hv
        split at hv <;> try (cases hv; done)
        rename_i ti p hti hp
        simp only [Option.some.injEq] at hp; subst hp
        simp only [ldV] at hv
        split at hv <;> try (cases hv; done)
        rename_i cs hcs
        exact lt hcs hl
      · simp at hid
    · simp at hid

end Go.Proofs.Ytnhmnfokbinplaa
