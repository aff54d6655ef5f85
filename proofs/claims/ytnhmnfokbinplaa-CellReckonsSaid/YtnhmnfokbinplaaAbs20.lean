/- Operations, regions, code and functions for the quick walk. Own work; no condition. -/
import Derived.Test.YtnhmnfokbinplaaAbs19
namespace Go.Proofs.Ytnhmnfokbinplaa
open Go Go.RowKit

/-- A call whose answer is known. -/
def PC1 (P : Program) (f : FuncId) (args : List PV) (K : List PV → Prop) : Prop := ∃ rs, PCall P f args (fun r => r = rs) ∧ K rs

def repX {α : Type} : Nat → List α → List α
  | 0, _ => []
  | n + 1, zs => catX zs (repX n zs)
theorem repX_eq {α : Type} (zs : List α) : ∀ n, repX n zs = (List.replicate n zs).flatten
  | 0 => rfl
  | n + 1 => by simp [repX, catX_eq, repX_eq zs n, List.replicate_succ]
def chunkX (size : Nat) : Nat → List PV → List (List PV)
  | 0, _ => []
  | n + 1, cs => takeX cs size :: chunkX size n (dropX cs size)
theorem chunkX_eq (size : Nat) : ∀ (n : Nat) (cs : List PV), chunkX size n cs = chunk size n cs
  | 0, _ => rfl
  | n + 1, cs => by simp [chunkX, chunk, takeX_eq, dropX_eq, chunkX_eq size n]

def stX (H : List AObj) (ti : TI) (p : AV) (l : List AV) (K : Nat → AObj → Prop) : Prop :=
  match p with
  | .ref id off => match nth H id with
    | some (.cells cs) => if lenX l = ti.size then (if off + lenX l ≤ lenX cs then K id (.cells (splX cs off l)) else False) else False
    | _ => False
  | _ => False
theorem stX_ok {H : List AObj} {ti : TI} {p : AV} {l : List AV} {K : Nat → AObj → Prop} (h : stX H ti p l K) : ∃ id y, efSt H ti p l = some (id, y) ∧ K id y := by
  unfold stX at h
  simp only [nth_eq, lenX_eq, splX_eq] at h
  split at h <;> try (exact h.elim)
  split at h <;> try (exact h.elim)
  rename_i hc
  split at h <;> try (exact h.elim)
  rename_i h1
  split at h <;> try (exact h.elim)
  rename_i h2
  exact ⟨_, _, by simp only [efSt, hc]; exact if_pos ⟨h1, h2⟩, h⟩

def srcX (tk : TK) (x : AV) (K : List (List PV) → Prop) : Prop :=
  match tk with
  | .slice _ _ _ => need (elemsV x) K
  | .str => match x with
    | .p (.str s) => Nm (fun _ => s.data.toList.map fun c => [PV.int .u8 c.toNat]) K
    | _ => False
  | _ => False
theorem srcX_ok {tk : TK} {x : AV} {K : List (List PV) → Prop} (h : srcX tk x K) : ∃ xs, srcV tk x = some xs ∧ K xs := by
  unfold srcX at h
  split at h <;> try (exact h.elim)
  · exact need_iff.1 h
  · split at h <;> try (exact h.elim)
    exact ⟨_, rfl, h.get⟩

def appX (tt : TypeId → Option TI) (A : AS) (nx : Nat) (dst : Option Nat) (t xt : TypeId) (s x : AV) (K : Ef → List Nat → Nat → Prop) : Prop :=
  need (tt t) fun ti => need (tt xt) fun xi => match ti.kind with
    | .slice e es eb => need (tt e) fun _ => srcX xi.kind x fun xs => match s with
      | .tok id l => match nth A.H id with
        | some (.spare n sz) => Asm (fun _ => n = l.length ∧ sz = es ∧ okEs es l = true ∧ okEs es xs = true ∧ l.length + xs.length ≤ maxLen ∧ (l.length + xs.length) * eb ≤ 140737488355328) fun _ =>
            Nm (fun _ => l ++ xs) fun L => Nm (fun _ => l.length + xs.length) fun m => K ⟨tw dst (.tok id L), some (id, .spare m es)⟩ [id] nx
        | _ => False
      | .full l => Asm (fun _ => okEs es l = true ∧ okEs es xs = true ∧ l.length + xs.length ≤ maxLen ∧ (l.length + xs.length) * eb ≤ 140737488355328) fun _ =>
            Nm (fun _ => l ++ xs) fun L => Nm (fun _ => l.length + xs.length) fun m => K ⟨tw dst (.tok nx L), some (nx, .spare m es)⟩ [nx] (nx + 1)
      | _ => False
    | _ => False
theorem appX_ok {P : Program} {tt : TypeId → Option TI} (htt : TTOk P tt) {A : AS} {nx : Nat} {dst : Option Nat} {t xt : TypeId} {s x : AV} {K : Ef → List Nat → Nat → Prop} (h : appX tt A nx dst t xt s x K) :
    ∃ e fp nx', efApp P A nx dst t xt s x = some (e, fp, nx') ∧ K e fp nx' := by
  unfold appX at h
  obtain ⟨ti, hti, h⟩ := need_iff.1 h
  obtain ⟨xi, hxi, h⟩ := need_iff.1 h
  split at h <;> try (exact h.elim)
  rename_i e es eb hk
  obtain ⟨ei, hei, h⟩ := need_iff.1 h
  obtain ⟨xs, hxs, h⟩ := srcX_ok h
  split at h <;> try (exact h.elim)
  · rename_i id l
    simp only [nth_eq] at h
    split at h <;> try (exact h.elim)
    rename_i n sz hH
    have hc := h.c
    refine ⟨_, _, _, ?_, h.k.get.get⟩
    simp only [efApp, htt _ _ hti, htt _ _ hxi, hk, htt _ _ hei, hxs, hH]
    exact if_pos hc
  · rename_i l
    have hc := h.c
    refine ⟨_, _, _, ?_, h.k.get.get⟩
    simp only [efApp, htt _ _ hti, htt _ _ hxi, hk, htt _ _ hei, hxs]
    exact if_pos hc

def partsX (T : List (Nat × AV)) (ps : List (Nat × Operand)) : Option (List (Nat × AV)) := optL (fun x => match ev T x.2 with | some v => some (x.1, v) | none => none) ps
theorem partsX_eq (T : List (Nat × AV)) (ps : List (Nat × Operand)) : partsX T ps = ps.mapM fun x => (ev T x.2).map fun v => (x.1, v) := by
  rw [partsX, optL_eq]
  congr 1
  funext x; cases ev T x.2 <;> rfl

def bsliceX (tt : TypeId → Option TI) (T : List (Nat × AV)) (dst : Option Nat) (nx : Nat) (t : TypeId) (n : Nat) (ps : List (Nat × Operand)) (K : Ef → List Nat → Nat → Prop) : Prop :=
  need (tt t) fun ti => match ti.kind with
    | .slice e es _ => need (tt e) fun ei => need (partsX T ps) fun l => need (fillX (fun i => some (i * es, es)) (repX n ei.zero) l) fun cs => need (optL AV.pure1 cs) fun pv =>
        if n * es ≤ 16777216 then (if es = 0 then False else (if ei.size = es then K ⟨tw dst (.full (chunkX es n pv)), none⟩ [] nx else False)) else False
    | _ => False

/-- An operation; what comes behind is told what it turns and touches. -/
def xe (tt : TypeId → Option TI) (cp : FuncId → List PV → (List PV → Prop) → Prop) (o : Oper) (A : AS) (nx : Nat) (K : Ef → List Nat → Nat → Prop) : Prop :=
  match o.op with
  | .alloc t => need (tt t) fun ti => K ⟨tw o.dst (.ref nx 0), some (nx, .cells ti.zero)⟩ [nx] (nx + 1)
  | .box _ x => need (ev A.T x) fun v => need (cellsX v) fun l => K ⟨tw o.dst (.ref nx 0), some (nx, .cells l)⟩ [nx] (nx + 1)
  | .store t a x => match o.dst with
    | none => need (tt t) fun ti => need (ev A.T a) fun p => need (ev A.T x) fun v => need (cellsX v) fun l => stX A.H ti p l fun id y => K ⟨none, some (id, y)⟩ [id] nx
    | some _ => False
  | .buildSlice t n ps => bsliceX tt A.T o.dst nx t n ps.toList K
  | .call c => match c.callee with
    | .builtin .append => match c.args.toList with
      | [s, x] => match c.argTypes.toList with
        | [t, xt] => need (ev A.T s) fun sv => need (ev A.T x) fun xv => appX tt A nx o.dst t xt sv xv K
        | _ => False
      | _ => False
    | .value f => need (ev A.T f) fun fv => need (optL (ev A.T) c.args.toList) fun vs => match fv with
      | .fn k [] => need (optL pureX vs) fun pargs => cp k pargs fun rs => K ⟨tw o.dst (packV (mapX .p rs)), none⟩ [] nx
      | _ => False
    | _ => xv tt A.T A.H o.op fun v => K ⟨tw o.dst v, none⟩ [] nx
  | _ => xv tt A.T A.H o.op fun v => K ⟨tw o.dst v, none⟩ (loadFp A.T o.op) nx

theorem mapM_pureX (l : List AV) : optL pureX l = l.mapM AV.pure := by
  rw [optL_eq]; congr 1; funext x; exact pureX_eq x

theorem ct0' {P : Program} : CTOk P fun _ _ => none := fun _ _ _ h => by cases h

theorem xe_ok {P : Program} {tt : TypeId → Option TI} (htt : TTOk P tt) {cp : FuncId → List PV → (List PV → Prop) → Prop} (hcp : PC1 P = cp) {o : Oper} {A : AS} {nx : Nat} {K : Ef → List Nat → Nat → Prop} (h : xe tt cp o A nx K) :
    ∃ e fp nx', EfR P o A nx e fp nx' ∧ K e fp nx' := by
  subst hcp
  have plain : ∀ {e fp nx'}, efOp P (fun _ _ => none) o A nx = some (e, fp, nx') → K e fp nx' → ∃ e fp nx', EfR P o A nx e fp nx' ∧ K e fp nx' := fun h hk => ⟨_, _, _, ⟨_, ct0', h⟩, hk⟩
  unfold xe at h
  split at h
  · rename_i t ho
    obtain ⟨ti, hti, h⟩ := need_iff.1 h
    exact plain (by simp only [efOp, ho, htt _ _ hti]) h
  · rename_i t x ho
    obtain ⟨v, hv, h⟩ := need_iff.1 h
    obtain ⟨l, hl, h⟩ := need_iff.1 h
    rw [cellsX_eq] at hl
    exact plain (by simp only [efOp, ho, hv, Option.bind_some, hl]) h
  · rename_i t a x ho
    split at h <;> try (exact h.elim)
    rename_i hd
    obtain ⟨ti, hti, h⟩ := need_iff.1 h
    obtain ⟨p, hp, h⟩ := need_iff.1 h
    obtain ⟨v, hv, h⟩ := need_iff.1 h
    obtain ⟨l, hl, h⟩ := need_iff.1 h
    rw [cellsX_eq] at hl
    obtain ⟨id, y, hs, h⟩ := stX_ok h
    exact plain (by simp only [efOp, ho, hd, htt _ _ hti, hp, hv, Option.bind_some, hl, hs]) h
  · rename_i t n ps ho
    unfold bsliceX at h
    obtain ⟨ti, hti, h⟩ := need_iff.1 h
    split at h <;> try (exact h.elim)
    rename_i e es eb hk
    obtain ⟨ei, hei, h⟩ := need_iff.1 h
    obtain ⟨l, hl, h⟩ := need_iff.1 h
    obtain ⟨cs, hcs, h⟩ := need_iff.1 h
    obtain ⟨pv, hpv, h⟩ := need_iff.1 h
    split at h <;> try (exact h.elim)
    rename_i h1
    split at h <;> try (exact h.elim)
    rename_i h2
    split at h <;> try (exact h.elim)
    rename_i h3
    rw [partsX_eq] at hl
    rw [repX_eq] at hcs
    rw [optL_eq] at hpv
    rw [chunkX_eq] at h
    refine plain ?_ h
    simp only [efOp, ho, htt _ _ hti, hk, htt _ _ hei, hl, fillX_ok _ _ _ _ hcs, Option.bind_some, hpv]
    exact if_pos ⟨h1, h2, h3⟩
  · rename_i c ho
    obtain ⟨callee, args, ats⟩ := c
    simp only at h
    split at h
    · split at h <;> try (exact h.elim)
      rename_i s x ha
      split at h <;> try (exact h.elim)
      rename_i t xt ht
      obtain ⟨sv, hs, h⟩ := need_iff.1 h
      obtain ⟨xv, hx, h⟩ := need_iff.1 h
      obtain ⟨e, fp, nx', he, hk⟩ := appX_ok htt h
      exact plain (by simp only [efOp, ho, ha, ht, hs, hx, he]) hk
    · rename_i f
      obtain ⟨fv, hf, h⟩ := need_iff.1 h
      obtain ⟨vs, hvs, h⟩ := need_iff.1 h
      cases fv with
      | fn k caps =>
        cases caps with
        | nil =>
          obtain ⟨pargs, hp, h⟩ := need_iff.1 h
          obtain ⟨rs, hc, h⟩ := h
          rw [mapM_pureX] at hp
          rw [optL_eq] at hvs
          rw [mapX_eq] at h
          have dec : ∀ p : Prop, Decidable p := fun p => Classical.propDecidable p
          refine ⟨_, _, _, ⟨fun g as => @ite _ (g = k ∧ as = pargs) (dec _) (some rs) none, fun g as r hr => ?_, ?_⟩, h⟩
          · have hr2 : (@ite _ (g = k ∧ as = pargs) (dec _) (some rs) none) = some r := hr
            by_cases e : g = k ∧ as = pargs
            · rw [@if_pos _ (dec _) e] at hr2
              simp only [Option.some.injEq] at hr2
              rw [e.1, e.2, ← hr2]; exact hc
            · rw [@if_neg _ (dec _) e] at hr2; cases hr2
          · simp only [efOp, ho, hf, hvs, Option.bind_some, hp]
            simp
        | cons => exact h.elim
      | _ => exact h.elim
    · rename_i hna hnv
      rw [ho] at h
      obtain ⟨v, hv, h⟩ := xv_ok htt h
      refine plain ?_ h
      simp only [efOp, ho]
      split
      · exact absurd rfl hna
      · exact absurd rfl (hnv _)
      · simp only [hv]
  · rename_i h1 h2 h3 h4 h5
    obtain ⟨v, hv, h⟩ := xv_ok htt h
    refine plain ?_ h
    unfold efOp
    split
    · rename_i ho; exact absurd ho (h1 _)
    · rename_i ho; exact absurd ho (h2 _ _)
    · rename_i ho; exact absurd ho (h3 _ _ _)
    · rename_i ho; exact absurd ho (h4 _ _ _)
    · rename_i ho; exact absurd ho (h5 _)
    · simp only [hv]

def apX (e : Ef) (A : AS) : AS :=
  ⟨match e.t with | some y => y :: A.T | none => A.T, match e.h with | some (id, x) => setX A.H id x | none => A.H⟩
theorem apX_eq {P : Program} {o : Oper} {A : AS} {nx nx' : Nat} {e : Ef} {fp : List Nat} (h : EfR P o A nx e fp nx') (hl : A.H.length = nx) : apX e A = e.ap A := by
  obtain ⟨C, hC, h⟩ := h
  obtain ⟨s1, s2, s3⟩ := ef_shape h
  unfold apX Ef.ap
  congr 1
  cases hh : e.h with
  | none => rfl
  | some y =>
    obtain ⟨id, x⟩ := y
    have hm := s2 id x hh
    have : id ≤ A.H.length := by
      rcases s3 with ⟨_, y, hy, hfp⟩ | ⟨_, h4⟩
      · rw [hfp] at hm; simp at hm; omega
      · have := h4 hl id hm; omega
    simp only [setH]
    exact setX_eq _ _ _ this

/-- An operation where the order is fixed. -/
def xw (tt : TypeId → Option TI) (cp : FuncId → List PV → (List PV → Prop) → Prop) (cc : FuncId → List AV → List AObj → (AV → List AObj → Prop) → Prop) (o : Oper) (A : AS) (K : AS → Prop) : Prop :=
  match o.op with
  | .call c => match c.callee with
    | .value f => need (ev A.T f) fun fv => need (optL (ev A.T) c.args.toList) fun vs => match fv with
      | .fn k caps => cc k (catX vs caps) A.H fun r H' => K ⟨match o.dst with | some d => (d, r) :: A.T | none => A.T, H'⟩
      | _ => False
    | _ => xe tt cp o A (lenX A.H) fun e _ _ => K (apX e A)
  | _ => xe tt cp o A (lenX A.H) fun e _ _ => K (apX e A)

theorem putT_eq (T : List (Nat × AV)) (d : Option Nat) (x : AV) : putT T d x = match d with | some d => (d, x) :: T | none => T := by cases d <;> rfl

theorem ap_tw (d : Option Nat) (v : AV) (h : Option (Nat × AObj)) (A : AS) : (⟨tw d v, h⟩ : Ef).ap A = ⟨putT A.T d v, match h with | some (id, x) => setH A.H id x | none => A.H⟩ := by cases d <;> rfl

theorem ef_wop {P : Program} {C : CT} {o : Oper} {A : AS} {e : Ef} {fp : List Nat} {nx' : Nat} (h : efOp P C o A A.H.length = some (e, fp, nx')) (hv : ∀ f args ats, o.op ≠ .call ⟨.value f, args, ats⟩) {K : AS → Prop} (hk : K (e.ap A)) : wop P o A K := by
  unfold efOp at h
  unfold wop
  split at h
  · rename_i t ho
    rw [ho]
    split at h <;> try (cases h; done)
    rename_i ti hti
    simp only [Option.some.injEq, Prod.mk.injEq] at h
    obtain ⟨rfl, rfl, rfl⟩ := h
    simp only [hti, need_some]
    simp only [ap_tw, setH, Nat.lt_irrefl, if_false] at hk; exact hk
  · rename_i t x ho
    rw [ho]
    split at h <;> try (cases h; done)
    rename_i l hl
    simp only [Option.some.injEq, Prod.mk.injEq] at h
    obtain ⟨rfl, rfl, rfl⟩ := h
    rw [Option.bind_eq_some_iff] at hl
    obtain ⟨v, hx, hl⟩ := hl
    simp only [hx, hl, need_some]
    simp only [ap_tw, setH, Nat.lt_irrefl, if_false] at hk; exact hk
  · rename_i t x y ho
    rw [ho]
    split at h <;> try (cases h; done)
    rename_i ti p l hd hti hp hl
    split at h <;> try (cases h; done)
    rename_i id z hs
    simp only [Option.some.injEq, Prod.mk.injEq] at h
    obtain ⟨rfl, rfl, rfl⟩ := h
    rw [Option.bind_eq_some_iff] at hl
    obtain ⟨v, hx, hl⟩ := hl
    simp only [hti, hp, hx, hl, need_some]
    refine ⟨hd, ?_⟩
    unfold efSt at hs
    split at hs <;> try (cases hs; done)
    split at hs <;> try (cases hs; done)
    rename_i cs hcs
    split at hs <;> try (cases hs; done)
    rename_i hc
    simp only [Option.some.injEq, Prod.mk.injEq] at hs
    obtain ⟨rfl, rfl⟩ := hs
    have hlt := (List.getElem?_eq_some_iff.1 hcs).1
    simp only [stV, hcs]
    rw [if_pos hc]
    simp only [need_some]
    simp only [Ef.ap, setH, hlt, if_true] at hk
    exact hk
  · rename_i t n ps ho
    rw [ho]
    split at h <;> try (cases h; done)
    rename_i ti hti
    split at h <;> try (cases h; done)
    rename_i e' es eb hkk
    split at h <;> try (cases h; done)
    rename_i ei l hei hl
    split at h <;> try (cases h; done)
    rename_i pv hpv
    split at h <;> try (cases h; done)
    rename_i hc
    simp only [Option.some.injEq, Prod.mk.injEq] at h
    obtain ⟨rfl, rfl, rfl⟩ := h
    rw [Option.bind_eq_some_iff] at hpv
    obtain ⟨cs, hcs, hpv⟩ := hpv
    simp only [hti, need_some, hkk, hei, hl, hcs, hpv]
    simp only [ap_tw] at hk
    exact ⟨hc.1, hc.2.1, hc.2.2, hk⟩
  · rename_i c ho
    rw [ho]
    obtain ⟨callee, args, ats⟩ := c
    simp only at h ⊢
    split at h
    · rename_i s x t xt ha ht
      split at h <;> try (cases h; done)
      rename_i sv xv hs hx
      simp only [ha, ht, hs, hx, need_some]
      unfold efApp at h
      split at h <;> try (cases h; done)
      rename_i ti xi kt kx
      split at h <;> try (cases h; done)
      rename_i e' es eb kk
      split at h <;> try (cases h; done)
      rename_i ei xs ke hsrc
      simp only [appV, kt, kx, need_some, kk, ke, hsrc]
      split at h <;> try (cases h; done)
      · rename_i id l
        split at h <;> try (cases h; done)
        rename_i n sz hH
        split at h <;> try (cases h; done)
        rename_i hc
        obtain ⟨rfl, rfl, okl, okx, hmax, hb⟩ := hc
        simp only [Option.some.injEq, Prod.mk.injEq] at h
        obtain ⟨rfl, rfl, rfl⟩ := h
        have hlt := (List.getElem?_eq_some_iff.1 hH).1
        simp only [ap_tw, setH, hlt, if_true] at hk
        exact ⟨hH, okl, okx, hmax, hb, hk⟩
      · split at h <;> try (cases h; done)
        rename_i hc
        obtain ⟨okl, okx, hmax, hb⟩ := hc
        simp only [Option.some.injEq, Prod.mk.injEq] at h
        obtain ⟨rfl, rfl, rfl⟩ := h
        simp only [ap_tw, setH, Nat.lt_irrefl, if_false] at hk
        exact ⟨okl, okx, hmax, hb, hk⟩
    · exact absurd ho (hv _ _ _)
    · rename_i hna hnv
      split at h <;> try (cases h; done)
      rename_i v hvv
      simp only [Option.some.injEq, Prod.mk.injEq] at h
      obtain ⟨rfl, rfl, rfl⟩ := h
      simp only [ap_tw] at hk
      split
      · rename_i ha ht; exact (hnv _ _ _ _ rfl ha ht).elim
      · exact (hna _ rfl).elim
      · simp only [hvv, need_some]; exact hk
  · rename_i h1 h2 h3 h4 h5
    split at h <;> try (cases h; done)
    rename_i v hvv
    simp only [Option.some.injEq, Prod.mk.injEq] at h
    obtain ⟨rfl, rfl, rfl⟩ := h
    simp only [ap_tw] at hk
    split
    · rename_i ho; exact absurd ho (h1 _)
    · rename_i ho; exact absurd ho (h2 _ _)
    · rename_i ho; exact absurd ho (h3 _ _ _)
    · rename_i ho; exact absurd ho (h4 _ _ _)
    · rename_i ho; exact absurd ho (h5 _)
    · simp only [hvv, need_some]; exact hk

theorem xw_ok {P : Program} {tt : TypeId → Option TI} (htt : TTOk P tt) {cp : FuncId → List PV → (List PV → Prop) → Prop} (hcp : PC1 P = cp) {cc : FuncId → List AV → List AObj → (AV → List AObj → Prop) → Prop} (hcc : ACall P = cc)
    {o : Oper} {A : AS} {K : AS → Prop} (h : xw tt cp cc o A K) : wop P o A K := by
  have plain : (∀ f args ats, o.op ≠ .call ⟨.value f, args, ats⟩) → xe tt cp o A (lenX A.H) (fun e _ _ => K (apX e A)) → wop P o A K := by
    intro hv h
    rw [lenX_eq] at h
    obtain ⟨e, fp, nx', he, hk⟩ := xe_ok htt hcp h
    rw [apX_eq he rfl] at hk
    obtain ⟨C, hC, he⟩ := he
    exact ef_wop he hv hk
  unfold xw at h
  split at h
  · rename_i c ho
    obtain ⟨callee, args, ats⟩ := c
    simp only at h
    split at h
    · rename_i f
      obtain ⟨fv, hf, h⟩ := need_iff.1 h
      obtain ⟨vs, hvs, h⟩ := need_iff.1 h
      split at h <;> try (exact h.elim)
      rename_i k caps
      rw [optL_eq] at hvs
      rw [catX_eq] at h
      subst hcc
      unfold wop
      rw [ho]
      simp only
      simp only [hf, hvs, need_some]
      exact h.mono fun r H' hk => by rw [putT_eq]; exact hk
    · rename_i hnv
      exact plain (fun f a t e => by rw [ho] at e; simp only [Op.call.injEq, Call.mk.injEq] at e; exact hnv f e.1) h
  · rename_i hnc
    exact plain (fun f a t e => hnc _ e) h

/-! ### regions -/
def xops (tt : TypeId → Option TI) (cp : FuncId → List PV → (List PV → Prop) → Prop) (cc : FuncId → List AV → List AObj → (AV → List AObj → Prop) → Prop) (ops : List Oper) : List Oper → AS → (AS → Prop) → Prop
  | [], A, K => K A
  | o :: r, A, K => match o.guard with
    | none => xw tt cp cc o A fun A' => xops tt cp cc ops r A' K
    | some (j, want) => need (nth ops j) fun oj => need oj.dst fun t => need (look A.T t) fun v => match v with
      | .p (.bool b) => IfB b (fun _ => match want with | true => xw tt cp cc o A fun A' => xops tt cp cc ops r A' K | false => xops tt cp cc ops r ⟨match o.dst with | some d => (d, .tup []) :: A.T | none => A.T, A.H⟩ K)
          (fun _ => match want with | false => xw tt cp cc o A fun A' => xops tt cp cc ops r A' K | true => xops tt cp cc ops r ⟨match o.dst with | some d => (d, .tup []) :: A.T | none => A.T, A.H⟩ K)
      | .tup [] => xops tt cp cc ops r ⟨match o.dst with | some d => (d, .tup []) :: A.T | none => A.T, A.H⟩ K
      | _ => False

theorem guardV_of {ops : List Oper} {T : List (Nat × AV)} {j t : Nat} {oj : Oper} {b : Bool} (h1 : nth ops j = some oj) (h2 : oj.dst = some t) (h3 : look T t = some (.p (.bool b))) : guardV ops T j = some b := by
  rw [nth_eq] at h1
  simp [guardV, h1, h2, h3]
theorem guardN_of {ops : List Oper} {T : List (Nat × AV)} {j t : Nat} {oj : Oper} (h1 : nth ops j = some oj) (h2 : oj.dst = some t) (h3 : look T t = some (.tup [])) : guardN ops T j := by
  rw [nth_eq] at h1
  simp [guardN, h1, h2, h3]

section
variable {P : Program} {tt : TypeId → Option TI} (htt : TTOk P tt) {cp : FuncId → List PV → (List PV → Prop) → Prop} (hcp : PC1 P = cp) {cc : FuncId → List AV → List AObj → (AV → List AObj → Prop) → Prop} (hcc : ACall P = cc)
include htt hcp hcc

theorem xops_ok {nt : Nat} {ops : Array Oper} {B : Base} {Q : Exit → Act → World → Prop} {K : AS → Prop} (hdst : dstOk nt ops.toList = true) :
    ∀ (rest : List Oper) (i : Nat) (A : AS) (G : Ghost) (a : Act) (w : World), rest = ops.toList.drop i → TR nt G A.T a → WR B G A.H w → xops tt cp cc ops.toList rest A K →
      (∀ G' a' w', GExt G G' → Nx B nt G' K a' w' → Q .normal a' w') → wpOps P ops Q (List.range' i (ops.size - i)) a w := by
  intro rest
  induction rest with
  | nil =>
    intro i A G a w hr tr wr h hq
    have hi : ops.size ≤ i := by
      have := congrArg List.length hr
      simp at this; omega
    rw [show ops.size - i = 0 by omega]
    exact hq G a w (GExt.refl G) ⟨G, A, GExt.refl G, tr, wr, h⟩
  | cons o rest ih =>
    intro i A G a w hr tr wr h hq
    have hi : i < ops.size := by
      rcases Nat.lt_or_ge i ops.size with g | g
      · exact g
      · rw [List.drop_eq_nil_of_le (by simpa using g)] at hr; cases hr
    have ho : ops[i]? = some o := by
      have : (ops.toList.drop i)[0]? = some o := by rw [← hr]; rfl
      simpa using this
    have hrest : rest = ops.toList.drop (i + 1) := by
      have := congrArg List.tail hr
      simpa using this
    have hd : ∀ d, o.dst = some d → d < nt := by
      intro d hd
      have := List.all_eq_true.1 hdst o (List.mem_of_getElem? (by simpa using ho : ops.toList[i]? = some o))
      rw [hd] at this; simpa using this
    have e : List.range' i (ops.size - i) = i :: List.range' (i + 1) (ops.size - (i + 1)) := by
      rw [show ops.size - i = (ops.size - (i + 1)) + 1 by omega, List.range'_succ]
    rw [e, wpOps_cons]
    unfold wpOp
    simp only [ho]
    have next : ∀ G' (A' : AS) a' w', GExt G G' → TR nt G' A'.T a' → WR B G' A'.H w' → xops tt cp cc ops.toList rest A' K → wpOps P ops Q (List.range' (i + 1) (ops.size - (i + 1))) a' w' := by
      intro G' A' a' w' ext tr' wr' h'
      exact ih (i + 1) A' G' a' w' hrest tr' wr' h' (fun G2 a2 w2 e2 n2 => hq G2 a2 w2 (ext.trans e2) n2)
    have run : xw tt cp cc o A (fun A' => xops tt cp cc ops.toList rest A' K) → o.wp P a w (wpOps P ops Q (List.range' (i + 1) (ops.size - (i + 1)))) Q := by
      intro hw
      exact Oper.wp_mono (fun a' w' ⟨G', A', e1, e2, e3, e4⟩ => next G' A' a' w' e1 e2 e3 e4) (wop_ok tr wr hd (xw_ok htt hcp hcc hw) Q)
    simp only [xops] at h
    split at h
    · rename_i hg
      have hw : Region.wanted o (yielded ops a.tmps) = true := by simp [Region.wanted, hg]
      rw [if_pos hw]
      exact .inl (run h)
    · rename_i j want hg
      obtain ⟨oj, hoj, h⟩ := need_iff.1 h
      obtain ⟨t, ht, h⟩ := need_iff.1 h
      obtain ⟨v, hv, h⟩ := need_iff.1 h
      have skip : ∀ A', A' = (⟨match o.dst with | some d => (d, .tup []) :: A.T | none => A.T, A.H⟩ : AS) → xops tt cp cc ops.toList rest A' K → wpOps P ops Q (List.range' (i + 1) (ops.size - (i + 1))) (a.put o.dst undef) w := by
        intro A' e h
        subst e
        exact next G ⟨match o.dst with | some d => (d, .tup []) :: A.T | none => A.T, A.H⟩ _ w (GExt.refl G) (by have := tr.put o.dst (.tup []) undef hd (.tup rfl (fun i c v hc => by simp at hc)); rw [putT_eq] at this; exact this) wr h
      split at h <;> try (exact h.elim)
      rotate_left 1
      · rw [if_neg (by simp [Region.wanted, hg, guardN_ok tr (guardN_of hoj ht hv)])]; exact skip _ rfl h
      rename_i b
      have hy := guard_ok tr (guardV_of hoj ht hv)
      cases b <;> cases want
      · rw [if_pos (by simp [Region.wanted, hg, hy])]; exact .inl (run (h.f rfl))
      · rw [if_neg (by simp [Region.wanted, hg, hy])]; exact skip _ rfl (h.f rfl)
      · rw [if_neg (by simp [Region.wanted, hg, hy])]; exact skip _ rfl (h.t rfl)
      · rw [if_pos (by simp [Region.wanted, hg, hy])]; exact .inl (run (h.t rfl))
end

def xdops (tt : TypeId → Option TI) (cp : FuncId → List PV → (List PV → Prop) → Prop) (ops : List Oper) : List Oper → AS → Nat → List (List Nat × Bool) → (AS → List (List Nat × Bool) → Prop) → Prop
  | [], A, _, acc, K => K A acc
  | o :: r, A, nx, acc, K => match o.guard with
    | none => xe tt cp o A nx fun e fp nx' => xdops tt cp ops r (apX e A) nx' (catX acc [(fp, e.h.isSome)]) K
    | some (j, want) => need (nth ops j) fun oj => need oj.dst fun t => need (look A.T t) fun v => match v with
      | .p (.bool b) => IfB b (fun _ => match want with | true => xe tt cp o A nx fun e fp nx' => xdops tt cp ops r (apX e A) nx' (catX acc [(fp, e.h.isSome)]) K | false => xdops tt cp ops r ⟨match o.dst with | some d => (d, .tup []) :: A.T | none => A.T, A.H⟩ nx (catX acc [([], false)]) K)
          (fun _ => match want with | false => xe tt cp o A nx fun e fp nx' => xdops tt cp ops r (apX e A) nx' (catX acc [(fp, e.h.isSome)]) K | true => xdops tt cp ops r ⟨match o.dst with | some d => (d, .tup []) :: A.T | none => A.T, A.H⟩ nx (catX acc [([], false)]) K)
      | .tup [] => xdops tt cp ops r ⟨match o.dst with | some d => (d, .tup []) :: A.T | none => A.T, A.H⟩ nx (catX acc [([], false)]) K
      | _ => False

theorem xdops_ok {P : Program} {tt : TypeId → Option TI} (htt : TTOk P tt) {cp : FuncId → List PV → (List PV → Prop) → Prop} (hcp : PC1 P = cp) {ops : List Oper} : ∀ (rest : List Oper) (A : AS) (nx : Nat) (acc : List (List Nat × Bool)) (K : AS → List (List Nat × Bool) → Prop), A.H.length = nx → xdops tt cp ops rest A nx acc K →
    ∃ E F A' nx', Chn P ops rest A nx E F A' nx' ∧ K A' (acc ++ F) := by
  intro rest
  induction rest with
  | nil => intro A nx acc K _ h; exact ⟨[], [], A, nx, ⟨rfl, rfl, rfl, rfl⟩, by simpa [xdops] using h⟩
  | cons o rest ih =>
    intro A nx acc K hl h
    simp only [xdops] at h
    have run : ∀ (hg : o.guard = none ∨ ∃ j b, o.guard = some (j, b) ∧ guardV ops A.T j = some b), (xe tt cp o A nx fun e fp nx' => xdops tt cp ops rest (apX e A) nx' (catX acc [(fp, e.h.isSome)]) K) → ∃ E F A' nx', Chn P ops (o :: rest) A nx E F A' nx' ∧ K A' (acc ++ F) := by
      intro hg h
      obtain ⟨e, fp, nx1, he, h⟩ := xe_ok htt hcp h
      rw [apX_eq he hl, catX_eq] at h
      have link : Link P ops o A nx e (fp, e.h.isSome) nx1 := .inl ⟨hg, he, rfl⟩
      obtain ⟨E, F, A', nx', hc, hk⟩ := ih _ _ _ _ (link.shape hl).2.2.2.1 h
      exact ⟨e :: E, (fp, e.h.isSome) :: F, A', nx', ⟨A, e, _, nx1, E, F, fun _ => rfl, rfl, rfl, rfl, link, hc⟩, by simpa using hk⟩
    have skip : (∃ j b, o.guard = some (j, b) ∧ (guardV ops A.T j = some (!b) ∨ guardN ops A.T j)) → xdops tt cp ops rest ⟨match o.dst with | some d => (d, .tup []) :: A.T | none => A.T, A.H⟩ nx (catX acc [([], false)]) K → ∃ E F A' nx', Chn P ops (o :: rest) A nx E F A' nx' ∧ K A' (acc ++ F) := by
      intro hg h
      rw [catX_eq] at h
      have link : Link P ops o A nx ⟨tw o.dst (.tup []), none⟩ ([], false) nx := .inr ⟨hg, rfl, rfl, rfl⟩
      have e : (⟨match o.dst with | some d => (d, .tup []) :: A.T | none => A.T, A.H⟩ : AS) = Ef.ap ⟨tw o.dst (.tup []), none⟩ A := by
        simp only [Ef.ap]; cases o.dst <;> rfl
      rw [e] at h
      obtain ⟨E, F, A', nx', hc, hk⟩ := ih _ _ _ _ (link.shape hl).2.2.2.1 h
      exact ⟨_ :: E, ([], false) :: F, A', nx', ⟨A, _, _, nx, E, F, fun _ => rfl, rfl, rfl, rfl, link, hc⟩, by simpa using hk⟩
    split at h
    · rename_i hg
      exact run (.inl hg) h
    · rename_i j want hg
      obtain ⟨oj, hoj, h⟩ := need_iff.1 h
      obtain ⟨t, ht, h⟩ := need_iff.1 h
      obtain ⟨v, hv, h⟩ := need_iff.1 h
      split at h <;> try (exact h.elim)
      rotate_left 1
      · exact skip ⟨j, want, hg, .inr (guardN_of hoj ht hv)⟩ h
      rename_i b
      have hy := guardV_of hoj ht hv
      cases b <;> cases want
      · exact run (.inr ⟨j, false, hg, hy⟩) (h.f rfl)
      · exact skip ⟨j, true, hg, .inl hy⟩ (h.f rfl)
      · exact skip ⟨j, false, hg, .inl hy⟩ (h.t rfl)
      · exact run (.inr ⟨j, true, hg, hy⟩) (h.t rfl)

/-! ### code -/
def ThX (K : AS → Prop) (Q : Exit → AS → Prop) : Exit → AS → Prop
  | .normal, A => K A
  | .exit i, A => Q (.exit i) A
  | .goto l, A => Q (.goto l) A
  | .ret, A => Q .ret A
  | .panic c, A => Q (.panic c) A
  | .outgrown, A => Q .outgrown A
def BlX (id : Nat) (Q : Exit → AS → Prop) : Exit → AS → Prop
  | .exit i, A => if i = id then Q .normal A else Q (.exit i) A
  | .normal, A => Q .normal A
  | .goto l, A => Q (.goto l) A
  | .ret, A => Q .ret A
  | .panic c, A => Q (.panic c) A
  | .outgrown, A => Q .outgrown A

abbrev LP := Code → (Exit → AS → Prop) → AS → Prop

def xc (tt : TypeId → Option TI) (cp : FuncId → List PV → (List PV → Prop) → Prop) (cc : FuncId → List AV → List AObj → (AV → List AObj → Prop) → Prop) (lp : LP) (nt : Nat) : Code → (Exit → AS → Prop) → AS → Prop
  | .skip, Q, A => Q .normal A
  | .ret, Q, A => Q .ret A
  | .exit i, Q, A => Q (.exit i) A
  | .seq x y, Q, A => xc tt cp cc lp nt x (ThX (fun A' => xc tt cp cc lp nt y Q A') Q) A
  | .block id c, Q, A => xc tt cp cc lp nt c (BlX id Q) A
  | .cond c x y, Q, A => need (ev A.T c) fun v => match v with
    | .p (.bool b) => IfB b (fun _ => xc tt cp cc lp nt x Q A) (fun _ => xc tt cp cc lp nt y Q A)
    | _ => False
  | .region _ ops draw, Q, A => match draw with
    | false => Asm (fun _ => dstOk nt ops.toList = true) fun _ => xops tt cp cc ops.toList ops.toList A fun A' => Q .normal A'
    | true => Asm (fun _ => (dstOk nt ops.toList && orderOk ops.toList) = true) fun _ => xdops tt cp ops.toList ops.toList A (lenX A.H) [] fun A' acc => Asm (fun _ => fpOk ops.toList acc = true) fun _ => Q .normal A'
  | .loop c, Q, A => lp c Q A
  | _, _, _ => False

theorem xc_ok {P : Program} (hm : P.follows .mixedOrders = true) {tt : TypeId → Option TI} (htt : TTOk P tt) {cp : FuncId → List PV → (List PV → Prop) → Prop} (hcp : PC1 P = cp) {cc : FuncId → List AV → List AObj → (AV → List AObj → Prop) → Prop} (hcc : ACall P = cc) {lp : LP} {nt : Nat} (hlp : (fun c Q A => Wp P nt (.loop c) Q A) = lp) :
    ∀ (c : Code) (Q : Exit → AS → Prop) (A : AS), xc tt cp cc lp nt c Q A → Wp P nt c Q A := by
  intro c
  induction c with
  | skip => intro Q A h; exact Wp.skip h
  | ret => intro Q A h; exact Wp.ret h
  | exit i => intro Q A h; exact Wp.exit h
  | seq x y ihx ihy =>
    intro Q A h
    refine Wp.seq' ((ihx _ _ h).mono fun e A' hq => ?_)
    cases e with
    | normal => exact ihy _ _ hq
    | _ => exact hq
  | block id c ih =>
    intro Q A h
    refine Wp.block ((ih _ _ h).mono fun e A' hq => ?_)
    cases e <;> exact hq
  | cond c x y ihx ihy =>
    intro Q A h
    obtain ⟨v, hv, h⟩ := need_iff.1 h
    split at h <;> try (exact h.elim)
    exact Wp.cond hv (fun e => ihx _ _ (h.t e)) (fun e => ihy _ _ (h.f e))
  | region id ops draw =>
    intro Q A h
    cases draw with
    | false =>
      have hd := h.c
      intro B G a w tr wr
      refine wp_region ?_
      have := xops_ok htt hcp hcc (nt := nt) (B := B) (ops := ops) (K := Q .normal) (Q := fun e a' w' => ∃ G' A', GExt G G' ∧ TR nt G' A'.T a' ∧ WR B G' A'.H w' ∧ Q e A') hd ops.toList 0 A G a w (by simp) tr wr h.k
        (fun G' a' w' e1 ⟨G2, A2, k1, k2, k3, k4⟩ => ⟨G2, A2, e1.trans k1, k2, k3, k4⟩)
      simpa [List.range_eq_range'] using this
    | true =>
      have hd := (Bool.and_eq_true _ _ ▸ h.c : dstOk nt ops.toList = true ∧ orderOk ops.toList = true)
      have hk := h.k
      rw [lenX_eq] at hk
      obtain ⟨E, F, A', nx', hc, hk⟩ := xdops_ok htt hcp _ _ _ _ _ rfl hk
      exact Wp.drawC hm hd.1 hd.2 ⟨E, F, A', nx', hc, by simpa using hk.c, hk.k⟩
  | loop c ih => intro Q A h; subst hlp; exact h
  | _ => intro Q A h; exact h.elim

/-! ### functions -/
def resX (tt : TypeId → Option TI) (A : AS) : ResultVar → Option AV
  | .tmp t => look A.T t
  | .cell t ty => match tt ty with
    | some ti => match look A.T t with
      | some p => ldX A.H ti p
      | none => none
    | none => none
theorem resX_ok {P : Program} {tt : TypeId → Option TI} (htt : TTOk P tt) {A : AS} {r : ResultVar} {x : AV} (h : resX tt A r = some x) : resV P A r = some x := by
  cases r with
  | tmp t => exact h
  | cell t ty =>
    simp only [resX] at h
    split at h <;> try (cases h; done)
    rename_i ti hti
    split at h <;> try (cases h; done)
    rename_i p hp
    rw [ldX_eq] at h
    simp only [resV, htt _ _ hti, hp, h]
theorem optL_imp {α β : Type} {f g : α → Option β} (h : ∀ x y, f x = some y → g x = some y) : ∀ (l : List α) (r : List β), optL f l = some r → l.mapM g = some r := by
  intro l
  induction l with
  | nil => intro r hr; simp only [optL, Option.some.injEq] at hr; subst hr; rfl
  | cons x l ih =>
    intro r hr
    simp only [optL] at hr
    split at hr <;> try (cases hr; done)
    rename_i y hy
    split at hr <;> try (cases hr; done)
    rename_i ys hys
    simp only [Option.some.injEq] at hr; subst hr
    simp [h _ _ hy, ih _ hys]

def finX (tt : TypeId → Option TI) (res : List ResultVar) (Q : List PV → Prop) : Exit → AS → Prop
  | .normal, A => need (optL (resX tt A) res) fun rs => need (optL pureX rs) Q
  | .ret, A => need (optL (resX tt A) res) fun rs => need (optL pureX rs) Q
  | .exit _, _ => False
  | .goto _, _ => False
  | .panic _, _ => False
  | .outgrown, _ => False
def finA (tt : TypeId → Option TI) (res : List ResultVar) (Q : AV → List AObj → Prop) : Exit → AS → Prop
  | .normal, A => need (optL (resX tt A) res) fun rs => Q (packV rs) A.H
  | .ret, A => need (optL (resX tt A) res) fun rs => Q (packV rs) A.H
  | .exit _, _ => False
  | .goto _, _ => False
  | .panic _, _ => False
  | .outgrown, _ => False

/-- A function on values without a heap, by a quick walk through its body. -/
theorem PCall.x {P : Program} {tt : TypeId → Option TI} (hm : P.follows .mixedOrders = true) (htt : TTOk P tt) {f : FuncId} {fn : Func} {c : Code} {nt : Nat} {res : List ResultVar} {args : List PV} {Q : List PV → Prop} (hf : P.funcs[f]? = some fn) (hb : fn.body = some c) (hnt : fn.ntmps = nt) (hres : fn.results.toList = res) (hcal : callable P f = true) (hn : args.length ≤ nt)
    (h : ∀ (cp : FuncId → List PV → (List PV → Prop) → Prop) (cc : FuncId → List AV → List AObj → (AV → List AObj → Prop) → Prop) (lp : LP) (Q' : List PV → Prop), PC1 P = cp → ACall P = cc → (fun c Q A => Wp P nt (.loop c) Q A) = lp → (∀ r, Q r → Q' r) → xc tt cp cc lp nt c (finX tt res Q') ⟨mkT 0 (mapX .p args), []⟩) : PCall P f args Q := by
  refine PCall.body hf hb hnt hres hcal hn ((xc_ok hm htt rfl rfl rfl c _ _ (by have := h _ _ _ Q rfl rfl rfl (fun _ h => h); rw [mapX_eq] at this; exact this)).mono fun e A' hq => ?_)
  have key : need (optL (resX tt A') res) (fun rs => need (optL pureX rs) Q) → need (res.mapM (resV P A')) (fun rs => need (rs.mapM AV.pure) Q) := by
    intro hq
    obtain ⟨rs, h1, h2⟩ := need_iff.1 hq
    obtain ⟨ps, h3, h4⟩ := need_iff.1 h2
    rw [mapM_pureX] at h3
    exact need_iff.2 ⟨rs, optL_imp (fun _ _ h => resX_ok htt h) _ _ h1, need_iff.2 ⟨ps, h3, h4⟩⟩
  cases e <;> first | exact key hq | exact hq.elim

theorem ACall.x {P : Program} {tt : TypeId → Option TI} (hm : P.follows .mixedOrders = true) (htt : TTOk P tt) {f : FuncId} {fn : Func} {c : Code} {nt : Nat} {res : List ResultVar} {args : List AV} {H : List AObj} {Q : AV → List AObj → Prop} (hf : P.funcs[f]? = some fn) (hb : fn.body = some c) (hnt : fn.ntmps = nt) (hres : fn.results.toList = res) (hcal : callable P f = true) (hn : args.length ≤ nt)
    (h : ∀ (cp : FuncId → List PV → (List PV → Prop) → Prop) (cc : FuncId → List AV → List AObj → (AV → List AObj → Prop) → Prop) (lp : LP) (Q' : AV → List AObj → Prop), PC1 P = cp → ACall P = cc → (fun c Q A => Wp P nt (.loop c) Q A) = lp → (∀ r H', Q r H' → Q' r H') → xc tt cp cc lp nt c (finA tt res Q') ⟨mkT 0 args, H⟩) : ACall P f args H Q := by
  refine ACall.body hf hb hnt hres hcal hn ((xc_ok hm htt rfl rfl rfl c _ _ (h _ _ _ Q rfl rfl rfl (fun _ _ h => h))).mono fun e A' hq => ?_)
  have key : need (optL (resX tt A') res) (fun rs => Q (packV rs) A'.H) → need (res.mapM (resV P A')) (fun rs => Q (packV rs) A'.H) := by
    intro hq
    obtain ⟨rs, h1, h2⟩ := need_iff.1 hq
    exact need_iff.2 ⟨rs, optL_imp (fun _ _ h => resX_ok htt h) _ _ h1, h2⟩
  cases e <;> first | exact key hq | exact hq.elim

/-! ### calls in a walk -/
section
variable {P : Program} {cp : FuncId → List PV → (List PV → Prop) → Prop} {cc : FuncId → List AV → List AObj → (AV → List AObj → Prop) → Prop} {f : FuncId} {args : List PV} {aargs : List AV} {H : List AObj}
theorem callP (hcp : PC1 P = cp) {X : List PV} {K : List PV → Prop} (h : PCall P f args fun r => r = X) (k : ∀ r, X = r → K r) : cp f args K := hcp ▸ ⟨X, h, k X rfl⟩
theorem callA (hcc : ACall P = cc) {X : List PV} {K : AV → List AObj → Prop} (ha : optL pureX aargs = some args) (h : PCall P f args fun r => r = X) (k : ∀ r, X = r → K (packV (mapX .p r)) H) : cc f aargs H K := by
  subst hcc
  rw [mapM_pureX] at ha
  exact ACall.pure ha h fun rs e => by have := k rs e.symm; rw [mapX_eq] at this; exact this
end

end Go.Proofs.Ytnhmnfokbinplaa
