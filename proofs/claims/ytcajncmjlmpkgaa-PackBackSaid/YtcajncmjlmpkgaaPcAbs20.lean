/- Operations, regions, code and functions for the quick walk. Own work; no condition. -/
import Derived.Test.YtcajncmjlmpkgaaPcAbsE
import Derived.Test.YtcajncmjlmpkgaaPcAbsG
import Derived.Test.YtcajncmjlmpkgaaPcAbsB
import Derived.Test.YtcajncmjlmpkgaaPcAbsM
import Derived.Test.YtcajncmjlmpkgaaPcAbsN
import Derived.Test.YtcajncmjlmpkgaaPcAbsR
import Derived.Test.YtcajncmjlmpkgaaPcAbsT
import Derived.Test.YtcajncmjlmpkgaaPcAbsO
namespace Go.Proofs.Ytcajncmjlmpkgaa
open Go Go.RowKit
def PC1 (P : Program) (f : FuncId) (args : List PV) (K : CR → Prop) : Prop := ∃ rs, CROk P f args rs ∧ K rs
def repX {α : Type} : Nat → List α → List α
 | 0, _ => []
 | n + 1, zs => catX zs (repX n zs)
theorem repX_eq {α : Type} (zs : List α) : ∀ n, repX n zs = (List.replicate n zs).flatten
 | 0 => rfl
 | n + 1 => by simp [repX, catX_eq, repX_eq zs n, List.replicate_succ]
def chunkX (size : Nat) : Nat → List PV → List (List PV)
 | 0, _ => []
 | n + 1, cs => takeX cs size :: chunkX size n (dropX cs size)
theorem chunkX_eq (size : Nat) : ∀ (n : Nat) (cs : List PV), chunkX size n cs = chunk size n cs
 | 0, _ => rfl
 | n + 1, cs => by simp [chunkX, chunk, takeX_eq, dropX_eq, chunkX_eq size n]
def stX (H : List AObj) (ti : TI) (p : AV) (l : List AV) (K : Nat → AObj → Prop) : Prop :=
 match p with
 | .ref id off => match nth H id with
   | some (.cells cs) => if lenX l = ti.size then (if off + lenX l ≤ lenX cs then K id (.cells (splX cs off l)) else False) else False
   | _ => False
 | _ => False
theorem stX_ok {H : List AObj} {ti : TI} {p : AV} {l : List AV} {K : Nat → AObj → Prop} (h : stX H ti p l K) : ∃ id y, efSt H ti p l = some (id, y) ∧ K id y := by
 unfold stX at h
 simp only [nth_eq, lenX_eq, splX_eq] at h
 split at h <;> try (exact h.elim)
 split at h <;> try (exact h.elim)
 rename_i hc
 split at h <;> try (exact h.elim)
 rename_i h1
 split at h <;> try (exact h.elim)
 rename_i h2
 exact ⟨_, _, by simp only [efSt, hc]; exact if_pos ⟨h1, h2⟩, h⟩
def appX (tt : TypeId → Option TI) (A : AS) (nx : Nat) (dst : Option Nat) (t xt : TypeId) (s x : AV) (K : Ef → List Nat → Nat → Prop) : Prop :=
 need (tt t) fun ti => need (tt xt) fun xi => match ti.kind with
   | .slice e es eb => need (tt e) fun _ => srcX xi.kind x fun xs => match s with
     | .tok id l => match nth A.H id with
       | some (.spare n sz) => Asm (fun _ => n = l.length ∧ sz = es ∧ okEs es l = true ∧ okEs es xs = true ∧ l.length + xs.length ≤ maxLen ∧ (l.length + xs.length) * eb ≤ 140737488355328) fun _ =>
           Nm (fun _ => l ++ xs) fun L => Nm (fun _ => l.length + xs.length) fun m => K ⟨tw dst (.tok id L), some (id, .spare m es)⟩ [id] nx
       | _ => False
     | .full l => Asm (fun _ => okEs es l = true ∧ okEs es xs = true ∧ l.length + xs.length ≤ maxLen ∧ (l.length + xs.length) * eb ≤ 140737488355328) fun _ =>
           Nm (fun _ => l ++ xs) fun L => Nm (fun _ => l.length + xs.length) fun m => K ⟨tw dst (.tok nx L), some (nx, .spare m es)⟩ [nx] (nx + 1)
     | _ => False
   | _ => False
theorem appX_ok {P : Program} {tt : TypeId → Option TI} (htt : TTOk P tt) {A : AS} {nx : Nat} {dst : Option Nat} {t xt : TypeId} {s x : AV} {K : Ef → List Nat → Nat → Prop} (h : appX tt A nx dst t xt s x K) :
   ∃ e fp nx', efApp P A nx dst t xt s x = some (e, fp, nx') ∧ K e fp nx' := by
 unfold appX at h
 obtain ⟨ti, hti, h⟩ := need_iff.1 h
 obtain ⟨xi, hxi, h⟩ := need_iff.1 h
 split at h <;> try (exact h.elim)
 rename_i e es eb hk
 obtain ⟨ei, hei, h⟩ := need_iff.1 h
 obtain ⟨xs, hxs, h⟩ := srcX_ok h
 split at h <;> try (exact h.elim)
 · rename_i id l
   simp only [nth_eq] at h
   split at h <;> try (exact h.elim)
   rename_i n sz hH
   have hc := h.c
   refine ⟨_, _, _, ?_, h.k.get.get⟩
   simp only [efApp, htt _ _ hti, htt _ _ hxi, hk, htt _ _ hei, hxs, hH]
   exact if_pos hc
 · rename_i l
   have hc := h.c
   refine ⟨_, _, _, ?_, h.k.get.get⟩
   simp only [efApp, htt _ _ hti, htt _ _ hxi, hk, htt _ _ hei, hxs]
   exact if_pos hc
def partsX (T : List (Nat × AV)) (ps : List (Nat × Operand)) : Option (List (Nat × AV)) := optL (fun x => match ev T x.2 with | some v => some (x.1, v) | none => none) ps
theorem partsX_eq (T : List (Nat × AV)) (ps : List (Nat × Operand)) : partsX T ps = ps.mapM fun x => (ev T x.2).map fun v => (x.1, v) := by
 rw [partsX, optL_eq]
 congr 1
 funext x; cases ev T x.2 <;> rfl
def bsliceX (tt : TypeId → Option TI) (T : List (Nat × AV)) (dst : Option Nat) (nx : Nat) (t : TypeId) (n : Nat) (ps : List (Nat × Operand)) (K : Ef → List Nat → Nat → Prop) : Prop :=
 need (tt t) fun ti => match ti.kind with
   | .slice e es _ => need (tt e) fun ei => need (partsX T ps) fun l => need (fillX (fun i => some (i * es, es)) (repX n ei.zero) l) fun cs => need (optL AV.pure1 cs) fun pv =>
       if n * es ≤ 16777216 then (if es = 0 then False else (if ei.size = es then K ⟨tw dst (.full (chunkX es n pv)), none⟩ [] nx else False)) else False
   | _ => False
def catO {α : Type} : List α → List α → Option (List α)
 | [], b => some b
 | x :: r, b => match catO r b with
   | some l => some (x :: l)
   | none => none
theorem catO_eq {α : Type} : ∀ (a b : List α), catO a b = some (a ++ b)
 | [], _ => rfl
 | x :: r, b => by simp [catO, catO_eq r b]
def xe (tt : TypeId → Option TI) (cp : FuncId → List PV → (CR → Prop) → Prop) (o : Oper) (A : AS) (nx : Nat) (K : Ef → List Nat → Nat → Prop) : Prop :=
 match o.op with
 | .alloc t => need (tt t) fun ti => K ⟨tw o.dst (.ref nx 0), some (nx, .cells ti.zero)⟩ [nx] (nx + 1)
 | .box _ x => need (ev A.T x) fun v => need (cellsX v) fun l => K ⟨tw o.dst (.ref nx 0), some (nx, .cells l)⟩ [nx] (nx + 1)
 | .store t a x => match o.dst with
   | none => need (tt t) fun ti => need (ev A.T a) fun p => need (ev A.T x) fun v => need (cellsX v) fun l => stX A.H ti p l fun id y => K ⟨none, some (id, y)⟩ [id] nx
   | some _ => False
 | .buildSlice t n ps => bsliceX tt A.T o.dst nx t n ps.toList K
 | .call c => match c.callee with
   | .builtin .append => match c.args.toList with
     | [s, x] => match c.argTypes.toList with
       | [t, xt] => need (ev A.T s) fun sv => need (ev A.T x) fun xv => appX tt A nx o.dst t xt sv xv K
       | _ => False
     | _ => False
   | .value f => need (ev A.T f) fun fv => need (optL (ev A.T) c.args.toList) fun vs => need fv.pure1 fun pf => match pf with
     | .fn k pc => match optL pureX vs with
       | some pargs => need (catO pargs pc) fun as => cp k as fun cr => match cr with
         | .pure rs => K ⟨tw o.dst (packV (mapX .p rs)), none⟩ [] nx
         | .own L es => Nm (fun _ => L.length) fun m => K ⟨tw o.dst (.tok nx L), some (nx, .spare m es)⟩ [nx] (nx + 1)
       | none => need (optL (refY A.H) vs) fun pargs => need (catO pargs pc) fun as => cp k as fun cr => match cr with
         | .pure rs => match allX PV.thin rs with
           | true => K ⟨tw o.dst (packV (mapX .p rs)), none⟩ (refL vs) nx
           | false => False
         | .own _ _ => False
     | _ => False
   | _ => xv tt A.T A.H o.op fun v => K ⟨tw o.dst v, none⟩ [] nx
 | _ => xv tt A.T A.H o.op fun v => K ⟨tw o.dst v, none⟩ (loadFp A.T o.op) nx
theorem mapM_pureX (l : List AV) : optL pureX l = l.mapM AV.pure := by
 rw [optL_eq]; congr 1; funext x; exact pureX_eq x
theorem ct0' {P : Program} : CTOk P fun _ _ => none := fun _ _ _ h => by cases h
theorem xe_ok {P : Program} {tt : TypeId → Option TI} (htt : TTOk P tt) {cp : FuncId → List PV → (CR → Prop) → Prop} (hcp : PC1 P = cp) {o : Oper} {A : AS} {nx : Nat} {K : Ef → List Nat → Nat → Prop} (h : xe tt cp o A nx K) :
   ∃ e fp nx', EfR P o A nx e fp nx' ∧ K e fp nx' := by
 subst hcp
 have plain : ∀ {e fp nx'}, efOp P (fun _ _ => none) o A nx = some (e, fp, nx') → K e fp nx' → ∃ e fp nx', EfR P o A nx e fp nx' ∧ K e fp nx' := fun h hk => ⟨_, _, _, EfR.of ct0' h, hk⟩
 unfold xe at h
 split at h
 · rename_i t ho
   obtain ⟨ti, hti, h⟩ := need_iff.1 h
   exact plain (by simp only [efOp, ho, htt _ _ hti]) h
 · rename_i t x ho
   obtain ⟨v, hv, h⟩ := need_iff.1 h
   obtain ⟨l, hl, h⟩ := need_iff.1 h
   rw [cellsX_eq] at hl
   exact plain (by simp only [efOp, ho, hv, Option.bind_some, hl]) h
 · rename_i t a x ho
   split at h <;> try (exact h.elim)
   rename_i hd
   obtain ⟨ti, hti, h⟩ := need_iff.1 h
   obtain ⟨p, hp, h⟩ := need_iff.1 h
   obtain ⟨v, hv, h⟩ := need_iff.1 h
   obtain ⟨l, hl, h⟩ := need_iff.1 h
   rw [cellsX_eq] at hl
   obtain ⟨id, y, hs, h⟩ := stX_ok h
   exact plain (by simp only [efOp, ho, hd, htt _ _ hti, hp, hv, Option.bind_some, hl, hs]) h
 · rename_i t n ps ho
   unfold bsliceX at h
   obtain ⟨ti, hti, h⟩ := need_iff.1 h
   split at h <;> try (exact h.elim)
   rename_i e es eb hk
   obtain ⟨ei, hei, h⟩ := need_iff.1 h
   obtain ⟨l, hl, h⟩ := need_iff.1 h
   obtain ⟨cs, hcs, h⟩ := need_iff.1 h
   obtain ⟨pv, hpv, h⟩ := need_iff.1 h
   split at h <;> try (exact h.elim)
   rename_i h1
   split at h <;> try (exact h.elim)
   rename_i h2
   split at h <;> try (exact h.elim)
   rename_i h3
   rw [partsX_eq] at hl
   rw [repX_eq] at hcs
   rw [optL_eq] at hpv
   rw [chunkX_eq] at h
   refine plain ?_ h
   simp only [efOp, ho, htt _ _ hti, hk, htt _ _ hei, hl, fillX_ok _ _ _ _ hcs, Option.bind_some, hpv]
   exact if_pos ⟨h1, h2, h3⟩
 · rename_i c ho
   obtain ⟨callee, args, ats⟩ := c
   simp only at h
   split at h
   · split at h <;> try (exact h.elim)
     rename_i s x ha
     split at h <;> try (exact h.elim)
     rename_i t xt ht
     obtain ⟨sv, hs, h⟩ := need_iff.1 h
     obtain ⟨xv, hx, h⟩ := need_iff.1 h
     obtain ⟨e, fp, nx', he, hk⟩ := appX_ok htt h
     exact plain (by simp only [efOp, ho, ha, ht, hs, hx, he]) hk
   · rename_i f
     obtain ⟨fv, hf, h⟩ := need_iff.1 h
     obtain ⟨vs, hvs, h⟩ := need_iff.1 h
     obtain ⟨pf, hpf, h⟩ := need_iff.1 h
     cases pf with
     | fn k pc =>
       cases hp : optL pureX vs with
       | none =>
         simp only [hp] at h
         obtain ⟨pargs, hp2, h⟩ := need_iff.1 h
         rw [catO_eq] at h
         obtain ⟨rs, hc, h⟩ := h
         cases rs with
         | own L es => exact h.elim
         | pure rs =>
           simp only at h
           split at h
           · rename_i hth
             rw [allX_eq] at hth
             rw [mapX_eq] at h
             rw [optL_eq] at hvs
             exact ⟨_, _, _, efY ho hf hpf hvs hp2 hc hth, h⟩
           · exact h.elim
       | some pargs =>
         simp only [hp] at h
         rw [catO_eq] at h
         obtain ⟨rs, hc, h⟩ := h
         rw [mapM_pureX] at hp
         rw [optL_eq] at hvs
         have dec : ∀ p : Prop, Decidable p := fun p => Classical.propDecidable p
         have hCT : CTOk P (fun g as => @ite _ (g = k ∧ as = pargs ++ pc) (dec _) (some rs) none) := fun g as r hr => by
           have hr2 : (@ite _ (g = k ∧ as = pargs ++ pc) (dec _) (some rs) none) = some r := hr
           by_cases e : g = k ∧ as = pargs ++ pc
           · rw [@if_pos _ (dec _) e] at hr2
             simp only [Option.some.injEq] at hr2
             rw [e.1, e.2, ← hr2]; exact hc
           · rw [@if_neg _ (dec _) e] at hr2; cases hr2
         cases rs with
         | pure rs =>
           simp only [mapX_eq] at h
           exact ⟨_, _, _, EfR.of hCT (by
             simp only [efOp, ho, hf, hvs, Option.bind_some, hp, hpf]
             simp), h⟩
         | own L es =>
           exact ⟨_, _, _, EfR.of hCT (by
             simp only [efOp, ho, hf, hvs, Option.bind_some, hp, hpf]
             simp), h.get⟩
     | _ => exact h.elim
   · rename_i hna hnv
     rw [ho] at h
     obtain ⟨v, hv, h⟩ := xv_ok htt h
     refine plain ?_ h
     simp only [efOp, ho]
     split
     · exact absurd rfl hna
     · exact absurd rfl (hnv _)
     · simp only [hv]
 · rename_i h1 h2 h3 h4 h5
   obtain ⟨v, hv, h⟩ := xv_ok htt h
   refine plain ?_ h
   unfold efOp
   split
   · rename_i ho; exact absurd ho (h1 _)
   · rename_i ho; exact absurd ho (h2 _ _)
   · rename_i ho; exact absurd ho (h3 _ _ _)
   · rename_i ho; exact absurd ho (h4 _ _ _)
   · rename_i ho; exact absurd ho (h5 _)
   · simp only [hv]
def xeA (tt : TypeId → Option TI) (cp : FuncId → List PV → (CR → Prop) → Prop) (o : Oper) (A : AS) (nx : Nat) (K : Ef → List Nat → Nat → Prop) : Prop :=
 match isMapO tt A.T o.op with
 | true => xeM tt o A nx K
 | false => match isNew tt A.T o.op with
   | true => xeN tt o A nx K
   | false => xe tt cp o A nx K
theorem xeA_ok {P : Program} {tt : TypeId → Option TI} (htt : TTOk P tt) {cp : FuncId → List PV → (CR → Prop) → Prop} (hcp : PC1 P = cp) {o : Oper} {A : AS} {nx : Nat} {K : Ef → List Nat → Nat → Prop} (hl : A.H.length = nx) (h : xeA tt cp o A nx K) :
   ∃ e fp nx', EfR P o A nx e fp nx' ∧ K e fp nx' := by
 unfold xeA at h
 split at h
 · exact xeM_ok htt hl h
 · split at h
   · exact xeN_ok htt hl h
   · exact xe_ok htt hcp h
def apX (e : Ef) (A : AS) : AS :=
 ⟨match e.t with | some y => y :: A.T | none => A.T, match e.h with | some (id, x) => setX A.H id x | none => A.H⟩
theorem apX_eq {P : Program} {o : Oper} {A : AS} {nx nx' : Nat} {e : Ef} {fp : List Nat} (h : EfR P o A nx e fp nx') (hl : A.H.length = nx) : apX e A = e.ap A := by
 obtain ⟨s1, s2, s3, _⟩ := h
 unfold apX Ef.ap
 congr 1
 cases hh : e.h with
 | none => rfl
 | some y =>
   obtain ⟨id, x⟩ := y
   have hm := s2 id x hh
   have : id ≤ A.H.length := by
     rcases s3 with ⟨_, y, hy, hfp⟩ | ⟨_, h4⟩
     · rw [hy] at hh; simp only [Option.some.injEq, Prod.mk.injEq] at hh; omega
     · have := h4 hl id hm; omega
   simp only [setH]
   exact setX_eq _ _ _ this
def xw1 (tt : TypeId → Option TI) (cp : FuncId → List PV → (CR → Prop) → Prop) (cc : FuncId → List AV → List AObj → (AV → List AObj → Prop) → Prop) (o : Oper) (A : AS) (K : AS → Prop) : Prop :=
 match o.op with
 | .call c => match c.callee with
   | .value f => need (ev A.T f) fun fv => need (optL (ev A.T) c.args.toList) fun vs => match fv with
     | .fn k caps => cc k (catX vs caps) A.H fun r H' => K (putR A.T o.dst r H')
     | .p (.fn k cs) => cc k (catX vs (mapX .p cs)) A.H fun r H' => K (putR A.T o.dst r H')
     | _ => False
   | _ => xeA tt cp o A (lenX A.H) fun e _ _ => K (apX e A)
 | .panic x => need (ev A.T x) fun v => match v with
   | .ifc t y => K ⟨dieT t y A.T, A.H⟩
   | _ => False
 | _ => xeA tt cp o A (lenX A.H) fun e _ _ => K (apX e A)
theorem putT_eq (T : List (Nat × AV)) (d : Option Nat) (x : AV) : putT T d x = match d with | some d => (d, x) :: T | none => T := by cases d <;> rfl
theorem xw1_wp {P : Program} {tt : TypeId → Option TI} (htt : TTOk P tt) {cp : FuncId → List PV → (CR → Prop) → Prop} (hcp : PC1 P = cp) {cc : FuncId → List AV → List AObj → (AV → List AObj → Prop) → Prop} (hcc : ACall P = cc)
   {nt : NT} {B : Base} {G : Ghost} {A : AS} {a : Act} {w : World} (tr : TR nt G A.T a) (wr : WR B G A.H w) {o : Oper} (hd : ∀ d, o.dst = some d → d < nt) {K : AS → Prop} (h : xw1 tt cp cc o A K) (Q : Exit → Act → World → Prop) (hx : Dx B nt G K Q) :
   o.wp P a w (Nx B nt G K) Q := by
 have plain : xeA tt cp o A (lenX A.H) (fun e _ _ => K (apX e A)) → o.wp P a w (Nx B nt G K) Q := by
   intro h
   rw [lenX_eq] at h
   obtain ⟨e, fp, nx', he, hk⟩ := xeA_ok htt hcp rfl h
   rw [apX_eq he rfl] at hk
   exact he.wp tr wr hd hk Q
 unfold xw1 at h
 split at h
 · rename_i c ho
   obtain ⟨callee, args, ats⟩ := c
   simp only at h
   split at h
   · rename_i f
     obtain ⟨fv, hf, h⟩ := need_iff.1 h
     obtain ⟨vs, hvs, h⟩ := need_iff.1 h
     rw [optL_eq] at hvs
     subst hcc
     split at h <;> try (exact h.elim)
     · rename_i k caps
       rw [catX_eq] at h
       exact call_ok tr wr ho hd (FnR.of_fn (ev_ok tr hf)) hvs h Q hx
     · rename_i k cs
       rw [catX_eq, mapX_eq] at h
       exact call_ok tr wr ho hd (FnR.of_p (ev_ok tr hf)) hvs h Q hx
   · exact plain h
 · rename_i x ho
   obtain ⟨v, hv, h⟩ := need_iff.1 h
   split at h <;> try (exact h.elim)
   rename_i t y
   have hr := ev_ok tr hv
   unfold Oper.wp
   generalize hu : a.eval x = u at hr
   cases hr with
   | @ifc _ _ v hp =>
     have hrun : (execOp a.eval o).run P w = .halt (.panic (.iface t v)) w := by
       simp only [execOp, ho, hu]; rfl
     rw [hrun]
     exact hx G A.T A.H t y v a w (GExt.refl G) tr wr hp h
 · exact plain h
def fzOf : List (Nat × List Nat) → Nat → List Nat
 | [], _ => []
 | (k, l) :: r, n => if k = n then l else fzOf r n
def fzCall (fz : List (Nat × List Nat)) (T : List (Nat × AV)) (c : Call) : List Nat :=
 match c.callee with
 | .value f => match ev T f with
   | some (.fn k _) => fzOf fz k
   | some (.p (.fn k _)) => fzOf fz k
   | _ => []
 | _ => []
def xw (tt : TypeId → Option TI) (fz : List (Nat × List Nat)) (cp : FuncId → List PV → (CR → Prop) → Prop) (cc : FuncId → List AV → List AObj → (AV → List AObj → Prop) → Prop) (o : Oper) (A : AS) (K : AS → Prop) : Prop :=
 match o.op with
 | .makeSlice t l c => match o.dst with
   | some d => need (tt t) fun ti => need (ev A.T l) fun lv => need (ev A.T c) fun cv => match lv with
     | .p (.int _ n) => match cv with
       | .p (.int _ n') => match ti.kind with
         | .slice e es eb => need (tt e) fun ei => match elemX d (fzOf fz 999997) with
           | true => match ei.kind with
             | .slice _ es2 _ => if es = 1 then (if ei.size = 1 then (match ei.zero with
               | [.full []] => Asm (fun _ => 0 ≤ n ∧ n' = n ∧ n.toNat * eb ≤ 140737488355328 ∧ n.toNat ≤ maxLen) fun _ => Nm (fun _ => n.toNat) fun m => Nm (fun _ => List.replicate m []) fun L => K ⟨(d, .rvec (lenX A.H) 0 m) :: A.T, catX A.H [.rvec 0 0 L es2]⟩
               | _ => False) else False) else False
             | _ => False
           | false => need (optL AV.pure1 ei.zero) fun zs => if es = 0 then False else (if ei.size = es then (match elemX d (fzOf fz 999996) with
             | true => Asm (fun _ => 0 ≤ n ∧ n ≤ n' ∧ n'.toNat * eb ≤ 140737488355328 ∧ n'.toNat ≤ maxLen) fun _ => Nm (fun _ => n.toNat) fun m => Nm (fun _ => List.replicate m zs) fun L => K ⟨(d, .vec (lenX A.H) 0 es 0 m) :: A.T, catX A.H [.vec 0 L es]⟩
             | false => Asm (fun _ => 0 ≤ n ∧ n' = n ∧ n.toNat * eb ≤ 140737488355328 ∧ n.toNat ≤ maxLen) fun _ => Nm (fun _ => n.toNat) fun m => Nm (fun _ => List.replicate m zs) fun L => K ⟨(d, .ms (lenX A.H) m) :: A.T, catX A.H [.elts L es]⟩) else False)
         | _ => False
       | _ => False
     | _ => False
   | none => False
 | .store t x y => match ev A.T x with
   | some (.ref id off) => match nth A.H id with
     | some (.elts es size) => match o.dst with
       | none => need (tt t) fun ti => need (ev A.T y) fun v => need (cellsX v) fun l => need (optL AV.pure1 l) fun pl => if ti.size = size then SEx es size off pl fun L => K ⟨A.T, setX A.H id (.elts L size)⟩ else False
       | some _ => False
     | _ => frzK [y] A fun A => xw1 tt cp cc o A K
   | _ => frzK [y] A fun A => xw1 tt cp cc o A K
 | .load t x => match ev A.T x with
   | some (.ref id off) => match nth A.H id with
     | some (.elts es size) => match o.dst with
       | some d => need (tt t) fun ti => if ti.size = size then EIx es size off fun e => need (ldE ti e) fun v => K ⟨(d, v) :: A.T, A.H⟩ else False
       | none => False
     | _ => xw1 tt cp cc o A K
   | _ => xw1 tt cp cc o A K
 | .call c => match fz with
   | [] => frzK (usesO (.call c)) A fun A => xw1 tt cp cc o A K
   | fz => match appArgs fz fzOf o.dst c with
     | some (d, s, x, t, xt) => need (ev A.T s) fun sv => need (ev A.T x) fun xv => appG tt srcX A d t xt sv xv K
     | none => frzK (usesO (.call c)) (frzL (fzCall fz A.T c) A) fun A => xw1 tt cp cc o A K
 | op => frzK (usesO op) A fun A => xw1 tt cp cc o A K
theorem xw_wp {P : Program} {tt : TypeId → Option TI} {fz : List (Nat × List Nat)} (htt : TTOk P tt) {cp : FuncId → List PV → (CR → Prop) → Prop} (hcp : PC1 P = cp) {cc : FuncId → List AV → List AObj → (AV → List AObj → Prop) → Prop} (hcc : ACall P = cc)
   {nt : NT} {B : Base} {G : Ghost} {A : AS} {a : Act} {w : World} (tr : TR nt G A.T a) (wr : WR B G A.H w) {o : Oper} (hd : ∀ d, o.dst = some d → d < nt) {K : AS → Prop} (h : xw tt fz cp cc o A K) (Q : Exit → Act → World → Prop) (hx : Dx B nt G K Q) :
   o.wp P a w (Nx B nt G K) Q := by
 have lift : ∀ {s : Sem Value} {v : Value} {w' : World}, s.run P w = .ok v w' → (do pure (Next.value (← s)) : Sem Next).run P w = .ok (.value v) w' := by
   intro s v w' hs; simp only [Sem.run_bind, hs, Result.andThen_ok, Sem.run_pure]
 have frz : ∀ ts, (frzK ts A fun A => xw1 tt cp cc o A K) → o.wp P a w (Nx B nt G K) Q := by
   intro ts h
   obtain ⟨G1, A1, e1, tr1, wr1, h1⟩ := frzK_ok ts A G h tr wr
   exact Oper.wp_mono (fun a' w' ⟨G', A', k1, k2, k3, k4⟩ => ⟨G', A', e1.trans k1, k2, k3, k4⟩) (xw1_wp htt hcp hcc tr1 wr1 hd h1 Q (hx.ext e1))
 have old : xw1 tt cp cc o A K → o.wp P a w (Nx B nt G K) Q := fun h => frz [] h
 have frzL : ∀ ids ts, (frzK ts (frzL ids A) fun A => xw1 tt cp cc o A K) → o.wp P a w (Nx B nt G K) Q := by
   intro ids ts h
   obtain ⟨G0, e0, tr0, wr0⟩ := Fz.frzL nt ids A B G a w tr wr
   obtain ⟨G1, A1, e1, tr1, wr1, h1⟩ := frzK_ok ts _ G0 h tr0 wr0
   exact Oper.wp_mono (fun a' w' ⟨G', A', k1, k2, k3, k4⟩ => ⟨G', A', (e0.trans e1).trans k1, k2, k3, k4⟩) (xw1_wp htt hcp hcc tr1 wr1 hd h1 Q (hx.ext (e0.trans e1)))
 unfold xw at h
 split at h
 · rename_i t l c ho
   split at h <;> try (exact h.elim)
   rename_i d hdst
   obtain ⟨ti, hti, h⟩ := need_iff.1 h
   obtain ⟨lv, hl, h⟩ := need_iff.1 h
   obtain ⟨cv, hc, h⟩ := need_iff.1 h
   split at h <;> try (exact h.elim)
   rename_i k n
   split at h <;> try (exact h.elim)
   rename_i k' n'
   split at h <;> try (exact h.elim)
   rename_i e es eb hk
   replace h := need_iff.1 h
   obtain ⟨ei, hei, h⟩ := h
   have el := p_int (ev_ok tr hl)
   have ec := p_int (ev_ok tr hc)
   split at h
   · split at h <;> try (exact h.elim)
     rename_i e2 es2 eb2 hk2
     split at h <;> try (exact h.elim)
     rename_i h1
     subst h1
     split at h <;> try (exact h.elim)
     rename_i h2
     split at h <;> try (exact h.elim)
     rename_i hz
     obtain ⟨h0, hn', h47, hmax⟩ := h.c
     have hK := h.k.get.get
     obtain ⟨m, rfl⟩ := Int.eq_ofNat_of_zero_le h0
     subst hn'
     simp only [Int.toNat_natCast] at h47 hmax hK
     obtain ⟨v, w', G', r1, r2, r3, r4⟩ := rmake_ok wr (htt _ _ hti) hk (htt _ _ hei) hz (ik := _) (ik' := _) h47 hmax h2 es2
     refine Nx.of_value (x := .rvec A.H.length 0 m) (H' := A.H ++ [.rvec 0 0 (List.replicate m []) es2]) (by simp only [execOp, ho, el, ec]; exact lift r1) hd tr r2 r3 r4 ?_
     rw [hdst, ← lenX_eq, ← catX_eq]; exact hK
   replace h := need_iff.1 h
   obtain ⟨zs, hzs, h⟩ := h
   split at h <;> try (exact h.elim)
   rename_i hes
   split at h <;> try (exact h.elim)
   rename_i hsz
   split at h
   · obtain ⟨h0, hn', h47, hmax⟩ := h.c
     have hK := h.k.get.get
     rw [optL_eq] at hzs
     obtain ⟨m, rfl⟩ := Int.eq_ofNat_of_zero_le h0
     obtain ⟨c0, rfl⟩ := Int.eq_ofNat_of_zero_le (show (0 : Int) ≤ n' by omega)
     simp only [Int.toNat_natCast] at h47 hmax hK
     obtain ⟨v, w', G', r1, r2, r3, r4⟩ := vmake_ok wr (htt _ _ hti) hk (htt _ _ hei) hzs (ik := _) (ik' := _) (show m ≤ c0 by omega) h47 hmax hes hsz
     refine Nx.of_value (x := .vec A.H.length 0 es 0 m) (H' := A.H ++ [.vec 0 (List.replicate m zs) es]) (by simp only [execOp, ho, el, ec]; exact lift r1) hd tr r2 r3 r4 ?_
     rw [hdst, ← lenX_eq, ← catX_eq]; exact hK
   obtain ⟨h0, hn', h47, hmax⟩ := h.c
   have hK := h.k.get.get
   rw [optL_eq] at hzs
   obtain ⟨m, rfl⟩ := Int.eq_ofNat_of_zero_le h0
   subst hn'
   simp only [Int.toNat_natCast] at h47 hmax hK
   obtain ⟨v, w', G', r1, r2, r3, r4⟩ := mslice_ok wr (htt _ _ hti) hk (htt _ _ hei) hzs (ik := _) (ik' := _) h47 hmax hes hsz
   refine Nx.of_value (x := .ms A.H.length m) (H' := A.H ++ [.elts (List.replicate m zs) es]) (by simp only [execOp, ho, el, ec]; exact lift r1) hd tr r2 r3 r4 ?_
   rw [hdst, ← lenX_eq, ← catX_eq]; exact hK
 · rename_i t x y ho
   split at h
   · rename_i id off hx
     split at h
     · rename_i es size hid
       split at h <;> try (exact h.elim)
       rename_i hdst
       obtain ⟨ti, hti, h⟩ := need_iff.1 h
       obtain ⟨v, hv, h⟩ := need_iff.1 h
       obtain ⟨l, hl, h⟩ := need_iff.1 h
       obtain ⟨pl, hpl, h⟩ := need_iff.1 h
       split at h <;> try (exact h.elim)
       rename_i hsz
       obtain ⟨i, h1, h2, h3, h4⟩ := h.of
       rw [cellsX_eq] at hl
       rw [optL_eq] at hpl
       rw [nth_eq] at hid
       have hlt := (List.getElem?_eq_some_iff.1 hid).1
       have h4 := h4 _ rfl
       rw [setX_eq _ _ _ (by omega), if_pos hlt] at h4
       obtain ⟨w', r1, r2⟩ := estore_ok wr (htt _ _ hti) (ev_ok tr hx) (ev_ok tr hv) hl hpl hid h1 h2 h3 hsz
       have hrun : (execOp a.eval o).run P w = .ok .skip w' := by
         simp only [execOp, ho, Sem.run_bind, r1, Result.andThen_ok, Sem.run_pure]
       unfold Oper.wp
       rw [hrun]
       refine ⟨G, _, GExt.refl G, ?_, r2, h4⟩
       rw [hdst]; exact tr
     · exact frz _ h
   · exact frz _ h
 · rename_i t x ho
   split at h
   · rename_i id off hx
     split at h
     · rename_i es size hid
       split at h <;> try (exact h.elim)
       rename_i d hdst
       obtain ⟨ti, hti, h⟩ := need_iff.1 h
       split at h <;> try (exact h.elim)
       rename_i hsz
       obtain ⟨i, e, h1, h2, h⟩ := h.of
       obtain ⟨v, hv, h⟩ := need_iff.1 h
       rw [nth_eq] at hid
       obtain ⟨u, r1, r2⟩ := eload_ok (htt _ _ hti) wr (ev_ok tr hx) hid h1 h2 hsz hv
       refine Nx.of_value (x := v) (by simp only [execOp, ho]; exact lift r1) hd tr (GExt.refl G) wr r2 ?_
       rw [hdst]; exact h
     · exact old h
   · exact old h
 · rename_i c ho
   split at h
   · exact frz _ h
   · split at h
     · rename_i d s x t xt happ
       obtain ⟨hdst, rfl⟩ := appArgs_ok happ
       obtain ⟨sv, hs, h⟩ := need_iff.1 h
       obtain ⟨xv, hx, h⟩ := need_iff.1 h
       obtain ⟨v, w', G', y, H', r1, r2, r3, r4, r5⟩ := appG_ok (ty := o.type) htt (fun _ _ _ h => srcX_ok h) wr (ev_ok tr hs) (ev_ok tr hx) h
       refine Nx.of_value (x := y) (H' := H') ?_ hd tr r2 r3 r4 (by rw [hdst]; exact r5)
       simp only [execOp, ho, resolve, invoke, builtin, Sem.run_bind, Sem.run_pure, Result.andThen_ok, List.map_toArray, List.map_cons, List.map_nil, r1]
     · exact frzL _ _ h
 · exact frz _ h
def xops (tt : TypeId → Option TI) (fz : List (Nat × List Nat)) (cp : FuncId → List PV → (CR → Prop) → Prop) (cc : FuncId → List AV → List AObj → (AV → List AObj → Prop) → Prop) (ops : List Oper) : List Oper → AS → (AS → Prop) → Prop
 | [], A, K => K A
 | o :: r, A, K => match o.guard with
   | none => xw tt fz cp cc o A fun A' => (match dieS A' with | true => K A' | false => xops tt fz cp cc ops r A' K)
   | some (j, want) => need (nth ops j) fun oj => need oj.dst fun t => need (look A.T t) fun v => match v with
     | .p (.bool b) => IfB b (fun _ => match want with | true => xw tt fz cp cc o A fun A' => (match dieS A' with | true => K A' | false => xops tt fz cp cc ops r A' K) | false => xops tt fz cp cc ops r ⟨match o.dst with | some d => (d, .tup []) :: A.T | none => A.T, A.H⟩ K)
         (fun _ => match want with | false => xw tt fz cp cc o A fun A' => (match dieS A' with | true => K A' | false => xops tt fz cp cc ops r A' K) | true => xops tt fz cp cc ops r ⟨match o.dst with | some d => (d, .tup []) :: A.T | none => A.T, A.H⟩ K)
     | .tup [] => xops tt fz cp cc ops r ⟨match o.dst with | some d => (d, .tup []) :: A.T | none => A.T, A.H⟩ K
     | _ => False
theorem guardV_of {ops : List Oper} {T : List (Nat × AV)} {j t : Nat} {oj : Oper} {b : Bool} (h1 : nth ops j = some oj) (h2 : oj.dst = some t) (h3 : look T t = some (.p (.bool b))) : guardV ops T j = some b := by
 rw [nth_eq] at h1
 simp [guardV, h1, h2, h3]
theorem guardN_of {ops : List Oper} {T : List (Nat × AV)} {j t : Nat} {oj : Oper} (h1 : nth ops j = some oj) (h2 : oj.dst = some t) (h3 : look T t = some (.tup [])) : guardN ops T j := by
 rw [nth_eq] at h1
 simp [guardN, h1, h2, h3]
section
variable {P : Program} {tt : TypeId → Option TI} (htt : TTOk P tt) {fz : List (Nat × List Nat)} {cp : FuncId → List PV → (CR → Prop) → Prop} (hcp : PC1 P = cp) {cc : FuncId → List AV → List AObj → (AV → List AObj → Prop) → Prop} (hcc : ACall P = cc)
include htt hcp hcc
theorem xops_ok {nt : NT} {ops : Array Oper} {B : Base} {Q : Exit → Act → World → Prop} {K : AS → Prop} (hdst : dstOk nt ops.toList = true) :
   ∀ (rest : List Oper) (i : Nat) (A : AS) (G : Ghost) (a : Act) (w : World), rest = ops.toList.drop i → TR nt G A.T a → WR B G A.H w → xops tt fz cp cc ops.toList rest A K →
     (∀ G' a' w', GExt G G' → Nx B nt G' (fun A' => dieS A' = false ∧ K A') a' w' → Q .normal a' w') → Dx B nt G K Q → wpOps P ops Q (List.range' i (ops.size - i)) a w := by
 intro rest
 induction rest with
 | nil =>
   intro i A G a w hr tr wr h hq hx
   have hi : ops.size ≤ i := by
     have := congrArg List.length hr
     simp at this; omega
   rw [show ops.size - i = 0 by omega]
   exact hq G a w (GExt.refl G) ⟨G, A, GExt.refl G, tr, wr, tr.alive, h⟩
 | cons o rest ih =>
   intro i A G a w hr tr wr h hq hx
   have hi : i < ops.size := by
     rcases Nat.lt_or_ge i ops.size with g | g
     · exact g
     · rw [List.drop_eq_nil_of_le (by simpa using g)] at hr; cases hr
   have ho : ops[i]? = some o := by
     have : (ops.toList.drop i)[0]? = some o := by rw [← hr]; rfl
     simpa using this
   have hrest : rest = ops.toList.drop (i + 1) := by
     have := congrArg List.tail hr
     simpa using this
   have hd : ∀ d, o.dst = some d → d < nt := by
     intro d hd
     have := List.all_eq_true.1 hdst o (List.mem_of_getElem? (by simpa using ho : ops.toList[i]? = some o))
     rw [hd] at this; simpa using this
   have e : List.range' i (ops.size - i) = i :: List.range' (i + 1) (ops.size - (i + 1)) := by
     rw [show ops.size - i = (ops.size - (i + 1)) + 1 by omega, List.range'_succ]
   rw [e, wpOps_cons]
   unfold wpOp
   simp only [ho]
   have next : ∀ G' (A' : AS) a' w', GExt G G' → TR nt G' A'.T a' → WR B G' A'.H w' → xops tt fz cp cc ops.toList rest A' K → wpOps P ops Q (List.range' (i + 1) (ops.size - (i + 1))) a' w' := by
     intro G' A' a' w' ext tr' wr' h'
     exact ih (i + 1) A' G' a' w' hrest tr' wr' h' (fun G2 a2 w2 e2 n2 => hq G2 a2 w2 (ext.trans e2) n2) (hx.ext ext)
   have run : xw tt fz cp cc o A (fun A' => match dieS A' with | true => K A' | false => xops tt fz cp cc ops.toList rest A' K) → o.wp P a w (wpOps P ops Q (List.range' (i + 1) (ops.size - (i + 1)))) Q := by
     intro hw
     refine Oper.wp_mono (fun a' w' ⟨G', A', e1, e2, e3, e4⟩ => next G' A' a' w' e1 e2 e3 ?_) (xw_wp htt hcp hcc tr wr hd hw Q (fun G' T H' t x v a w k1 k2 k3 k4 k5 => hx G' T H' t x v a w k1 k2 k3 k4 k5))
     have e5 : (match dieS A' with | true => K A' | false => xops tt fz cp cc ops.toList rest A' K) := e4
     rw [e2.alive] at e5
     exact e5
   simp only [xops] at h
   split at h
   · rename_i hg
     have hw : Region.wanted o (yielded ops a.tmps) = true := by simp [Region.wanted, hg]
     rw [if_pos hw]
     exact .inl (run h)
   · rename_i j want hg
     obtain ⟨oj, hoj, h⟩ := need_iff.1 h
     obtain ⟨t, ht, h⟩ := need_iff.1 h
     obtain ⟨v, hv, h⟩ := need_iff.1 h
     have skip : ∀ A', A' = (⟨match o.dst with | some d => (d, .tup []) :: A.T | none => A.T, A.H⟩ : AS) → xops tt fz cp cc ops.toList rest A' K → wpOps P ops Q (List.range' (i + 1) (ops.size - (i + 1))) (a.put o.dst undef) w := by
       intro A' e h
       subst e
       exact next G ⟨match o.dst with | some d => (d, .tup []) :: A.T | none => A.T, A.H⟩ _ w (GExt.refl G) (by have := tr.put o.dst (.tup []) undef hd (.tup rfl (fun i c v hc => by simp at hc)); rw [putT_eq] at this; exact this) wr h
     split at h <;> try (exact h.elim)
     rotate_left 1
     · rw [if_neg (by simp [Region.wanted, hg, guardN_ok tr (guardN_of hoj ht hv)])]; exact skip _ rfl h
     rename_i b
     have hy := guard_ok tr (guardV_of hoj ht hv)
     cases b <;> cases want
     · rw [if_pos (by simp [Region.wanted, hg, hy])]; exact .inl (run (h.f rfl))
     · rw [if_neg (by simp [Region.wanted, hg, hy])]; exact skip _ rfl (h.f rfl)
     · rw [if_neg (by simp [Region.wanted, hg, hy])]; exact skip _ rfl (h.t rfl)
     · rw [if_pos (by simp [Region.wanted, hg, hy])]; exact .inl (run (h.t rfl))
end
def nullX : Nat → List (List Nat × Bool)
 | 0 => []
 | n + 1 => ([], false) :: nullX n
theorem nullX_eq : ∀ n, nullX n = nullF n
 | 0 => rfl
 | n + 1 => by simp [nullX, nullX_eq n, nullF, List.replicate_succ]
def gateCall (T : List (Nat × AV)) (o : Oper) : Option (FuncId × List AV) :=
 match o.op with
 | .call c => match c.callee with
   | .value f => match ev T f with
     | some fv => match optL (ev T) c.args.toList with
       | some vs => match fv.pure1 with
         | some (.fn k pc) => match optL pureX vs with
           | some _ => none
           | none => some (k, catX vs (mapX .p pc))
         | some _ => none
         | none => match fv with
           | .fn k caps => some (k, catX vs caps)
           | _ => none
       | none => none
     | none => none
   | _ => none
 | _ => none
theorem gateCall_ok {T : List (Nat × AV)} {o : Oper} {k : FuncId} {as : List AV} (h : gateCall T o = some (k, as)) : ∃ f args ats vs caps fv, o.op = .call { callee := .value f, args := args, argTypes := ats } ∧ ev T f = some fv ∧ args.toList.mapM (ev T) = some vs ∧ as = vs ++ caps ∧ ∀ G v, RV G fv v → FnR G k caps v := by
 unfold gateCall at h
 split at h <;> try (cases h; done)
 rename_i c ho
 obtain ⟨callee, args, ats⟩ := c
 simp only at h
 split at h <;> try (cases h; done)
 rename_i f
 split at h <;> try (cases h; done)
 rename_i fv hf
 split at h <;> try (cases h; done)
 rename_i vs hvs
 rw [optL_eq] at hvs
 split at h
 · rename_i k' pc hp
   split at h <;> try (cases h; done)
   simp only [Option.some.injEq, Prod.mk.injEq] at h
   obtain ⟨rfl, rfl⟩ := h
   exact ⟨f, args, ats, vs, pc.map .p, fv, ho, hf, hvs, by rw [catX_eq, mapX_eq], fun G v r => FnR.of_p (.p (pure1_ok r hp))⟩
 · cases h
 · split at h <;> try (cases h; done)
   rename_i k' caps hp
   simp only [Option.some.injEq, Prod.mk.injEq] at h
   obtain ⟨rfl, rfl⟩ := h
   exact ⟨f, args, ats, vs, caps, _, ho, hf, hvs, by rw [catX_eq], fun G v r => FnR.of_fn r⟩
def hasTok : List AV → Bool
 | [] => false
 | .tok _ _ :: _ => true
 | _ :: r => hasTok r
def tokCall (T : List (Nat × AV)) (o : Oper) : Option (FuncId × List AV) :=
 match o.op with
 | .call c => match c.callee with
   | .value f => match ev T f with
     | some fv => match optL (ev T) c.args.toList with
       | some vs => match hasTok vs with
         | true => match fv.pure1 with
           | some (.fn k pc) => some (k, catX vs (mapX .p pc))
           | _ => none
         | false => none
       | none => none
     | none => none
   | _ => none
 | _ => none
theorem tokCall_ok {T : List (Nat × AV)} {o : Oper} {k : FuncId} {as : List AV} (h : tokCall T o = some (k, as)) : ∃ f args ats vs caps fv, o.op = .call { callee := .value f, args := args, argTypes := ats } ∧ ev T f = some fv ∧ args.toList.mapM (ev T) = some vs ∧ as = vs ++ caps ∧ ∀ G v, RV G fv v → FnR G k caps v := by
 unfold tokCall at h
 split at h <;> try (cases h; done)
 rename_i c ho
 obtain ⟨callee, args, ats⟩ := c
 simp only at h
 split at h <;> try (cases h; done)
 rename_i f
 split at h <;> try (cases h; done)
 rename_i fv hf
 split at h <;> try (cases h; done)
 rename_i vs hvs
 rw [optL_eq] at hvs
 split at h <;> try (cases h; done)
 split at h <;> try (cases h; done)
 rename_i k' pc hp
 simp only [Option.some.injEq, Prod.mk.injEq] at h
 obtain ⟨rfl, rfl⟩ := h
 exact ⟨f, args, ats, vs, pc.map .p, fv, ho, hf, hvs, by rw [catX_eq, mapX_eq], fun G v r => FnR.of_p (.p (pure1_ok r hp))⟩
def gateB (ops : List Oper) (acc : List (List Nat × Bool)) : Bool := gateM ops (lenX acc) && (orderM (takeX ops (lenX acc)) && fpM (takeX ops (lenX acc)) acc)
structure Two (X Y : Unit → Prop) : Prop where
 h : X () ∨ Y ()
theorem Two.l {X Y : Unit → Prop} (h : X ()) : Two X Y := ⟨.inl h⟩
theorem Two.r {X Y : Unit → Prop} (h : Y ()) : Two X Y := ⟨.inr h⟩
structure TwoT (X Y : Unit → Prop) : Prop where
 h : X () ∨ Y ()
theorem TwoT.l {X Y : Unit → Prop} (h : X ()) : TwoT X Y := ⟨.inl h⟩
theorem TwoT.r {X Y : Unit → Prop} (h : Y ()) : TwoT X Y := ⟨.inr h⟩
def xd1 (tt : TypeId → Option TI) (cp : FuncId → List PV → (CR → Prop) → Prop) (cc : FuncId → List AV → List AObj → (AV → List AObj → Prop) → Prop) (ops : List Oper) (o : Oper) (A : AS) (nx : Nat) (acc : List (List Nat × Bool)) (K : AS → Nat → List (List Nat × Bool) → Prop) : Prop :=
 match gateCall A.T o with
 | some (k, as) => Two (fun _ => Asm (fun _ => gateB ops acc = true) fun _ => cc k as A.H fun r H' => match r.dead with | true => False | false => K ⟨match o.dst with | some d => (d, r) :: A.T | none => A.T, H'⟩ (lenX H') (nullX (lenX acc + 1)))
     (fun _ => Two (fun _ => FrX cc k as A.H fun y s => K ⟨match o.dst with | some d => (d, .p y) :: A.T | none => A.T, A.H⟩ nx (catX acc [(s, false)])) (fun _ => xeA tt cp o A nx fun e fp nx' => K (apX e A) nx' (catX acc [(fp, e.h.isSome)])))
 | none => match tokCall A.T o with
   | some (k, as) => TwoT (fun _ => Asm (fun _ => gateB ops acc = true) fun _ => cc k as A.H fun r H' => match r.dead with | true => False | false => K ⟨match o.dst with | some d => (d, r) :: A.T | none => A.T, H'⟩ (lenX H') (nullX (lenX acc + 1)))
     (fun _ => TwoU (fun _ => FrT cc k as A.H fun x id y => K ⟨match o.dst with | some d => (d, x) :: A.T | none => A.T, setX A.H id y⟩ nx (catX acc [([id], true)])) (fun _ => xeA tt cp o A nx fun e fp nx' => K (apX e A) nx' (catX acc [(fp, e.h.isSome)])))
   | none => xeA tt cp o A nx fun e fp nx' => K (apX e A) nx' (catX acc [(fp, e.h.isSome)])
def xdops (tt : TypeId → Option TI) (cp : FuncId → List PV → (CR → Prop) → Prop) (cc : FuncId → List AV → List AObj → (AV → List AObj → Prop) → Prop) (ops : List Oper) : List Oper → AS → Nat → List (List Nat × Bool) → (AS → List (List Nat × Bool) → Prop) → Prop
 | [], A, _, acc, K => K A acc
 | o :: r, A, nx, acc, K => match o.guard with
   | none => xd1 tt cp cc ops o A nx acc fun A' nx' acc' => xdops tt cp cc ops r A' nx' acc' K
   | some (j, want) => need (nth ops j) fun oj => need oj.dst fun t => need (look A.T t) fun v => match v with
     | .p (.bool b) => IfB b (fun _ => match want with | true => xd1 tt cp cc ops o A nx acc fun A' nx' acc' => xdops tt cp cc ops r A' nx' acc' K | false => xdops tt cp cc ops r ⟨match o.dst with | some d => (d, .tup []) :: A.T | none => A.T, A.H⟩ nx (catX acc [([], false)]) K)
         (fun _ => match want with | false => xd1 tt cp cc ops o A nx acc fun A' nx' acc' => xdops tt cp cc ops r A' nx' acc' K | true => xdops tt cp cc ops r ⟨match o.dst with | some d => (d, .tup []) :: A.T | none => A.T, A.H⟩ nx (catX acc [([], false)]) K)
     | .tup [] => xdops tt cp cc ops r ⟨match o.dst with | some d => (d, .tup []) :: A.T | none => A.T, A.H⟩ nx (catX acc [([], false)]) K
     | _ => False
theorem xdops_ok {P : Program} {tt : TypeId → Option TI} (htt : TTOk P tt) {cp : FuncId → List PV → (CR → Prop) → Prop} (hcp : PC1 P = cp) {cc : FuncId → List AV → List AObj → (AV → List AObj → Prop) → Prop} (hcc : ACall P = cc) {nt : NT} {ops : Array Oper} {Q : Exit → AS → Prop} (hdst : dstOk nt ops.toList = true) (hs : orderOk ops.toList = true) :
   ∀ (rest : List Oper) (lo : Nat) (A0 : AS) (E : List Ef) (F : List (List Nat × Bool)) (A : AS) (nx : Nat), rest = ops.toList.drop (lo + E.length) → lo + E.length ≤ ops.size → F.length = E.length → A.H.length = nx → Chn P ops.toList ((ops.toList.drop lo).take E.length) A0 A0.H.length E F A nx →
     xdops tt cp cc ops.toList rest A nx (nullF lo ++ F) (fun A' acc => Asm (fun _ => fpM ops.toList acc = true) fun _ => Q .normal A') → Rest P nt ops Q lo A0 := by
 intro rest
 induction rest with
 | nil =>
   intro lo A0 E F A nx hr hle hFE hl hc h
   have hlen : ops.size ≤ lo + E.length := by
     have := congrArg List.length hr
     simp at this; omega
   have e : (ops.toList.drop lo).take E.length = ops.toList.drop lo := List.take_of_length_le (by simp; omega)
   rw [e] at hc
   exact Rest.fin hdst hs (by omega) hc (fp_of h.c) h.k
 | cons o rest ih =>
   intro lo A0 E F A nx hr hle hFE hl hc h
   have hi : lo + E.length < ops.size := by
     rcases Nat.lt_or_ge (lo + E.length) ops.size with g | g
     · exact g
     · rw [List.drop_eq_nil_of_le (by simpa using g)] at hr; cases hr
   have ho : ops.toList[lo + E.length]? = some o := by
     have : (ops.toList.drop (lo + E.length))[0]? = some o := by rw [← hr]; rfl
     simpa using this
   have hrest : rest = ops.toList.drop (lo + E.length + 1) := by
     have := congrArg List.tail hr
     simpa using this
   have htake : (ops.toList.drop lo).take E.length ++ [o] = (ops.toList.drop lo).take (E.length + 1) := by
     rw [List.take_add_one, List.getElem?_drop, ho]; rfl
   simp only [xdops] at h
   have ext : ∀ (e : Ef) (f : List Nat × Bool) (nx1 : Nat), Link P ops.toList o A nx e f nx1 → xdops tt cp cc ops.toList rest (e.ap A) nx1 (catX (nullF lo ++ F) [f]) (fun A' acc => Asm (fun _ => fpM ops.toList acc = true) fun _ => Q .normal A') → Rest P nt ops Q lo A0 := by
     intro e f nx1 link h
     rw [catX_eq, List.append_assoc] at h
     refine ih lo A0 (E ++ [e]) (F ++ [f]) (e.ap A) nx1 (by rw [List.length_append, List.length_singleton, ← Nat.add_assoc]; exact hrest) (by simp; omega) (by simp [hFE]) (link.shape hl).2.2.2.1 ?_ h
     rw [List.length_append, List.length_singleton, ← htake]
     exact Chn.snoc _ _ _ _ _ _ _ _ _ _ hc link
   have skip : (∃ j b, o.guard = some (j, b) ∧ (guardV ops.toList A.T j = some (!b) ∨ guardN ops.toList A.T j)) → xdops tt cp cc ops.toList rest ⟨match o.dst with | some d => (d, .tup []) :: A.T | none => A.T, A.H⟩ nx (catX (nullF lo ++ F) [([], false)]) (fun A' acc => Asm (fun _ => fpM ops.toList acc = true) fun _ => Q .normal A') → Rest P nt ops Q lo A0 := by
     intro hg h
     have e : (⟨match o.dst with | some d => (d, .tup []) :: A.T | none => A.T, A.H⟩ : AS) = Ef.ap ⟨tw o.dst (.tup []), none⟩ A := by
       simp only [Ef.ap]; cases o.dst <;> rfl
     rw [e] at h
     exact ext ⟨tw o.dst (.tup []), none⟩ ([], false) nx (.inr ⟨hg, rfl, rfl, rfl⟩) h
   have run : ∀ (hg : o.guard = none ∨ ∃ j b, o.guard = some (j, b) ∧ guardV ops.toList A.T j = some b), (xd1 tt cp cc ops.toList o A nx (nullF lo ++ F) fun A' nx' acc' => xdops tt cp cc ops.toList rest A' nx' acc' (fun A' acc => Asm (fun _ => fpM ops.toList acc = true) fun _ => Q .normal A')) → Rest P nt ops Q lo A0 := by
     intro hg h
     have gate : ∀ {k : FuncId} {f : Operand} {args : Array Operand} {ats : Array TypeId} {vs caps : List AV} {fv : AV}, o.op = .call { callee := .value f, args := args, argTypes := ats } → ev A.T f = some fv → args.toList.mapM (ev A.T) = some vs → (∀ G v, RV G fv v → FnR G k caps v) →
         Asm (fun _ => gateB ops.toList (nullF lo ++ F) = true) (fun _ => cc k (vs ++ caps) A.H fun r H' => match r.dead with | true => False | false => xdops tt cp cc ops.toList rest ⟨match o.dst with | some d => (d, r) :: A.T | none => A.T, H'⟩ (lenX H') (nullX (lenX (nullF lo ++ F) + 1)) (fun A' acc => Asm (fun _ => fpM ops.toList acc = true) fun _ => Q .normal A')) → Rest P nt ops Q lo A0 := by
       intro k f args ats vs caps fv hop hf hvs hfn h
       have hb := h.c
       have hk := h.k
       have hacc : lenX (nullF lo ++ F) = lo + E.length := by rw [lenX_eq, List.length_append, hFE]; simp [nullF]
       unfold gateB at hb
       rw [hacc, takeX_eq, Bool.and_eq_true, Bool.and_eq_true] at hb
       rw [hacc, nullX_eq] at hk
       have e0 : (ops.toList.take (lo + E.length)).drop lo = (ops.toList.drop lo).take E.length := by
         rw [List.drop_take, Nat.add_sub_cancel_left]
       refine Rest.gate hdst hs (k := lo + E.length) (Nat.le_add_right _ _) hi (order_of hb.2.1) (gate_of (gate_of' hb.1)) (by rw [e0]; exact hc) (fp_of hb.2.2) ho hg fun B G a w tr wr Q' => ?_
       have hd : ∀ d, o.dst = some d → d < nt := by
         intro d hd
         have := List.all_eq_true.1 hdst o (List.mem_of_getElem? ho)
         rw [hd] at this; simpa using this
       subst hcc
       refine call_alive tr wr hop hd (hfn _ _ (ev_ok tr hf)) hvs (hk.mono fun r H' hk => ?_) Q'
       split at hk <;> try (exact hk.elim)
       rename_i hal
       refine ⟨hal, ?_⟩
       refine ih (lo + E.length + 1) _ [] [] _ _ (by simpa using hrest) (by simp; omega) rfl rfl ⟨rfl, rfl, rfl, rfl⟩ ?_
       rw [lenX_eq] at hk
       rw [List.append_nil]
       cases hdd : o.dst <;> rw [hdd] at hk <;> exact hk
     unfold xd1 at h
     split at h
     · rename_i k as hgc
       obtain ⟨f, args, ats, vs, caps, fv, hop, hf, hvs, rfl, hfn⟩ := gateCall_ok hgc
       rcases h.h with h | h
       rotate_left 1
       · rcases h.h with h | h
         · obtain ⟨y, s, q1, q2, q3⟩ := h.h
           subst hcc
           refine ext ⟨tw o.dst (.p y), none⟩ (s, false) nx (.inl ⟨hg, efW hop hf hfn hvs q1 q2, rfl⟩) ?_
           have e : (⟨match o.dst with | some d => (d, .p y) :: A.T | none => A.T, A.H⟩ : AS) = Ef.ap ⟨tw o.dst (.p y), none⟩ A := by
             simp only [Ef.ap]; cases o.dst <;> rfl
           rw [e] at q3
           exact q3
         obtain ⟨e, fp, nx1, he, hk⟩ := xeA_ok htt hcp hl h
         rw [apX_eq he hl] at hk
         exact ext e (fp, e.h.isSome) nx1 (.inl ⟨hg, he, rfl⟩) hk
       exact gate hop hf hvs hfn h
     · split at h
       · rename_i k as hgc
         obtain ⟨f, args, ats, vs, caps, fv, hop, hf, hvs, rfl, hfn⟩ := tokCall_ok hgc
         rcases h.h with h | h
         · exact gate hop hf hvs hfn h
         · rcases h.h with h | h
           · obtain ⟨id, n, m, es, L, q1, q2, q3⟩ := h.h
             subst hcc
             refine ext ⟨tw o.dst (.tok id L), some (id, .spare m es)⟩ ([id], true) nx (.inl ⟨hg, efT hop hf hfn hvs q1 q2, rfl⟩) ?_
             have hlt := (List.getElem?_eq_some_iff.1 q1).1
             rw [setX_eq _ _ _ (by omega), if_pos hlt] at q3
             have e : (⟨match o.dst with | some d => (d, .tok id L) :: A.T | none => A.T, A.H.set id (.spare m es)⟩ : AS) = Ef.ap ⟨tw o.dst (.tok id L), some (id, .spare m es)⟩ A := by
               cases hdd : o.dst <;> simp [Ef.ap, tw, setH, hlt]
             rw [e] at q3
             exact q3
           obtain ⟨e, fp, nx1, he, hk⟩ := xeA_ok htt hcp hl h
           rw [apX_eq he hl] at hk
           exact ext e (fp, e.h.isSome) nx1 (.inl ⟨hg, he, rfl⟩) hk
       · obtain ⟨e, fp, nx1, he, hk⟩ := xeA_ok htt hcp hl h
         rw [apX_eq he hl] at hk
         exact ext e (fp, e.h.isSome) nx1 (.inl ⟨hg, he, rfl⟩) hk
   split at h
   · rename_i hg
     exact run (.inl hg) h
   · rename_i j want hg
     obtain ⟨oj, hoj, h⟩ := need_iff.1 h
     obtain ⟨t, ht, h⟩ := need_iff.1 h
     obtain ⟨v, hv, h⟩ := need_iff.1 h
     split at h <;> try (exact h.elim)
     rotate_left 1
     · exact skip ⟨j, want, hg, .inr (guardN_of hoj ht hv)⟩ h
     rename_i b
     have hy := guardV_of hoj ht hv
     cases b <;> cases want
     · exact run (.inr ⟨j, false, hg, hy⟩) (h.f rfl)
     · exact skip ⟨j, true, hg, .inl hy⟩ (h.f rfl)
     · exact skip ⟨j, false, hg, .inl hy⟩ (h.t rfl)
     · exact run (.inr ⟨j, true, hg, hy⟩) (h.t rfl)
def ThX (K : AS → Prop) (Q : Exit → AS → Prop) : Exit → AS → Prop
 | .normal, A => K A
 | .exit i, A => Q (.exit i) A
 | .goto l, A => Q (.goto l) A
 | .ret, A => Q .ret A
 | .panic c, A => Q (.panic c) A
 | .outgrown, A => Q .outgrown A
def BlX (id : Nat) (Q : Exit → AS → Prop) : Exit → AS → Prop
 | .exit i, A => if i = id then Q .normal A else Q (.exit i) A
 | .normal, A => Q .normal A
 | .goto l, A => Q (.goto l) A
 | .ret, A => Q .ret A
 | .panic c, A => Q (.panic c) A
 | .outgrown, A => Q .outgrown A
abbrev LP := Code → (Exit → AS → Prop) → AS → Prop
def xc (tt : TypeId → Option TI) (fz : List (Nat × List Nat)) (cp : FuncId → List PV → (CR → Prop) → Prop) (cc : FuncId → List AV → List AObj → (AV → List AObj → Prop) → Prop) (lp : LP) (nt : NT) : Code → (Exit → AS → Prop) → AS → Prop
 | .skip, Q, A => Q .normal A
 | .ret, Q, A => Q .ret A
 | .exit i, Q, A => Q (.exit i) A
 | .seq x y, Q, A => xc tt fz cp cc lp nt x (ThX (fun A' => xc tt fz cp cc lp nt y Q A') Q) A
 | .block id c, Q, A => xc tt fz cp cc lp nt c (BlX id Q) A
 | .cond c x y, Q, A => need (ev A.T c) fun v => match v with
   | .p (.bool b) => IfB b (fun _ => xc tt fz cp cc lp nt x Q A) (fun _ => xc tt fz cp cc lp nt y Q A)
   | _ => False
 | .region _ ops draw, Q, A => match draw with
   | false => Asm (fun _ => dstOk nt ops.toList = true) fun _ => xops tt fz cp cc ops.toList ops.toList A fun A' => match dieS A' with | true => Q (.panic []) A' | false => Q .normal A'
   | true => Asm (fun _ => (dstOk nt ops.toList && orderM ops.toList) = true) fun _ => xdops tt cp cc ops.toList ops.toList A (lenX A.H) [] fun A' acc => Asm (fun _ => fpM ops.toList acc = true) fun _ => Q .normal A'
 | .loop c, Q, A => lp c Q A
 | _, _, _ => False
theorem xc_ok {P : Program} (hm : P.follows .mixedOrders = true) {tt : TypeId → Option TI} (htt : TTOk P tt) {fz : List (Nat × List Nat)} {cp : FuncId → List PV → (CR → Prop) → Prop} (hcp : PC1 P = cp) {cc : FuncId → List AV → List AObj → (AV → List AObj → Prop) → Prop} (hcc : ACall P = cc) {lp : LP} {nt : NT} (hlp : (fun c Q A => Wp P nt (.loop c) Q A) = lp) :
   ∀ (c : Code) (Q : Exit → AS → Prop) (A : AS), xc tt fz cp cc lp nt c Q A → Wp P nt c Q A := by
 intro c
 induction c with
 | skip => intro Q A h; exact Wp.skip h
 | ret => intro Q A h; exact Wp.ret h
 | exit i => intro Q A h; exact Wp.exit h
 | seq x y ihx ihy =>
   intro Q A h
   refine Wp.seq' ((ihx _ _ h).mono fun e A' hq => ?_)
   cases e with
   | normal => exact ihy _ _ hq
   | _ => exact hq
 | block id c ih =>
   intro Q A h
   refine Wp.block ((ih _ _ h).mono fun e A' hq => ?_)
   cases e <;> exact hq
 | cond c x y ihx ihy =>
   intro Q A h
   obtain ⟨v, hv, h⟩ := need_iff.1 h
   split at h <;> try (exact h.elim)
   exact Wp.cond hv (fun e => ihx _ _ (h.t e)) (fun e => ihy _ _ (h.f e))
 | region id ops draw =>
   intro Q A h
   cases draw with
   | false =>
     have hd := h.c
     intro B G a w tr wr
     refine wp_region ?_
     have := xops_ok htt hcp hcc (nt := nt) (B := B) (ops := ops) (K := fun A' => match dieS A' with | true => Q (.panic []) A' | false => Q .normal A') (Q := Po B nt G Q) hd ops.toList 0 A G a w (by simp) tr wr h.k
       (fun G' a' w' e1 ⟨G2, A2, k1, k2, k3, k4, k5⟩ => Po.go (A := A2) (fun _ => nofun) (e1.trans k1) k2 k3 (by rw [k4] at k5; exact k5))
       (fun G' T H' t x v a' w' k1 k2 k3 k4 k5 => ⟨G', _, _, k1, .die k2 k4, k3, k5⟩)
     simpa [List.range_eq_range'] using this
   | true =>
     have hd := (Bool.and_eq_true _ _ ▸ h.c : dstOk nt ops.toList = true ∧ orderM ops.toList = true)
     have hk := h.k
     rw [lenX_eq] at hk
     exact Wp.rest hm (xdops_ok htt hcp hcc hd.1 (order_of hd.2) ops.toList 0 A [] [] A A.H.length rfl (Nat.zero_le _) rfl rfl ⟨rfl, rfl, rfl, rfl⟩ hk)
 | loop c ih => intro Q A h; subst hlp; exact h
 | _ => intro Q A h; exact h.elim
def resX (tt : TypeId → Option TI) (A : AS) : ResultVar → Option AV
 | .tmp t => look A.T t
 | .cell t ty => match tt ty with
   | some ti => match look A.T t with
     | some p => ldX A.H ti p
     | none => none
   | none => none
theorem resX_ok {P : Program} {tt : TypeId → Option TI} (htt : TTOk P tt) {A : AS} {r : ResultVar} {x : AV} (h : resX tt A r = some x) : resV P A r = some x := by
 cases r with
 | tmp t => exact h
 | cell t ty =>
   simp only [resX] at h
   split at h <;> try (cases h; done)
   rename_i ti hti
   split at h <;> try (cases h; done)
   rename_i p hp
   rw [ldX_eq] at h
   simp only [resV, htt _ _ hti, hp, h]
theorem optL_imp {α β : Type} {f g : α → Option β} (h : ∀ x y, f x = some y → g x = some y) : ∀ (l : List α) (r : List β), optL f l = some r → l.mapM g = some r := by
 intro l
 induction l with
 | nil => intro r hr; simp only [optL, Option.some.injEq] at hr; subst hr; rfl
 | cons x l ih =>
   intro r hr
   simp only [optL] at hr
   split at hr <;> try (cases hr; done)
   rename_i y hy
   split at hr <;> try (cases hr; done)
   rename_i ys hys
   simp only [Option.some.injEq] at hr; subst hr
   simp [h _ _ hy, ih _ hys]
def resT (T : List (Nat × AV)) : List ResultVar → List (Nat × AV)
 | [] => []
 | .tmp t :: r => match look T t with
   | some x => (t, x) :: resT T r
   | none => resT T r
 | .cell t _ :: r => match look T t with
   | some x => (t, x) :: resT T r
   | none => resT T r
theorem resT_sub {T : List (Nat × AV)} : ∀ {l : List ResultVar}, subT T (resT T l) := by
 intro l
 induction l with
 | nil => intro t x h; simp [resT, look] at h
 | cons v l ih =>
   intro t x h
   cases v with
   | tmp k =>
     simp only [resT] at h
     split at h
     · rename_i y hy
       simp only [look] at h
       split at h
       · rename_i e; subst e; simp only [Option.some.injEq] at h; subst h; exact hy
       · exact ih t x h
     · exact ih t x h
   | cell k ty =>
     simp only [resT] at h
     split at h
     · rename_i y hy
       simp only [look] at h
       split at h
       · rename_i e; subst e; simp only [Option.some.injEq] at h; subst h; exact hy
       · exact ih t x h
     · exact ih t x h
def frzW : List Operand → AS → (AS → Prop) → Prop
 | [], A, K => K A
 | .tmp t :: r, A, K => match look A.T t with
   | some (.vec id g sz lo n) => match nth A.H id with
     | some (.vec g' L sz') => if sz' = sz then (if sz = 0 then False else Asm (fun _ => g' = g ∧ lo + n ≤ L.length) fun _ => Nm (fun _ => (L.drop lo).take n) fun l => frzW r ⟨(t, .p (.sl l)) :: A.T, setX A.H id .gone⟩ K) else False
     | _ => frzW r A K
   | some (.rvec id g n) => match nth A.H id with
     | some (.rvec g' _ ls _) => Asm (fun _ => g' = g ∧ n = ls.length) fun _ => Nm (fun _ => ls.map fun l => [PV.sl l]) fun l => frzW r ⟨(t, .p (.sl l)) :: A.T, setX A.H id .gone⟩ K
     | _ => frzW r A K
   | _ => frzW r A K
 | _ :: r, A, K => frzW r A K
theorem frzW_ok {nt : NT} {B : Base} {a : Act} {w : World} {K : AS → Prop} : ∀ (ts : List Operand) (A : AS) (G : Ghost), frzW ts A K → TR nt G A.T a → WR B G A.H w →
   ∃ G' A', GExt G G' ∧ TR nt G' A'.T a ∧ WR B G' A'.H w ∧ K A' := by
 intro ts
 induction ts with
 | nil => intro A G h tr wr; exact ⟨G, A, GExt.refl G, tr, wr, h⟩
 | cons o ts ih =>
   intro A G h tr wr
   cases o with
   | tmp t =>
     have put : ∀ {G1 : Ghost} {id : Nat} {y : AObj} {l : List (List PV)} {v : Value}, GExt G G1 → A.H[id]? = some y → a.tmps[t]? = some v → RV G1 (.p (.sl l)) v → WR B G1 (A.H.set id .gone) w → frzW ts ⟨(t, .p (.sl l)) :: A.T, setX A.H id .gone⟩ K →
         ∃ G' A', GExt G G' ∧ TR nt G' A'.T a ∧ WR B G' A'.H w ∧ K A' := by
       intro G1 id y l v e1 hid hv r1 wr1 hk
       have hlt := (List.getElem?_eq_some_iff.1 hid).1
       rw [setX_eq _ _ _ (by omega), if_pos hlt] at hk
       have tr1 := tr.mono e1
       have tr2 : TR nt G1 ((t, .p (.sl l)) :: A.T) a := ⟨tr1.size, tr1.defers, fun t' x hx => by
         simp only [look] at hx
         split at hx
         · rename_i e; subst e
           simp only [Option.some.injEq] at hx; subst hx
           exact ⟨v, hv, r1⟩
         · exact tr1.slots t' x hx⟩
       obtain ⟨G2, A2, e2, k1, k2, k3⟩ := ih _ G1 hk tr2 wr1
       exact ⟨G2, A2, e1.trans e2, k1, k2, k3⟩
     simp only [frzW] at h
     split at h
     · rename_i id g sz lo n hl
       split at h
       · rename_i g' L sz' hid
         split at h <;> try (exact h.elim)
         rename_i h1
         subst h1
         split at h <;> try (exact h.elim)
         rename_i h2
         obtain ⟨rfl, hn⟩ := h.c
         have hk := h.k.get
         rw [nth_eq] at hid
         obtain ⟨G1, e1, wr1, _, f1⟩ := wr.vecFreeze hid h2
         obtain ⟨v, hv, rv⟩ := tr.slots t _ hl
         exact put e1 hid hv (f1 lo n v hn rv) wr1 hk
       · exact ih _ _ h tr wr
     · rename_i id g n hl
       split at h
       · rename_i g' k ls size hid
         obtain ⟨rfl, rfl⟩ := h.c
         have hk := h.k.get
         rw [nth_eq] at hid
         obtain ⟨G1, e1, wr1, f1⟩ := wr.rvecFreeze hid
         obtain ⟨v, hv, rv⟩ := tr.slots t _ hl
         exact put e1 hid hv (f1 v rv) wr1 hk
       · exact ih _ _ h tr wr
     · exact ih _ _ h tr wr
   | _ => exact ih _ _ h tr wr
def endX (tt : TypeId → Option TI) (res : List ResultVar) (Q : List PV → Prop) (A : AS) : Prop :=
 need (optL (resX tt A) res) fun rs => match optL pureX rs with
   | some ps => Q ps
   | none => need (optL (resX tt (frzAll ⟨resT A.T res, A.H⟩)) res) fun rs => need (optL pureX rs) Q
def finX (tt : TypeId → Option TI) (res : List ResultVar) (Q : List PV → Prop) : Exit → AS → Prop
 | .normal, A => frzK (resO res) A fun A => frzW (resO res) A (endX tt res Q)
 | .ret, A => frzK (resO res) A fun A => frzW (resO res) A (endX tt res Q)
 | .exit _, _ => False
 | .goto _, _ => False
 | .panic _, _ => False
 | .outgrown, _ => False
def finA (tt : TypeId → Option TI) (res : List ResultVar) (Q : AV → List AObj → Prop) : Exit → AS → Prop
 | .normal, A => frzK (resO res) A fun A => need (optL (resX tt A) res) fun rs => Q (packV rs) A.H
 | .ret, A => frzK (resO res) A fun A => need (optL (resX tt A) res) fun rs => Q (packV rs) A.H
 | .exit _, _ => False
 | .goto _, _ => False
 | .panic _, A => match A.T with
   | (_, r) :: _ => Q r A.H
   | [] => False
 | .outgrown, _ => False
theorem Wp.frz {P : Program} {nt : NT} {c : Code} {Q Q' : Exit → AS → Prop} {A : AS} (h : Wp P nt c Q' A) (f : ∀ e A', Q' e A' → ∃ ts, frzK ts A' (Q e)) (g : ∀ A', Q' (.panic []) A' → Q (.panic []) A') : Wp P nt c Q A := by
 intro B G a w tr wr
 refine wp_mono (h B G a w tr wr) ?_
 rintro e a' w' ⟨G2, A2, e', k1, k2, k3, k4⟩
 cases k2 with
 | go he k2 =>
   obtain ⟨ts, h2⟩ := f e A2 k4
   obtain ⟨G3, A3, j1, j2, j3, j4⟩ := frzK_ok ts A2 G2 h2 k2 k3
   exact Po.go he (k1.trans j1) j2 j3 j4
 | die k2 k5 => exact ⟨G2, _, _, k1, .die k2 k5, k3, g _ k4⟩
theorem Wp.frzV {P : Program} {nt : NT} {c : Code} {Q Q' : Exit → AS → Prop} {A : AS} (h : Wp P nt c Q' A) (f : ∀ e A', Q' e A' → ∃ ts, frzW ts A' (Q e)) (g : ∀ A', Q' (.panic []) A' → Q (.panic []) A') : Wp P nt c Q A := by
 intro B G a w tr wr
 refine wp_mono (h B G a w tr wr) ?_
 rintro e a' w' ⟨G2, A2, e', k1, k2, k3, k4⟩
 cases k2 with
 | go he k2 =>
   obtain ⟨ts, h2⟩ := f e A2 k4
   obtain ⟨G3, A3, j1, j2, j3, j4⟩ := frzW_ok ts A2 G2 h2 k2 k3
   exact Po.go he (k1.trans j1) j2 j3 j4
 | die k2 k5 => exact ⟨G2, _, _, k1, .die k2 k5, k3, g _ k4⟩
theorem frzK_mono {K K' : AS → Prop} (hk : ∀ A, K A → K' A) : ∀ (ts : List Operand) (A : AS), frzK ts A K → frzK ts A K' := by
 intro ts
 induction ts with
 | nil => intro A h; exact hk A h
 | cons o ts ih =>
   intro A h
   cases o with
   | tmp t =>
     simp only [frzK] at h ⊢
     split at h
     · split at h
       · exact ⟨h.c, ih _ h.k⟩
       · exact ih _ h
     · exact ih _ h
   | _ => exact ih _ h
theorem Wp.fz {P : Program} {nt : NT} {c : Code} {Q Q' : Exit → AS → Prop} {A : AS} (h : Wp P nt c Q' A) (f : ∀ e A', Q' e A' → ∃ A2, Fz nt A' A2 ∧ Q e A2) (g : ∀ A', Q' (.panic []) A' → Q (.panic []) A') : Wp P nt c Q A := by
 intro B G a w tr wr
 refine wp_mono (h B G a w tr wr) ?_
 rintro e a' w' ⟨G2, A2, e', k1, k2, k3, k4⟩
 cases k2 with
 | go he k2 =>
   obtain ⟨A3, f3, h3⟩ := f e A2 k4
   obtain ⟨G3, j1, j2, j3⟩ := f3 B G2 a' w' k2 k3
   exact Po.go (A := A3) he (k1.trans j1) j2 j3 h3
 | die k2 k5 => exact ⟨G2, _, _, k1, .die k2 k5, k3, g _ k4⟩
theorem Fz.sub {nt : NT} {A : AS} {T : List (Nat × AV)} (h : subT A.T T) : Fz nt A ⟨T, A.H⟩ := fun _ G _ _ tr wr =>
 ⟨G, GExt.refl G, ⟨tr.size, tr.defers, fun t x hx => tr.slots t x (h t x hx)⟩, wr⟩
theorem PCall.x {P : Program} {tt : TypeId → Option TI} (hm : P.follows .mixedOrders = true) (htt : TTOk P tt) {f : FuncId} {fn : Func} {c : Code} {nt : NT} {res : List ResultVar} {args : List PV} {Q : List PV → Prop} (fz : List (Nat × List Nat)) (hf : P.funcs[f]? = some fn) (hb : fn.body = some c) (hnt : (⟨fn.ntmps, []⟩ : NT) = nt) (hres : fn.results.toList = res) (hcal : callable P f = true) (hn : args.length ≤ nt)
   (h : ∀ (cp : FuncId → List PV → (CR → Prop) → Prop) (cc : FuncId → List AV → List AObj → (AV → List AObj → Prop) → Prop) (lp : LP) (Q' : List PV → Prop), PC1 P = cp → ACall P = cc → (fun c Q A => Wp P nt (.loop c) Q A) = lp → (∀ r, Q r → Q' r) → xc tt fz cp cc lp nt c (finX tt res Q') ⟨mkT 0 (mapX .p args), []⟩) : PCall P f args Q := by
 have key2 : ∀ A', need (optL (resX tt A') res) (fun rs => need (optL pureX rs) Q) → need (res.mapM (resV P A')) (fun rs => need (rs.mapM AV.pure) Q) := by
   intro A' hq
   obtain ⟨rs, h1, h2⟩ := need_iff.1 hq
   obtain ⟨ps, h3, h4⟩ := need_iff.1 h2
   rw [mapM_pureX] at h3
   exact need_iff.2 ⟨rs, optL_imp (fun _ _ h => resX_ok htt h) _ _ h1, need_iff.2 ⟨ps, h3, h4⟩⟩
 have key : ∀ A', endX tt res Q A' → ∃ A2, Fz nt A' A2 ∧ need (res.mapM (resV P A2)) (fun rs => need (rs.mapM AV.pure) Q) := by
   intro A' hq
   unfold endX at hq
   obtain ⟨rs, h1, h2⟩ := need_iff.1 hq
   split at h2
   · rename_i ps hps
     exact ⟨A', Fz.refl nt A', key2 A' (need_iff.2 ⟨rs, h1, need_iff.2 ⟨ps, hps, h2⟩⟩)⟩
   · exact ⟨_, (Fz.sub resT_sub).trans (Fz.frzAll nt _), key2 _ h2⟩
 have h1 := xc_ok hm htt rfl rfl rfl c _ _ (by have := h _ _ _ Q rfl rfl rfl (fun _ h => h); rw [mapX_eq] at this; exact this)
 have h1' : Wp P nt c (fun e A' => match e with | .normal | .ret => frzW (resO res) A' (endX tt res Q) | _ => False) ⟨mkT 0 (args.map .p), []⟩ :=
   h1.frz (fun e A' hq => ⟨resO res, by cases e <;> first | exact hq | exact hq.elim⟩) (fun _ hq => hq.elim)
 have h2 : Wp P nt c (fun e A' => match e with | .normal | .ret => endX tt res Q A' | _ => False) ⟨mkT 0 (args.map .p), []⟩ :=
   h1'.frzV (fun e A' hq => ⟨resO res, by cases e <;> first | exact hq | exact hq.elim⟩) (fun _ hq => hq.elim)
 refine PCall.body hf hb hnt hres hcal hn (h2.fz (fun e A' hq => ?_) (fun _ hq => hq.elim))
 cases e <;> first | exact key A' hq | exact hq.elim
theorem ACall.x {P : Program} {tt : TypeId → Option TI} (hm : P.follows .mixedOrders = true) (htt : TTOk P tt) {f : FuncId} {fn : Func} {c : Code} {nt : NT} {res : List ResultVar} {args : List AV} {H : List AObj} {Q : AV → List AObj → Prop} (fz : List (Nat × List Nat)) (hf : P.funcs[f]? = some fn) (hb : fn.body = some c) (hnt : (⟨fn.ntmps, []⟩ : NT) = nt) (hres : fn.results.toList = res) (hcal : callable P f = true) (hn : args.length ≤ nt)
   (h : ∀ (cp : FuncId → List PV → (CR → Prop) → Prop) (cc : FuncId → List AV → List AObj → (AV → List AObj → Prop) → Prop) (lp : LP) (Q' : AV → List AObj → Prop), PC1 P = cp → ACall P = cc → (fun c Q A => Wp P nt (.loop c) Q A) = lp → (∀ r H', Q r H' → Q' r H') → xc tt fz cp cc lp nt c (finA tt res Q') ⟨mkT 0 args, H⟩) : ACall P f args H Q := by
 refine ACall.body hf hb hnt hres hcal hn ((xc_ok hm htt rfl rfl rfl c _ _ (h _ _ _ Q rfl rfl rfl (fun _ _ h => h))).frz (fun e A' hq => ?_) (fun A' hq => ?_))
 rotate_left 1
 · obtain ⟨T, H'⟩ := A'
   cases T with
   | nil => exact hq.elim
   | cons y T => exact ⟨y.1, y.2, T, rfl, hq⟩
 have key : ∀ A', need (optL (resX tt A') res) (fun rs => Q (packV rs) A'.H) → need (res.mapM (resV P A')) (fun rs => Q (packV rs) A'.H) := by
   intro A' hq
   obtain ⟨rs, h1, h2⟩ := need_iff.1 hq
   exact need_iff.2 ⟨rs, optL_imp (fun _ _ h => resX_ok htt h) _ _ h1, h2⟩
 cases e with
 | panic c =>
   obtain ⟨T, H'⟩ := A'
   cases T with
   | nil => exact hq.elim
   | cons y T => exact ⟨[], y.1, y.2, T, rfl, hq⟩
 | normal => exact ⟨resO res, frzK_mono key _ _ hq⟩
 | ret => exact ⟨resO res, frzK_mono key _ _ hq⟩
 | _ => exact hq.elim
def endT (tt : TypeId → Option TI) (res : List ResultVar) (es : Nat) (Q : List (List PV) → Prop) (A : AS) : Prop :=
 need (optL (resX tt A) res) fun rs => match rs with
   | [.tok id l] => match nth A.H id with
     | some (.spare n k) => Asm (fun _ => n = l.length ∧ k = es) fun _ => Q l
     | _ => False
   | [.full l] => Q l
   | _ => False
def finT (tt : TypeId → Option TI) (res : List ResultVar) (es : Nat) (Q : List (List PV) → Prop) : Exit → AS → Prop
 | .normal, A => endT tt res es Q A
 | .ret, A => endT tt res es Q A
 | .exit _, _ => False
 | .goto _, _ => False
 | .panic _, _ => False
 | .outgrown, _ => False
theorem TCall.x {P : Program} {tt : TypeId → Option TI} (hm : P.follows .mixedOrders = true) (htt : TTOk P tt) {f : FuncId} {fn : Func} {c : Code} {nt : NT} {res : List ResultVar} {args : List PV} {Q : List (List PV) → Prop} {es : Nat} (fz : List (Nat × List Nat)) (hf : P.funcs[f]? = some fn) (hb : fn.body = some c) (hnt : (⟨fn.ntmps, []⟩ : NT) = nt) (hres : fn.results.toList = res) (hcal : callable P f = true) (hn : args.length ≤ nt)
   (h : ∀ (cp : FuncId → List PV → (CR → Prop) → Prop) (cc : FuncId → List AV → List AObj → (AV → List AObj → Prop) → Prop) (lp : LP) (Q' : List (List PV) → Prop), PC1 P = cp → ACall P = cc → (fun c Q A => Wp P nt (.loop c) Q A) = lp → (∀ r, Q r → Q' r) → xc tt fz cp cc lp nt c (finT tt res es Q') ⟨mkT 0 (mapX .p args), []⟩) : TCall P f args Q es := by
 refine TCall.body hf hb hnt hres hcal hn ((xc_ok hm htt rfl rfl rfl c _ _ (by have := h _ _ _ Q rfl rfl rfl (fun _ h => h); rw [mapX_eq] at this; exact this)).mono fun e A' hq => ?_)
 have key : endT tt res es Q A' → need (res.mapM (resV P A')) fun rs => (∃ id l, rs = [.tok id l] ∧ A'.H[id]? = some (.spare l.length es) ∧ Q l) ∨ (∃ l, rs = [.full l] ∧ Q l) := by
   intro hq
   unfold endT at hq
   obtain ⟨rs, h1, h2⟩ := need_iff.1 hq
   refine need_iff.2 ⟨rs, optL_imp (fun _ _ h => resX_ok htt h) _ _ h1, ?_⟩
   split at h2
   · rename_i id l
     split at h2
     · rename_i n k hid
       rw [nth_eq] at hid
       obtain ⟨rfl, rfl⟩ := h2.c
       exact .inl ⟨id, l, rfl, hid, h2.k⟩
     · exact h2.elim
   · exact .inr ⟨_, rfl, h2⟩
   · exact h2.elim
 cases e <;> first | exact key hq | exact hq.elim
section
variable {P : Program} {cp : FuncId → List PV → (CR → Prop) → Prop} {cc : FuncId → List AV → List AObj → (AV → List AObj → Prop) → Prop} {f : FuncId} {args : List PV} {aargs : List AV} {H : List AObj}
theorem callP (hcp : PC1 P = cp) {X : List PV} {K : CR → Prop} (h : PCall P f args fun r => r = X) (k : ∀ r, X = r → K (.pure r)) : cp f args K := hcp ▸ ⟨.pure X, h, k X rfl⟩
theorem callA (hcc : ACall P = cc) {X : List PV} {K : AV → List AObj → Prop} (ha : optL pureX aargs = some args) (h : PCall P f args fun r => r = X) (k : ∀ r, X = r → K (packV (mapX .p r)) H) : cc f aargs H K := by
 subst hcc
 rw [mapM_pureX] at ha
 exact ACall.pure ha h fun rs e => by have := k rs e.symm; rw [mapX_eq] at this; exact this
end
end Go.Proofs.Ytcajncmjlmpkgaa
