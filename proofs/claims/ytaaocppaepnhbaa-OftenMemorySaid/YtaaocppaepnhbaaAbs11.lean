/- Every operation, with what follows it: 'wop'; calls by contract. Own work; no condition. -/
import Derived.Test.YtaaocppaepnhbaaAbs10
namespace Go.Proofs.Ytaaocppaepnhbaa
open Go Go.RowKit

def need {α : Type} (x : Option α) (k : α → Prop) : Prop := match x with | some v => k v | none => False
theorem need_some {α : Type} (v : α) (k : α → Prop) : need (some v) k = k v := rfl
theorem need_none {α : Type} (k : α → Prop) : need none k = False := rfl
theorem need_iff {α : Type} {x : Option α} {k : α → Prop} : need x k ↔ ∃ v, x = some v ∧ k v := by cases x <;> simp [need]

def callable (P : Program) (f : FuncId) : Bool := match P.funcs[f]? with | some fn => !(fn.name == "runtime.NumGoroutine") && fn.body.isSome | none => false

def RVL (G : Ghost) (xs : List AV) (vs : List Value) : Prop := vs.length = xs.length ∧ ∀ (i : Nat) x v, xs[i]? = some x → vs[i]? = some v → RV G x v

/-- A call comes back: by its body, or as the model's own answer for a function without one. -/
def Runs (P : Program) (f : FuncId) (vals : Array Value) (w : World) (Q : Ending → World → Prop) : Prop :=
  if callable P f = true then Calls P f vals w Q else ∃ v w', (callFunc f vals).run P w = .ok (.value v) w' ∧ Q (.returned v) w'
theorem Runs.mono {P : Program} {f : FuncId} {vals : Array Value} {w : World} {Q Q' : Ending → World → Prop} (h : Runs P f vals w Q) (hq : ∀ e w', Q e w' → Q' e w') : Runs P f vals w Q' := by
  unfold Runs at h ⊢
  split at h
  · rename_i hc; rw [if_pos hc]; exact h.mono hq
  · rename_i hc; rw [if_neg hc]; obtain ⟨v, w', h1, h2⟩ := h; exact ⟨v, w', h1, hq _ _ h2⟩
theorem Runs.of_calls {P : Program} {f : FuncId} {vals : Array Value} {w : World} {Q : Ending → World → Prop} (hc : callable P f = true) (h : Calls P f vals w Q) : Runs P f vals w Q := by unfold Runs; rw [if_pos hc]; exact h
theorem Runs.calls {P : Program} {f : FuncId} {vals : Array Value} {w : World} {Q : Ending → World → Prop} (hc : callable P f = true) (h : Runs P f vals w Q) : Calls P f vals w Q := by unfold Runs at h; rw [if_pos hc] at h; exact h

/-- A call on abstract values, in an abstract heap. -/
structure ACall (P : Program) (f : FuncId) (args : List AV) (H : List AObj) (Q : AV → List AObj → Prop) : Prop where
  run : ∀ B G w (vals : List Value), WR B G H w → RVL G args vals → Runs P f vals.toArray w fun e w' =>
    ∃ v r G' H', e = .returned v ∧ RV G' r v ∧ GExt G G' ∧ WR B G' H' w' ∧ Q r H'

theorem ACall.mono {P : Program} {f : FuncId} {args : List AV} {H : List AObj} {Q Q' : AV → List AObj → Prop} (h : ACall P f args H Q) (hq : ∀ r H', Q r H' → Q' r H') : ACall P f args H Q' :=
  ⟨fun B G w vals wr rv => (h.run B G w vals wr rv).mono fun _ _ ⟨v, r, G', H', h1, h2, h3, h4, h5⟩ => ⟨v, r, G', H', h1, h2, h3, h4, hq _ _ h5⟩⟩

def stV (H : List AObj) (ti : TI) (p : AV) (l : List AV) : Option (List AObj) :=
  match p with
  | .ref id off => match H[id]? with
    | some (.cells cs) => if l.length = ti.size ∧ off + l.length ≤ cs.length then some (H.set id (.cells (splice cs off l))) else none
    | _ => none
  | _ => none

def chunk (size : Nat) : Nat → List PV → List (List PV)
  | 0, _ => []
  | n + 1, cs => cs.take size :: chunk size n (cs.drop size)

def appV (P : Program) (A : AS) (dst : Option Nat) (t xt : TypeId) (s x : AV) (K : AS → Prop) : Prop :=
  need (tinfo P t) fun ti => need (tinfo P xt) fun xi => match ti.kind with
    | .slice e es eb => need (tinfo P e) fun _ => need (srcV xi.kind x) fun xs => match s with
      | .tok id l => A.H[id]? = some (.spare l.length es) ∧ okEs es l = true ∧ okEs es xs = true ∧ l.length + xs.length ≤ maxLen ∧ (l.length + xs.length) * eb ≤ 140737488355328 ∧
          K ⟨putT A.T dst (.tok id (l ++ xs)), A.H.set id (.spare (l.length + xs.length) es)⟩
      | .full l => okEs es l = true ∧ okEs es xs = true ∧ l.length + xs.length ≤ maxLen ∧ (l.length + xs.length) * eb ≤ 140737488355328 ∧
          K ⟨putT A.T dst (.tok A.H.length (l ++ xs)), A.H ++ [.spare (l.length + xs.length) es]⟩
      | _ => False
    | _ => False

def wop (P : Program) (o : Oper) (A : AS) (K : AS → Prop) : Prop :=
  match o.op with
  | .alloc t => need (tinfo P t) fun ti => K ⟨putT A.T o.dst (.ref A.H.length 0), A.H ++ [.cells ti.zero]⟩
  | .box _ x => need (ev A.T x) fun v => need v.cells fun l => K ⟨putT A.T o.dst (.ref A.H.length 0), A.H ++ [.cells l]⟩
  | .store t a x => o.dst = none ∧ need (tinfo P t) fun ti => need (ev A.T a) fun p => need (ev A.T x) fun v => need v.cells fun l => need (stV A.H ti p l) fun H' => K ⟨A.T, H'⟩
  | .buildSlice t n ps => need (tinfo P t) fun ti => match ti.kind with
    | .slice e es _ => need (tinfo P e) fun ei => need (ps.toList.mapM fun x => (ev A.T x.2).map fun v => (x.1, v)) fun l =>
        need (fillV (fun i => some (i * es, es)) (List.replicate n ei.zero).flatten l) fun cs => need (cs.mapM AV.pure1) fun ps => n * es ≤ 16777216 ∧ es ≠ 0 ∧ ei.size = es ∧ K ⟨putT A.T o.dst (.full (chunk es n ps)), A.H⟩
    | _ => False
  | .call c => match c.callee, c.args.toList, c.argTypes.toList with
    | .builtin .append, [s, x], [t, xt] => need (ev A.T s) fun sv => need (ev A.T x) fun xv => appV P A o.dst t xt sv xv K
    | .value f, args, _ => need (ev A.T f) fun fv => need (args.mapM (ev A.T)) fun vs => match fv with
      | .fn k caps => ACall P k (vs ++ caps) A.H fun r H' => K ⟨putT A.T o.dst r, H'⟩
      | .p (.fn k cs) => ACall P k (vs ++ cs.map .p) A.H fun r H' => K ⟨putT A.T o.dst r, H'⟩
      | _ => False
    | _, _, _ => need (vop P A.T A.H (.call c)) fun v => K ⟨putT A.T o.dst v, A.H⟩
  | op => need (vop P A.T A.H op) fun v => K ⟨putT A.T o.dst v, A.H⟩

/-- What holds behind an operation. -/
def Nx (B : Base) (nt : Nat) (G : Ghost) (K : AS → Prop) (a : Act) (w : World) : Prop := ∃ G' A', GExt G G' ∧ TR nt G' A'.T a ∧ WR B G' A'.H w ∧ K A'

theorem Nx.of_value {P : Program} {B : Base} {nt : Nat} {G G' : Ghost} {K : AS → Prop} {T : List (Nat × AV)} {H' : List AObj} {a : Act} {w w' : World} {o : Oper} {v : Value} {x : AV} {Q : Exit → Act → World → Prop}
    (hrun : (execOp a.eval o).run P w = .ok (.value v) w') (hd : ∀ d, o.dst = some d → d < nt) (tr : TR nt G T a) (ext : GExt G G') (wr : WR B G' H' w') (rx : RV G' x v) (hk : K ⟨putT T o.dst x, H'⟩) : o.wp P a w (Nx B nt G K) Q := by
  unfold Oper.wp
  rw [hrun]
  exact ⟨G', _, ext, (tr.mono ext).put o.dst x v hd rx, wr, hk⟩

def Ghost.box (G : Ghost) (id b : Nat) : Ghost := { G with obj := fun i => if i = id then some (.box b) else G.obj i }

theorem WR.newBox' {B : Base} {G : Ghost} {H H' : List AObj} {w : World} (h : WR B G H w) {id : Nat} (arr : Array Value) (t : TypeId) (cs : List AV) (hid : G.obj id = none) (hup : Upd H H' id (.cells cs)) (hl : arr.size = cs.length)
    (hr : ∀ (i : Nat) c v, cs[i]? = some c → arr[i]? = some v → RV G c v) : WR B (G.box id w.heap.size) H' (w.alloc (.cells arr t)) ∧ GExt G (G.box id w.heap.size) ∧ ∀ j, j ≠ id → G.obj j = none → (G.box id w.heap.size).obj j = none := by
  have hne : ∀ i x, G.obj i = some x → i ≠ id := fun i x hx e => by subst e; rw [hid] at hx; cases hx
  have hext : GExt G (G.box id w.heap.size) :=
    ⟨fun _ _ _ h => h, fun i b hb => by simp only [Ghost.box]; rw [if_neg (hne _ _ hb)]; exact hb,
      fun i c u o hc => ⟨c, u, o, by simp only [Ghost.box]; rw [if_neg (hne _ _ hc)]; exact hc, Nat.le_refl _, fun _ => rfl⟩, fun i c u o k cv s hc => ⟨c, u, o, k, cv, s, by simp only [Ghost.box]; rw [if_neg (hne _ _ hc)]; exact hc, Nat.le_refl _, fun _ => rfl, Nat.le_refl _, fun _ => rfl⟩⟩
  have hle := h.below.size
  refine ⟨⟨h.below.alloc hle _, fun b o v hv => cell?_alloc (h.mem b o v hv), h.news, h.olds, fun j x hx => ?_, fun i j x y b hi hj hx hy => ?_, fun i x b hi hb => ?_, fun j hj => ?_, fun b x f hb => ?_, fun i x b hi hb => ?_⟩, hext, fun j h1 h2 => by simp [Ghost.box, h1, h2]⟩
  · by_cases e : j = id
    · subst e
      rw [hup.at_] at hx; simp only [Option.some.injEq] at hx; subst hx
      refine ⟨w.heap.size, arr, t, by simp [Ghost.box], heap_alloc_new w _, hl, fun i c v hc hv => (hr i c v hc hv).mono hext, fun o => ?_⟩
      cases hv : G.mem w.heap.size o with
      | none => exact hv
      | some v => have := cell?_lt (h.mem _ _ _ hv); simp at this
    · rw [hup.other j e] at hx
      refine (h.objs j x hx).keep hext (by simp [Ghost.box, e]) (fun g b hg hb => ?_) (fun _ _ _ _ _ => rfl)
      exact Below.heap_alloc w _ b (h.fresh j g b hg hb).2
  · simp only [Ghost.box] at hi hj
    split at hi <;> split at hj
    · omega
    · simp at hi; subst hi; simp [GO.has] at hx; subst hx
      have := (h.fresh j y _ hj hy).2; omega
    · simp at hj; subst hj; simp [GO.has] at hy; subst hy
      have := (h.fresh i x _ hi hx).2; omega
    · exact h.sep i j x y b hi hj hx hy
  · simp only [Ghost.box] at hi
    split at hi
    · simp at hi; subst hi; simp [GO.has] at hb; subst hb
      exact ⟨hle, by simp⟩
    · have := h.fresh i x b hi hb
      exact ⟨this.1, by simp; omega⟩
  · obtain ⟨h1, h2⟩ := hup.dom j hj
    simp only [Ghost.box, h2, if_false]; exact h.dom j h1
  · obtain ⟨h1, h2⟩ := h.keep b x f hb
    exact ⟨by rw [Below.heap_alloc w _ b (h.pr_lt hb)]; exact h1, h2⟩
  · simp only [Ghost.box] at hi
    split at hi
    · simp at hi; subst hi; simp [GO.has] at hb; subst hb
      exact h.pr_new
    · exact h.apart i x b hi hb

theorem alloc_ok' {P : Program} {B : Base} {G : Ghost} {H H' : List AObj} {w : World} (wr : WR B G H w) {id : Nat} {t : TypeId} {ti : TI} (k : tinfo P t = some ti) (hid : G.obj id = none) (hup : Upd H H' id (.cells ti.zero)) :
    ∃ v w' G', (Instr.alloc t true (.tuple #[])).run P w = .ok v w' ∧ GExt G G' ∧ WR B G' H' w' ∧ RV G' (.ref id 0) v ∧ ∀ j, j ≠ id → G.obj j = none → G'.obj j = none := by
  obtain ⟨i, d, z, k⟩ := tinfo_ok k
  have hz := k.zero_rv (G := G)
  have g := wr.newBox' z.cells t ti.zero hid hup hz.1 hz.2
  refine ⟨_, _, _, ?_, g.2.1, g.1, .ref (b := w.heap.size) 0 (by simp [Ghost.box]), g.2.2⟩
  simp only [Instr.alloc, Sem.run_bind, k.run_zero w, Result.andThen_ok, newVar, newRow, Sem.run_pure]
  rfl

theorem box_ok' {P : Program} {B : Base} {G : Ghost} {H H' : List AObj} {w : World} (wr : WR B G H w) {id : Nat} {t : TypeId} {x : AV} {v : Value} {l : List AV} (r : RV G x v) (h : x.cells = some l) (hid : G.obj id = none) (hup : Upd H H' id (.cells l)) :
    ∃ u w' G', (Instr.box t v).run P w = .ok u w' ∧ GExt G G' ∧ WR B G' H' w' ∧ RV G' (.ref id 0) u ∧ ∀ j, j ≠ id → G.obj j = none → G'.obj j = none := by
  obtain ⟨h1, h2, _⟩ := cells_ok r h
  have g := wr.newBox' v.cells t l hid hup h1 h2
  exact ⟨_, _, _, rfl, g.2.1, g.1, .ref (b := w.heap.size) 0 (by simp [Ghost.box]), g.2.2⟩

theorem alloc_ok {P : Program} {B : Base} {G : Ghost} {H : List AObj} {w : World} (wr : WR B G H w) {t : TypeId} {ti : TI} (k : tinfo P t = some ti) :
    ∃ v w' G', (Instr.alloc t true (.tuple #[])).run P w = .ok v w' ∧ GExt G G' ∧ WR B G' (H ++ [.cells ti.zero]) w' ∧ RV G' (.ref H.length 0) v := by
  obtain ⟨i, d, z, k⟩ := tinfo_ok k
  have hz := k.zero_rv (G := G)
  have g := wr.newBox z.cells t ti.zero hz.1 hz.2
  refine ⟨_, _, _, ?_, g.2, g.1, .ref (b := w.heap.size) 0 (by simp)⟩
  simp only [Instr.alloc, Sem.run_bind, k.run_zero w, Result.andThen_ok, newVar, newRow, Sem.run_pure]
  rfl

theorem box_ok {P : Program} {B : Base} {G : Ghost} {H : List AObj} {w : World} (wr : WR B G H w) {t : TypeId} {x : AV} {v : Value} {l : List AV} (r : RV G x v) (h : x.cells = some l) :
    ∃ u w' G', (Instr.box t v).run P w = .ok u w' ∧ GExt G G' ∧ WR B G' (H ++ [.cells l]) w' ∧ RV G' (.ref H.length 0) u := by
  obtain ⟨h1, h2, _⟩ := cells_ok r h
  have g := wr.newBox v.cells t l h1 h2
  exact ⟨_, _, _, rfl, g.2, g.1, .ref (b := w.heap.size) 0 (by simp)⟩

theorem store_ok {P : Program} {B : Base} {G : Ghost} {H H' : List AObj} {w : World} (wr : WR B G H w) {t : TypeId} {ti : TI} (k : tinfo P t = some ti) {p x : AV} {pv v : Value} {l : List AV} (rp : RV G p pv) (r : RV G x v) (h : x.cells = some l) (hs : stV H ti p l = some H') :
    ∃ w', (Instr.storeAt t pv v).run P w = .ok () w' ∧ WR B G H' w' := by
  obtain ⟨i, d, z, k⟩ := tinfo_ok k
  obtain ⟨h1, h2, h3⟩ := cells_ok r h
  unfold stV at hs
  split at hs <;> try (cases hs; done)
  rename_i id off
  split at hs <;> try (cases hs; done)
  rename_i cs hcs
  split at hs <;> try (cases hs; done)
  rename_i hc
  simp only [Option.some.injEq] at hs; subst hs
  obtain ⟨b, arr, ty, o1, o2, o3, o4, o5⟩ := wr.objs id _ hcs
  cases rp with
  | @ref _ b' _ hb =>
    rw [o1] at hb; simp only [Option.some.injEq, GO.box.injEq] at hb; subst hb
    have hlen : v.cells.toList.length = l.length := by simpa using h1
    have hfit : off + v.cells.toList.length ≤ arr.toList.length := by
      have e1 : arr.toList.length = cs.length := by simpa using o3
      rw [hlen, e1]; exact hc.2
    have hst := run_storeCells_at P b off ty v.cells.toList 0 arr w o2 (by simpa using hfit) h3
    refine ⟨_, ?_, wr.store (cs' := splice cs off l) (arr := (splice arr.toList off v.cells.toList).toArray) hcs o1 o2 o5 ?_ ?_⟩
    · simp only [Instr.storeAt, Instr.sureAddr, Sem.run_bind, Sem.run_pure, Result.andThen_ok, storeVar, k.run_size w]
      rw [if_neg (by rw [h1, hc.1]; simp)]
      simp only [Nat.add_zero] at hst
      exact hst
    · rw [List.size_toArray, splice_length _ _ _ hfit, splice_length _ _ _ hc.2, Array.length_toList, o3]
    · intro j c u hj hu
      rw [splice_get _ _ _ hc.2] at hj
      rw [List.getElem?_toArray, splice_get _ _ _ hfit, hlen] at hu
      by_cases g : off ≤ j ∧ j < off + l.length
      · rw [if_pos g] at hj hu
        exact h2 _ c u hj (by simpa using hu)
      · rw [if_neg g] at hj hu
        exact o4 j c u hj (by simpa using hu)

theorem append_tokS {P : Program} {B : Base} {G : Ghost} {H : List AObj} {w : World} (wr : WR B G H w) {t xt ty e es eb : Nat} {ti ei : TI} (kt : tinfo P t = some ti) (kk : ti.kind = .slice e es eb) (hx : ∃ d, P.underlying xt = some d ∧ ∀ q, d ≠ .int q) (ke : tinfo P e = some ei)
    {id : Nat} {l xs : List (List PV)} {sv xv : Value} (rs : RV G (.tok id l) sv) {news : List Value} (src : Src P w es xs.length xv news) (fx : Flat G.mem es xs news) (hH : H[id]? = some (.spare l.length es)) (okl : okEs es l = true) (okx : okEs es xs = true) (hmax : l.length + xs.length ≤ maxLen) (hb : (l.length + xs.length) * eb ≤ 140737488355328) :
    ∃ v w' G', (Builtin.append_ #[t, xt] ty #[sv, xv]).run P w = .ok v w' ∧ GExt G G' ∧ WR B G' (H.set id (.spare (l.length + xs.length) es)) w' ∧ RV G' (.tok id (l ++ xs)) v ∧ ∀ j, G.obj j = none → G'.obj j = none := by
  cases rs with
  | @tok _ c _ u _ own hp ho hle he =>
    obtain ⟨u', own', o1, o2⟩ := wr.objs id _ hH
    have keep : ∀ (c : Nat) (u : Value) (o : Option Nat) (m : Mem) (j : Nat), G.obj j = none → (G.tok id c u o m).obj j = none := by
      intro c u o m j hj
      have : j ≠ id := fun e => by subst e; rw [o1] at hj; cases hj
      simp [Ghost.tok, this, hj]
    rw [o1] at ho; simp only [Option.some.injEq, GO.tok.injEq] at ho
    obtain ⟨rfl, rfl, rfl⟩ := ho
    have hu := he rfl
    subst hu
    have hup := Upd.set hH (.spare (l.length + xs.length) es)
    rcases o2 with ⟨rfl, ad, rfl⟩ | ⟨b, arr, bt, cap, rfl, rfl, o3, o4, o5, o6, o7⟩
    · by_cases hz : xs = []
      · subst hz
        obtain ⟨v, w', G', r1, r2, r3, r4, r5⟩ := append_same (ty := ty) wr kt kk hx ke hp src fx (by simpa using hup) (.inr ⟨_, _, _, o1, Nat.le_refl _, fun _ => rfl⟩)
        exact ⟨v, w', G', r1, r2, by simpa using r3, by simpa using r4, fun j hj => by obtain ⟨c, u, o, m, rfl⟩ := r5; exact keep _ _ _ _ j hj⟩
      · have : 0 < xs.length := List.length_pos_iff.2 hz
        obtain ⟨v, w', G', r1, r2, r3, r4, r5⟩ := append_grow (ty := ty) wr kt kk hx ke hp src fx okl okx hmax hb (by omega) hup (fun u => .inr ⟨_, _, _, o1, by omega, fun e => by omega⟩)
        exact ⟨v, w', G', r1, r2, r3, r4, fun j hj => by obtain ⟨c, u, o, m, rfl⟩ := r5; exact keep _ _ _ _ j hj⟩
    · by_cases hroom : l.length + xs.length ≤ cap
      · obtain ⟨v, w', G', r1, r2, r3, r4, r5⟩ := append_room (ty := ty) wr kt kk hx ke hp src fx okl okx hroom o5 hup o1 rfl bt o3 o6 o7
        exact ⟨v, w', G', r1, r2, r3, r4, fun j hj => by obtain ⟨c, u, o, m, rfl⟩ := r5; exact keep _ _ _ _ j hj⟩
      · have hne : xs ≠ [] := fun e => by subst e; simp at hroom; omega
        have : 0 < xs.length := List.length_pos_iff.2 hne
        obtain ⟨v, w', G', r1, r2, r3, r4, r5⟩ := append_grow (ty := ty) wr kt kk hx ke hp src fx okl okx hmax hb (by omega) hup (fun u => .inr ⟨_, _, _, o1, by omega, fun e => by omega⟩)
        exact ⟨v, w', G', r1, r2, r3, r4, fun j hj => by obtain ⟨c, u, o, m, rfl⟩ := r5; exact keep _ _ _ _ j hj⟩

theorem append_fullS {P : Program} {B : Base} {G : Ghost} {H H' : List AObj} {w : World} (wr : WR B G H w) {t xt ty e es eb : Nat} {ti ei : TI} (kt : tinfo P t = some ti) (kk : ti.kind = .slice e es eb) (hx : ∃ d, P.underlying xt = some d ∧ ∀ q, d ≠ .int q) (ke : tinfo P e = some ei)
    {id : Nat} {l xs : List (List PV)} {sv xv : Value} (rs : RV G (.full l) sv) {news : List Value} (src : Src P w es xs.length xv news) (fx : Flat G.mem es xs news) (hid : G.obj id = none) (hup : Upd H H' id (.spare (l.length + xs.length) es)) (okl : okEs es l = true) (okx : okEs es xs = true) (hmax : l.length + xs.length ≤ maxLen) (hb : (l.length + xs.length) * eb ≤ 140737488355328) :
    ∃ v w' G', (Builtin.append_ #[t, xt] ty #[sv, xv]).run P w = .ok v w' ∧ GExt G G' ∧ WR B G' H' w' ∧ RV G' (.tok id (l ++ xs)) v ∧ ∀ j, j ≠ id → G.obj j = none → G'.obj j = none := by
  have keep : ∀ (c : Nat) (u : Value) (o : Option Nat) (m : Mem) (j : Nat), j ≠ id → G.obj j = none → (G.tok id c u o m).obj j = none := by
    intro c u o m j h hj
    simp [Ghost.tok, h, hj]
  cases rs with
  | @full _ ad n hp =>
    have hn : n = l.length := by obtain ⟨a', cap', e'⟩ := hp.slice_len; simp only [Value.slice.injEq] at e'; exact e'.2.1
    subst hn
    by_cases hz : xs = []
    · subst hz
      obtain ⟨v, w', G', r1, r2, r3, r4, r5⟩ := append_same (ty := ty) wr kt kk hx ke hp src fx (by simpa using hup) (.inl hid)
      exact ⟨v, w', G', r1, r2, r3, by simpa using r4, fun j h hj => by obtain ⟨c, u, o, m, rfl⟩ := r5; exact keep _ _ _ _ j h hj⟩
    · have : 0 < xs.length := List.length_pos_iff.2 hz
      obtain ⟨v, w', G', r1, r2, r3, r4, r5⟩ := append_grow (ty := ty) wr kt kk hx ke hp src fx okl okx hmax hb (by omega) hup (fun u => .inl hid)
      exact ⟨v, w', G', r1, r2, r3, r4, fun j h hj => by obtain ⟨c, u, o, m, rfl⟩ := r5; exact keep _ _ _ _ j h hj⟩

theorem append_tok_ok {P : Program} {B : Base} {G : Ghost} {H : List AObj} {w : World} (wr : WR B G H w) {t xt ty e es eb : Nat} {ti xi ei : TI} (kt : tinfo P t = some ti) (kk : ti.kind = .slice e es eb) (kx : tinfo P xt = some xi) (ke : tinfo P e = some ei)
    {id : Nat} {l xs : List (List PV)} {x : AV} {sv xv : Value} (rs : RV G (.tok id l) sv) (rx : RV G x xv) (hsrc : srcV xi.kind x = some xs) (hH : H[id]? = some (.spare l.length es)) (okl : okEs es l = true) (okx : okEs es xs = true) (hmax : l.length + xs.length ≤ maxLen) (hb : (l.length + xs.length) * eb ≤ 140737488355328) :
    ∃ v w' G', (Builtin.append_ #[t, xt] ty #[sv, xv]).run P w = .ok v w' ∧ GExt G G' ∧ WR B G' (H.set id (.spare (l.length + xs.length) es)) w' ∧ RV G' (.tok id (l ++ xs)) v ∧ ∀ j, G.obj j = none → G'.obj j = none :=
  let ⟨_, src, fx⟩ := srcV_ok (P := P) wr rx hsrc okx
  append_tokS wr kt kk (okInt_of_str kx hsrc) ke rs src fx hH okl okx hmax hb

theorem append_full_ok {P : Program} {B : Base} {G : Ghost} {H H' : List AObj} {w : World} (wr : WR B G H w) {t xt ty e es eb : Nat} {ti xi ei : TI} (kt : tinfo P t = some ti) (kk : ti.kind = .slice e es eb) (kx : tinfo P xt = some xi) (ke : tinfo P e = some ei)
    {id : Nat} {l xs : List (List PV)} {x : AV} {sv xv : Value} (rs : RV G (.full l) sv) (rx : RV G x xv) (hsrc : srcV xi.kind x = some xs) (hid : G.obj id = none) (hup : Upd H H' id (.spare (l.length + xs.length) es)) (okl : okEs es l = true) (okx : okEs es xs = true) (hmax : l.length + xs.length ≤ maxLen) (hb : (l.length + xs.length) * eb ≤ 140737488355328) :
    ∃ v w' G', (Builtin.append_ #[t, xt] ty #[sv, xv]).run P w = .ok v w' ∧ GExt G G' ∧ WR B G' H' w' ∧ RV G' (.tok id (l ++ xs)) v ∧ ∀ j, j ≠ id → G.obj j = none → G'.obj j = none :=
  let ⟨_, src, fx⟩ := srcV_ok (P := P) wr rx hsrc okx
  append_fullS wr kt kk (okInt_of_str kx hsrc) ke rs src fx hid hup okl okx hmax hb

theorem append_ok {P : Program} {B : Base} {G : Ghost} {A : AS} {w : World} (wr : WR B G A.H w) {dst : Option Nat} {t xt ty : TypeId} {s x : AV} {sv xv : Value} (rs : RV G s sv) (rx : RV G x xv) {K : AS → Prop} (h : appV P A dst t xt s x K) :
    ∃ v w' G' y H', (Builtin.append_ #[t, xt] ty #[sv, xv]).run P w = .ok v w' ∧ GExt G G' ∧ WR B G' H' w' ∧ RV G' y v ∧ K ⟨putT A.T dst y, H'⟩ := by
  unfold appV at h
  obtain ⟨ti, kt, h⟩ := need_iff.1 h
  obtain ⟨xi, kx, h⟩ := need_iff.1 h
  split at h <;> try (exact h.elim)
  rename_i e es eb kk
  obtain ⟨ei, ke, h⟩ := need_iff.1 h
  obtain ⟨xs, hsrc, h⟩ := need_iff.1 h
  cases s with
  | tok id l =>
    obtain ⟨hH, okl, okx, hmax, hb, hk⟩ := h
    obtain ⟨v, w', G', r1, r2, r3, r4, _⟩ := append_tok_ok (ty := ty) wr kt kk kx ke rs rx hsrc hH okl okx hmax hb
    exact ⟨v, w', G', _, _, r1, r2, r3, r4, hk⟩
  | full l =>
    obtain ⟨okl, okx, hmax, hb, hk⟩ := h
    obtain ⟨v, w', G', r1, r2, r3, r4, _⟩ := append_full_ok (ty := ty) wr kt kk kx ke rs rx hsrc (wr.dom _ (Nat.le_refl _)) (Upd.push A.H _) okl okx hmax hb
    exact ⟨v, w', G', _, _, r1, r2, r3, r4, hk⟩
  | _ => exact h.elim

end Go.Proofs.Ytaaocppaepnhbaa
