/- Regions in the order of the text, code, loops; functions by their bodies; contracts. Own work; no condition. -/
import Derived.Test.YtaaocppaepnhbaaAbs12
namespace Go.Proofs.Ytaaocppaepnhbaa
open Go Go.RowKit

def guardV (ops : List Oper) (T : List (Nat × AV)) (j : Nat) : Option Bool :=
  match ((ops[j]?).bind (·.dst)).bind (look T) with
  | some (.p (.bool b)) => some b
  | _ => none

def dstOf (ops : List Oper) (j : Nat) : Option Nat := (ops[j]?).bind (·.dst)

/-- Two ways, told by a truth value. -/
def br (b want : Bool) (X Y : Prop) : Prop := (b = want → X) ∧ (b = (!want) → Y)
theorem br_tt {X Y : Prop} : br true true X Y = X := by simp [br]
theorem br_ff {X Y : Prop} : br false false X Y = X := by simp [br]
theorem br_tf {X Y : Prop} : br true false X Y = Y := by simp [br]
theorem br_ft {X Y : Prop} : br false true X Y = Y := by simp [br]
theorem br_congr {b b' want : Bool} {X Y : Prop} (h : b = b') : br b want X Y = br b' want X Y := by rw [h]
attribute [congr] br_congr
theorem br_intro {b want : Bool} {X Y : Prop} (h1 : b = want → X) (h2 : b = (!want) → Y) : br b want X Y := ⟨h1, h2⟩

def wops (P : Program) (ops : List Oper) : List Oper → AS → (AS → Prop) → Prop
  | [], A, K => K A
  | o :: r, A, K => match o.guard with
    | none => wop P o A fun A' => wops P ops r A' K
    | some (j, want) => need (guardV ops A.T j) fun b => br b want (wop P o ⟨putT A.T (dstOf ops j) (.p (.bool want)), A.H⟩ fun A' => wops P ops r A' K)
        (wops P ops r ⟨putT (putT A.T (dstOf ops j) (.p (.bool (!want)))) o.dst .un, A.H⟩ K)

def dstOk (nt : Nat) (ops : List Oper) : Bool := ops.all fun o => match o.dst with | some d => decide (d < nt) | none => true

theorem guard_ok {nt : Nat} {G : Ghost} {T : List (Nat × AV)} {a : Act} (tr : TR nt G T a) {ops : Array Oper} {j : Nat} {b : Bool} (h : guardV ops.toList T j = some b) : yielded ops a.tmps j = some b := by
  unfold guardV at h
  split at h <;> try (cases h; done)
  rename_i b' hb
  simp only [Option.some.injEq] at h; subst h
  rw [Option.bind_eq_some_iff] at hb
  obtain ⟨t, ht, hl⟩ := hb
  obtain ⟨v, h1, h2⟩ := tr.slots t _ hl
  have := p_bool h2
  subst this
  have ht' : (ops[j]?).bind (·.dst) = some t := by simpa using ht
  unfold yielded
  rw [ht']
  simp only [Option.bind_some, h1]

/-- A slot that is known to hold a value may be told so once more. -/
theorem guard_tr {nt : Nat} {G : Ghost} {T : List (Nat × AV)} {a : Act} (tr : TR nt G T a) {ops : List Oper} {j : Nat} {b : Bool} (h : guardV ops T j = some b) : TR nt G (putT T (dstOf ops j) (.p (.bool b))) a := by
  unfold guardV at h
  split at h <;> try (cases h; done)
  rename_i b' hb
  simp only [Option.some.injEq] at h; subst h
  rw [Option.bind_eq_some_iff] at hb
  obtain ⟨t, ht, hl⟩ := hb
  have e : dstOf ops j = some t := ht
  rw [e]
  refine ⟨tr.size, tr.defers, fun t' x hx => ?_⟩
  simp only [putT, look] at hx
  split at hx
  · rename_i e'; subst e'
    simp only [Option.some.injEq] at hx; subst hx
    exact tr.slots _ _ hl
  · exact tr.slots t' x hx

theorem wops_ok {P : Program} {nt : Nat} {ops : Array Oper} {B : Base} {Q : Exit → Act → World → Prop} {K : AS → Prop} (hdst : dstOk nt ops.toList = true) :
    ∀ (rest : List Oper) (i : Nat) (A : AS) (G : Ghost) (a : Act) (w : World), rest = ops.toList.drop i → TR nt G A.T a → WR B G A.H w → wops P ops.toList rest A K →
      (∀ G' a' w', GExt G G' → Nx B nt G' K a' w' → Q .normal a' w') → wpOps P ops Q (List.range' i (ops.size - i)) a w := by
  intro rest
  induction rest with
  | nil =>
    intro i A G a w hr tr wr h hq
    have hi : ops.size ≤ i := by
      have := congrArg List.length hr
      simp at this; omega
    rw [show ops.size - i = 0 by omega]
    exact hq G a w (GExt.refl G) ⟨G, A, GExt.refl G, tr, wr, h⟩
  | cons o rest ih =>
    intro i A G a w hr tr wr h hq
    have hi : i < ops.size := by
      rcases Nat.lt_or_ge i ops.size with g | g
      · exact g
      · rw [List.drop_eq_nil_of_le (by simpa using g)] at hr; cases hr
    have ho : ops[i]? = some o := by
      have : (ops.toList.drop i)[0]? = some o := by rw [← hr]; rfl
      simpa using this
    have hrest : rest = ops.toList.drop (i + 1) := by
      have := congrArg List.tail hr
      simpa using this
    have hd : ∀ d, o.dst = some d → d < nt := by
      intro d hd
      have := List.all_eq_true.1 hdst o (List.mem_of_getElem? (by simpa using ho : ops.toList[i]? = some o))
      rw [hd] at this; simpa using this
    have e : List.range' i (ops.size - i) = i :: List.range' (i + 1) (ops.size - (i + 1)) := by
      rw [show ops.size - i = (ops.size - (i + 1)) + 1 by omega, List.range'_succ]
    rw [e, wpOps_cons]
    unfold wpOp
    simp only [ho]
    have next : ∀ G' (A' : AS) a' w', GExt G G' → TR nt G' A'.T a' → WR B G' A'.H w' → wops P ops.toList rest A' K → wpOps P ops Q (List.range' (i + 1) (ops.size - (i + 1))) a' w' := by
      intro G' A' a' w' ext tr' wr' h'
      exact ih (i + 1) A' G' a' w' hrest tr' wr' h' (fun G2 a2 w2 e2 n2 => hq G2 a2 w2 (ext.trans e2) n2)
    have run : ∀ A1 : AS, TR nt G A1.T a → A1.H = A.H → wop P o A1 (fun A' => wops P ops.toList rest A' K) → o.wp P a w (wpOps P ops Q (List.range' (i + 1) (ops.size - (i + 1)))) Q := by
      intro A1 tr1 hH hw
      exact Oper.wp_mono (fun a' w' ⟨G', A', e1, e2, e3, e4⟩ => next G' A' a' w' e1 e2 e3 e4) (wop_ok tr1 (hH ▸ wr) hd hw Q)
    simp only [wops] at h
    split at h
    · rename_i hg
      have hw : Region.wanted o (yielded ops a.tmps) = true := by simp [Region.wanted, hg]
      rw [if_pos hw]
      exact .inl (run A tr rfl h)
    · rename_i j want hg
      obtain ⟨b, hb, h1, h2⟩ := need_iff.1 h
      have hy := guard_ok tr hb
      by_cases hbw : b = want
      · have hw : Region.wanted o (yielded ops a.tmps) = true := by simp [Region.wanted, hg, hy, hbw]
        rw [if_pos hw]
        have t1 := guard_tr tr hb
        rw [hbw] at t1
        exact .inl (run ⟨putT A.T (dstOf ops.toList j) (.p (.bool want)), A.H⟩ t1 rfl (h1 hbw))
      · have hw : ¬ Region.wanted o (yielded ops a.tmps) = true := by simp [Region.wanted, hg, hy, hbw]
        rw [if_neg hw]
        have hb' : b = !want := by cases b <;> cases want <;> simp at hbw ⊢
        have t1 := guard_tr tr hb
        rw [hb'] at t1
        exact next G ⟨putT (putT A.T (dstOf ops.toList j) (.p (.bool (!want)))) o.dst .un, A.H⟩ _ w (GExt.refl G) (t1.put o.dst .un undef hd (.un _)) wr (h2 hb')

/-- What a piece of code does, on abstract states. -/
def Wp (P : Program) (nt : Nat) (c : Code) (Q : Exit → AS → Prop) (A : AS) : Prop :=
  ∀ B G a w, TR nt G A.T a → WR B G A.H w → c.wp P (fun e a' w' => ∃ G' A', GExt G G' ∧ TR nt G' A'.T a' ∧ WR B G' A'.H w' ∧ Q e A') a w

def Th (K : AS → Prop) (Q : Exit → AS → Prop) : Exit → AS → Prop
  | .normal, A => K A
  | e, A => Q e A
def Bl (id : Nat) (Q : Exit → AS → Prop) : Exit → AS → Prop
  | .exit i, A => if i = id then Q .normal A else Q (.exit i) A
  | e, A => Q e A

section
variable {P : Program} {nt : Nat} {Q : Exit → AS → Prop} {A : AS}

theorem Wp.mono {c : Code} {Q' : Exit → AS → Prop} (h : Wp P nt c Q A) (hq : ∀ e A', Q e A' → Q' e A') : Wp P nt c Q' A :=
  fun B G a w tr wr => wp_mono (h B G a w tr wr) fun _ _ _ ⟨G', A', h1, h2, h3, h4⟩ => ⟨G', A', h1, h2, h3, hq _ _ h4⟩

theorem Wp.skip (h : Q .normal A) : Wp P nt .skip Q A := fun _ G _ _ tr wr => wp_skip ⟨G, A, GExt.refl G, tr, wr, h⟩
theorem Wp.ret (h : Q .ret A) : Wp P nt .ret Q A := fun _ G _ _ tr wr => wp_ret ⟨G, A, GExt.refl G, tr, wr, h⟩
theorem Wp.exit {id : Nat} (h : Q (.exit id) A) : Wp P nt (.exit id) Q A := fun _ G _ _ tr wr => wp_exit ⟨G, A, GExt.refl G, tr, wr, h⟩

theorem Wp.seq {x y : Code} (h : ∀ K : AS → Prop, (∀ A', Wp P nt y Q A' → K A') → Wp P nt x (Th K Q) A) : Wp P nt (.seq x y) Q A := by
  intro B G a w tr wr
  refine wp_seq (wp_mono (h (fun A' => Wp P nt y Q A') (fun _ h => h) B G a w tr wr) ?_)
  rintro e a' w' ⟨G', A', h1, h2, h3, h4⟩
  cases e with
  | normal => exact wp_mono (h4 B G' a' w' h2 h3) fun _ _ _ ⟨G2, A2, k1, k2, k3, k4⟩ => ⟨G2, A2, h1.trans k1, k2, k3, k4⟩
  | _ => exact ⟨G', A', h1, h2, h3, h4⟩

theorem Wp.seq' {x y : Code} (h : Wp P nt x (Th (fun A' => Wp P nt y Q A') Q) A) : Wp P nt (.seq x y) Q A :=
  Wp.seq fun _ hK => h.mono fun e A' hq => by cases e <;> first | exact hK _ hq | exact hq

/-- For the walk: of a piece of code only its state is rewritten. -/
theorem Wp.congr {c : Code} {A A' : AS} (h : A = A') : Wp P nt c Q A = Wp P nt c Q A' := by rw [h]
attribute [congr] Wp.congr

theorem Wp.cond {c : Operand} {x y : Code} {b : Bool} (hc : ev A.T c = some (.p (.bool b))) (ht : b = true → Wp P nt x Q A) (hf : b = false → Wp P nt y Q A) : Wp P nt (.cond c x y) Q A := by
  intro B G a w tr wr
  exact wp_cond_split (p_bool (ev_ok tr hc)) (fun e => ht e B G a w tr wr) (fun e => hf e B G a w tr wr)

theorem Wp.block {id : Nat} {c : Code} (h : Wp P nt c (Bl id Q) A) : Wp P nt (.block id c) Q A := by
  intro B G a w tr wr
  refine wp_block (wp_mono (h B G a w tr wr) ?_)
  rintro e a' w' ⟨G', A', h1, h2, h3, h4⟩
  cases e with
  | exit i =>
    simp only [Bl] at h4
    simp only [Exit.inBlock]
    split at h4
    · rename_i e; rw [if_pos e]; exact ⟨G', A', h1, h2, h3, h4⟩
    · rename_i e; rw [if_neg e]; exact ⟨G', A', h1, h2, h3, h4⟩
  | _ => exact ⟨G', A', h1, h2, h3, h4⟩

theorem Wp.region {id : Nat} {ops : Array Oper} (hdst : dstOk nt ops.toList = true) (h : wops P ops.toList ops.toList A (Q .normal)) : Wp P nt (.region id ops false) Q A := by
  intro B G a w tr wr
  refine wp_region ?_
  have := wops_ok (P := P) (nt := nt) (B := B) (ops := ops) (K := Q .normal) (Q := fun e a' w' => ∃ G' A', GExt G G' ∧ TR nt G' A'.T a' ∧ WR B G' A'.H w' ∧ Q e A') hdst ops.toList 0 A G a w (by simp) tr wr h
    (fun G' a' w' e1 ⟨G2, A2, k1, k2, k3, k4⟩ => ⟨G2, A2, e1.trans k1, k2, k3, k4⟩)
  simpa [List.range_eq_range'] using this

/-- Fewer slots are looked at. -/
def subT (T T' : List (Nat × AV)) : Prop := ∀ t x, look T' t = some x → look T t = some x

theorem Wp.sub {c : Code} {T : List (Nat × AV)} (hs : subT A.T T) (h : Wp P nt c Q ⟨T, A.H⟩) : Wp P nt c Q A :=
  fun B G a w tr wr => h B G a w ⟨tr.size, tr.defers, fun t x hx => tr.slots t x (hs t x hx)⟩ wr

/-- A loop: states that are told by an index; each round goes to one with a smaller number. -/
theorem Wp.loop {ι : Type} {c : Code} (inv : ι → AS) (ok : ι → Prop) (μ : ι → Nat) (i₀ : ι) (h0 : ok i₀) (hT : subT A.T (inv i₀).T) (hH : A.H = (inv i₀).H)
    (round : ∀ i, ok i → Wp P nt c (Th (fun A' => ∃ i', ok i' ∧ μ i' < μ i ∧ subT A'.T (inv i').T ∧ A'.H = (inv i').H) Q) (inv i)) : Wp P nt (.loop c) Q A := by
  intro B G a w tr wr
  have start : TR nt G (inv i₀).T a := ⟨tr.size, tr.defers, fun t x hx => tr.slots t x (hT t x hx)⟩
  refine wp_loop_ghost (fun n a w => ∃ i G', ok i ∧ μ i = n ∧ GExt G G' ∧ TR nt G' (inv i).T a ∧ WR B G' (inv i).H w) (μ i₀) ⟨i₀, G, h0, rfl, GExt.refl G, start, hH ▸ wr⟩ ?_
  rintro n a w ⟨i, G', hi, rfl, ext, tr', wr'⟩
  refine wp_mono (round i hi B G' a w tr' wr') ?_
  rintro e a' w' ⟨G2, A2, k1, k2, k3, k4⟩
  cases e with
  | normal =>
    obtain ⟨i', o1, o2, o3, o4⟩ := k4
    exact ⟨μ i', o2, i', G2, o1, rfl, ext.trans k1, ⟨k2.size, k2.defers, fun t x hx => k2.slots t x (o3 t x hx)⟩, o4 ▸ k3⟩
  | _ => exact ⟨G2, A2, ext.trans k1, k2, k3, k4⟩
end

/-! ### functions -/
def mkT : Nat → List AV → List (Nat × AV)
  | _, [] => []
  | n, x :: r => (n, x) :: mkT (n + 1) r

theorem look_mkT : ∀ (xs : List AV) (n t : Nat) (x : AV), look (mkT n xs) t = some x → n ≤ t ∧ xs[t - n]? = some x := by
  intro xs
  induction xs with
  | nil => intro n t x h; simp [mkT, look] at h
  | cons y xs ih =>
    intro n t x h
    simp only [mkT, look] at h
    split at h
    · rename_i e; subst e
      simp only [Option.some.injEq] at h; subst h
      exact ⟨Nat.le_refl _, by simp⟩
    · rename_i e
      obtain ⟨h1, h2⟩ := ih (n + 1) t x h
      refine ⟨by omega, ?_⟩
      rw [show t - n = (t - (n + 1)) + 1 by omega, List.getElem?_cons_succ]; exact h2

def resV (P : Program) (A : AS) : ResultVar → Option AV
  | .tmp t => look A.T t
  | .cell t ty => match tinfo P ty, look A.T t with
    | some ti, some p => ldV A.H ti p
    | _, _ => none

def packV : List AV → AV
  | [x] => x
  | xs => .tup xs

theorem asAddr_ok {G : Ghost} {p : AV} {pv : Value} {H : List AObj} {ti : TI} {x : AV} (rp : RV G p pv) (h : ldV H ti p = some x) : ∃ a, pv = .pointer (some a) := by
  unfold ldV at h
  split at h
  · exact ref_ptr rp
  · exact p_ip rp
  · cases h

def resOne (tmps : Array Value) : ResultVar → Sem Value
  | .tmp t => pure (tmps.getD t undef)
  | .cell q t => do loadVar t (← asAddr (tmps.getD q undef))

theorem results_eq (fn : Func) (tmps : Array Value) : results fn tmps = (do let vs ← fn.results.mapM (resOne tmps); pure (if h : vs.size = 1 then vs[0] else .tuple vs)) := rfl

theorem results_ok {P : Program} {nt : Nat} {B : Base} {G : Ghost} {A : AS} {a : Act} {w : World} (tr : TR nt G A.T a) (wr : WR B G A.H w) {fn : Func} {rs : List AV} (h : fn.results.toList.mapM (resV P A) = some rs) :
    ∃ v, (results fn a.tmps).run P w = .ok v w ∧ RV G (packV rs) v := by
  have one : ∀ (r : ResultVar) x, resV P A r = some x → ∃ v, (resOne a.tmps r).run P w = .ok v w ∧ RV G x v := by
    intro r x hr
    cases r with
    | tmp t =>
      obtain ⟨v, h1, h2⟩ := tr.slots t x hr
      exact ⟨v, by simp [resOne, h1], h2⟩
    | cell t ty =>
      simp only [resV] at hr
      split at hr <;> try (cases hr; done)
      rename_i ti p hti hp
      obtain ⟨pv, h1, h2⟩ := tr.slots t p hp
      obtain ⟨ad, rfl⟩ := asAddr_ok h2 hr
      obtain ⟨v, r1, r2⟩ := ldV_ok hti wr h2 hr
      refine ⟨v, ?_, r2⟩
      have e : a.tmps.getD t undef = .pointer (some ad) := by simp [h1]
      simp only [resOne, e, asAddr, Sem.run_bind, Sem.run_pure, Result.andThen_ok]
      simpa [Instr.loadAt, Instr.sureAddr] using r1
  have all : ∀ (l : List ResultVar) (rs : List AV), l.mapM (resV P A) = some rs → ∃ vs : List Value, (l.mapM (resOne a.tmps)).run P w = .ok vs w ∧ RVL G rs vs := by
    intro l
    induction l with
    | nil => intro rs h; simp at h; subst h; exact ⟨[], by simp, rfl, fun i x v h => by simp at h⟩
    | cons r l ih =>
      intro rs h
      simp only [List.mapM_cons, Option.pure_def, Option.bind_eq_bind, Option.bind_eq_some_iff, Option.some.injEq] at h
      obtain ⟨x, hx, xs, hxs, rfl⟩ := h
      obtain ⟨v, h1, h2⟩ := one r x hx
      obtain ⟨vs, h3, h4, h5⟩ := ih xs hxs
      refine ⟨v :: vs, ?_, by simp [h4], fun i y u hy hu => ?_⟩
      · simp only [List.mapM_cons, Sem.run_bind, h1, Result.andThen_ok, h3, Sem.run_pure]
      · cases i with
        | zero => simp at hy hu; subst hy hu; exact h2
        | succ i => exact h5 i y u (by simpa using hy) (by simpa using hu)
  obtain ⟨vs, h1, h2, h3⟩ := all _ _ h
  have hm : (fn.results.mapM (resOne a.tmps)).run P w = .ok vs.toArray w := by
    rw [Array.mapM_eq_mapM_toList]
    simp only [Sem.run_map, h1, Result.andThen_ok]
  cases rs with
  | nil =>
    have : vs = [] := List.eq_nil_of_length_eq_zero (by simpa using h2)
    subst this
    refine ⟨.tuple #[], ?_, .tup rfl (fun i c v hc => by simp at hc)⟩
    simp only [results_eq, Sem.run_bind, hm, Result.andThen_ok]; simp
  | cons r1 rr =>
    cases rr with
    | nil =>
      obtain ⟨v, rfl⟩ : ∃ v, vs = [v] := by
        match vs, h2 with
        | [v], _ => exact ⟨v, rfl⟩
      · refine ⟨v, ?_, h3 0 r1 v rfl rfl⟩
        simp only [results_eq, Sem.run_bind, hm, Result.andThen_ok]; simp
    | cons r2 rr =>
      refine ⟨.tuple vs.toArray, ?_, .tup (by simpa using h2) (fun i c v hc hv => h3 i c v hc (by simpa using hv))⟩
      simp only [results_eq, Sem.run_bind, hm, Result.andThen_ok]
      have : ¬ vs.length = 1 := by rw [h2]; simp
      simp [this]

def Fin (P : Program) (res : List ResultVar) (Q : AV → List AObj → Prop) : Exit → AS → Prop
  | .normal, A | .ret, A => need (res.mapM (resV P A)) fun rs => Q (packV rs) A.H
  | _, _ => False

/-- A call goes through the body. -/
theorem ACall.body {P : Program} {f : FuncId} {fn : Func} {c : Code} {nt : Nat} {res : List ResultVar} {args : List AV} {H : List AObj} {Q : AV → List AObj → Prop} (hf : P.funcs[f]? = some fn) (hb : fn.body = some c) (hnt : fn.ntmps = nt) (hres : fn.results.toList = res) (hcal : callable P f = true) (hn : args.length ≤ nt)
    (h : Wp P nt c (Fin P res Q) ⟨mkT 0 args, H⟩) : ACall P f args H Q := by
  subst hnt hres
  refine ⟨fun B G w vals wr rv => Runs.of_calls hcal (calls_of_wp hf hb ?_)⟩
  have tr : TR fn.ntmps G (mkT 0 args) { tmps := vals.toArray ++ Array.replicate (fn.ntmps - vals.toArray.size) undef, defers := [] } := by
    refine ⟨by simp; have := rv.1; omega, rfl, fun t x hx => ?_⟩
    obtain ⟨_, h2⟩ := look_mkT _ _ _ _ hx
    simp only [Nat.sub_zero] at h2
    have hlt : t < args.length := (List.getElem?_eq_some_iff.1 h2).1
    have hlt' : t < vals.length := by rw [rv.1]; exact hlt
    refine ⟨vals[t], ?_, rv.2 t x _ h2 (List.getElem?_eq_getElem hlt')⟩
    rw [Array.getElem?_append_left (by simpa using hlt')]
    simp [hlt']
  refine wp_mono (h B G _ w tr wr) ?_
  rintro e a' w' ⟨G', A', h1, h2, h3, h4⟩
  have fin : need (fn.results.toList.mapM (resV P A')) (fun rs => Q (packV rs) A'.H) → a'.defers = [] ∧ ∃ v, (results fn a'.tmps).run P w' = .ok v w' ∧ ∃ v' r G'' H', Ending.returned v = .returned v' ∧ RV G'' r v' ∧ GExt G G'' ∧ WR B G'' H' w' ∧ Q r H' := by
    intro hq
    obtain ⟨rs, hrs, hq⟩ := need_iff.1 hq
    obtain ⟨v, r1, r2⟩ := results_ok h2 h3 hrs
    exact ⟨h2.defers, v, r1, v, _, G', A'.H, rfl, r2, h1, h3, hq⟩
  cases e with
  | normal => exact fin h4
  | ret => exact fin h4
  | _ => exact h4.elim

/-- A call on pure values: what comes back is pure; nothing else is seen. -/
structure PCall (P : Program) (f : FuncId) (args : List PV) (Q : List PV → Prop) : Prop where
  run : ∀ (m : Mem) (w : World) (vals : List Value), (∀ b o v, m b o = some v → w.cell? ⟨b, o, none⟩ = some v) → (vals.length = args.length ∧ ∀ (i : Nat) x v, args[i]? = some x → vals[i]? = some v → RP m x v) →
    Runs P f vals.toArray w fun e w' => ∃ v rs m', e = .returned v ∧ RV ⟨m', fun _ => none⟩ (packV (rs.map .p)) v ∧ (∀ b o v, m b o = some v → m' b o = some v) ∧ (∀ b o v, m' b o = some v → w'.cell? ⟨b, o, none⟩ = some v) ∧
      (∀ b o v, m' b o = some v → m b o = some v ∨ w.heap.size ≤ b) ∧ Below w.heap.size w w' ∧ Q rs

theorem PCall.mono {P : Program} {f : FuncId} {args : List PV} {Q Q' : List PV → Prop} (h : PCall P f args Q) (hq : ∀ r, Q r → Q' r) : PCall P f args Q' :=
  ⟨fun m w vals h1 h2 => (h.run m w vals h1 h2).mono fun _ _ ⟨v, rs, m', e1, e2, e3, e4, e5, e6, e7⟩ => ⟨v, rs, m', e1, e2, e3, e4, e5, e6, hq _ e7⟩⟩

def FinP (P : Program) (res : List ResultVar) (Q : List PV → Prop) : Exit → AS → Prop
  | .normal, A | .ret, A => need (res.mapM (resV P A)) fun rs => need (rs.mapM AV.pure) Q
  | _, _ => False

theorem packV_pure {G : Ghost} {rs : List AV} {ps : List PV} {v : Value} (h : rs.mapM AV.pure = some ps) (r : RV G (packV rs) v) : RV ⟨G.mem, fun _ => none⟩ (packV (ps.map .p)) v := by
  obtain ⟨h1, h2⟩ := mapM_get h
  match rs, ps, h1 with
  | [], [], _ => cases r with | tup hl hr => exact .tup hl (fun i c v hc => by simp at hc)
  | [x], [y], _ => exact .p (pure_ok (G := G) r (h2 0 x y rfl rfl))
  | x :: x2 :: xs, y :: y2 :: ys, h1 =>
    cases r with
    | tup hl hr =>
      refine .tup (by simp at h1 hl ⊢; omega) (fun i c v hc hv => ?_)
      rw [← List.map_cons] at hc
      rw [List.getElem?_map, Option.map_eq_some_iff] at hc
      obtain ⟨c', hc', rfl⟩ := hc
      have hlt : i < (x :: x2 :: xs).length := by rw [h1]; exact (List.getElem?_eq_some_iff.1 hc').1
      have hx := List.getElem?_eq_getElem hlt
      exact .p (pure_ok (G := G) (hr i _ v hx hv) (h2 i _ c' hx hc'))

theorem PCall.body {P : Program} {f : FuncId} {fn : Func} {c : Code} {nt : Nat} {res : List ResultVar} {args : List PV} {Q : List PV → Prop} (hf : P.funcs[f]? = some fn) (hb : fn.body = some c) (hnt : fn.ntmps = nt) (hres : fn.results.toList = res) (hcal : callable P f = true) (hn : args.length ≤ nt)
    (h : Wp P nt c (FinP P res Q) ⟨mkT 0 (args.map .p), []⟩) : PCall P f args Q := by
  subst hnt hres
  refine ⟨fun m w vals hm hv => ?_⟩
  have wr : WR ⟨w, m, fun _ => none⟩ ⟨m, fun _ => none⟩ [] w := ⟨Below.refl _ _, hm, fun _ _ _ h => .inl h, fun _ _ _ h => h, fun id x h => by simp at h, fun i j x y b h => (by cases h), fun i x b h => (by cases h), fun _ _ => rfl, fun b x f h => (by cases h), fun i x b h => (by cases h)⟩
  have rv : RVL ⟨m, fun _ => none⟩ (args.map .p) vals := ⟨by simpa using hv.1, fun i x v hx hv' => by
    rw [List.getElem?_map, Option.map_eq_some_iff] at hx
    obtain ⟨y, hy, rfl⟩ := hx
    exact .p (hv.2 i y v hy hv')⟩
  have h' : Wp P fn.ntmps c (Fin P fn.results.toList fun r _ => ∃ rs ps, r = packV rs ∧ rs.mapM AV.pure = some ps ∧ Q ps) ⟨mkT 0 (args.map .p), []⟩ := by
    refine h.mono fun e A' hq => ?_
    have key : need (fn.results.toList.mapM (resV P A')) (fun rs => need (rs.mapM AV.pure) Q) → need (fn.results.toList.mapM (resV P A')) (fun rs => ∃ rs' ps, packV rs = packV rs' ∧ rs'.mapM AV.pure = some ps ∧ Q ps) := by
      intro hq
      obtain ⟨rs, h1, h2⟩ := need_iff.1 hq
      obtain ⟨ps, h3, h4⟩ := need_iff.1 h2
      exact need_iff.2 ⟨rs, h1, rs, ps, rfl, h3, h4⟩
    cases e <;> first | exact key hq | exact hq.elim
  have hc := (ACall.body hf hb rfl rfl hcal (by simpa using hn) h').run ⟨w, m, fun _ => none⟩ ⟨m, fun _ => none⟩ w vals wr rv
  refine hc.mono fun e w' ⟨v, r, G', H', e1, e2, e3, e4, rs, ps, e5, e6, e7⟩ => ?_
  subst e5
  exact ⟨v, ps, G'.mem, e1, packV_pure e6 e2, e3.mem, e4.mem, e4.news, e4.below, e7⟩

theorem ACall.congr {P : Program} {f : FuncId} {args args' : List AV} {H H' : List AObj} {Q : AV → List AObj → Prop} (h : args = args') (h' : H = H') : ACall P f args H Q = ACall P f args' H' Q := by rw [h, h']
attribute [congr] ACall.congr

/-- A pure contract at a call: the caller's heap stays. -/
theorem PCall.at_ {P : Program} {f : FuncId} {pargs : List PV} {Q : List PV → Prop} (h : PCall P f pargs Q) {B : Base} {G : Ghost} {H : List AObj} {w : World} (wr : WR B G H w) {vals : List Value} (hv : vals.length = pargs.length ∧ ∀ (i : Nat) x v, pargs[i]? = some x → vals[i]? = some v → RP G.mem x v) :
    Runs P f vals.toArray w fun e w' => ∃ v rs G', e = .returned v ∧ RV G' (packV (rs.map .p)) v ∧ GExt G G' ∧ WR B G' H w' ∧ G'.obj = G.obj ∧ Q rs := by
  refine (h.run G.mem w vals wr.mem hv).mono ?_
  rintro e w' ⟨v, rs, m', e1, e2, e3, e4, e5, e6, e7⟩
  have ext : GExt G ⟨m', G.obj⟩ := ⟨e3, fun _ _ h => h, fun _ c u o h => ⟨c, u, o, h, Nat.le_refl _, fun _ => rfl⟩, fun _ c u o k cv s h => ⟨c, u, o, k, cv, s, h, Nat.le_refl _, fun _ => rfl, Nat.le_refl _, fun _ => rfl⟩⟩
  have ext2 : GExt ⟨m', fun _ => none⟩ ⟨m', G.obj⟩ := ⟨fun _ _ _ h => h, fun _ _ h => (by cases h), fun _ _ _ _ h => (by cases h), fun _ _ _ _ _ _ _ h => (by cases h)⟩
  have hle := wr.below.size
  refine ⟨v, rs, ⟨m', G.obj⟩, e1, e2.mono ext2, ext, ⟨wr.below.trans (e6.mono hle), e4, fun b o v hv => ?_, fun b o v hv => e3 _ _ _ (wr.olds b o v hv), fun id x hx => ?_, wr.sep, fun i x b hi hb => ?_, wr.dom, fun b x f hb => ?_, wr.apart⟩, rfl, e7⟩
  · rcases e5 b o v hv with h1 | h1
    · exact wr.news b o v h1
    · exact .inr (by omega)
  · refine (wr.objs id x hx).keep ext rfl (fun g b hg hb => e6.block b (wr.fresh id g b hg hb).2) (fun g b o hg hb => ?_)
    have hlt := (wr.fresh id g b hg hb).2
    cases hv : G.mem b o with
    | some v => exact e3 _ _ _ hv
    | none =>
      cases hv' : m' b o with
      | none => exact hv'
      | some v =>
        rcases e5 b o v hv' with h1 | h1
        · rw [hv] at h1; cases h1
        · omega
  · have := wr.fresh i x b hi hb
    exact ⟨this.1, Nat.lt_of_lt_of_le this.2 e6.size⟩
  · have hlt := wr.pr_lt hb
    obtain ⟨h1, h2⟩ := wr.keep b x f hb
    refine ⟨by rw [e6.block b hlt]; exact h1, ?_⟩
    rw [← h2]; funext o
    show m' b o = G.mem b o
    cases hv : G.mem b o with
    | some v => exact e3 _ _ _ hv
    | none =>
      cases hv' : m' b o with
      | none => rfl
      | some v =>
        rcases e5 b o v hv' with h1 | h1
        · rw [hv] at h1; cases h1
        · omega

theorem pures_ok {G : Ghost} {args : List AV} {pargs : List PV} {vals : List Value} (ha : args.mapM AV.pure = some pargs) (rv : RVL G args vals) : vals.length = pargs.length ∧ ∀ (i : Nat) x v, pargs[i]? = some x → vals[i]? = some v → RP G.mem x v := by
  obtain ⟨a1, a2⟩ := mapM_get ha
  refine ⟨by rw [rv.1, a1], fun i x v hx hv => ?_⟩
  have hlt : i < args.length := by rw [a1]; exact (List.getElem?_eq_some_iff.1 hx).1
  have hy := List.getElem?_eq_getElem hlt
  exact pure_ok (rv.2 i _ v hy hv) (a2 i _ x hy hx)

theorem ACall.pure {P : Program} {f : FuncId} {args : List AV} {pargs : List PV} {H : List AObj} {Q : List PV → Prop} {Q' : AV → List AObj → Prop} (ha : args.mapM AV.pure = some pargs) (h : PCall P f pargs Q) (hq : ∀ rs, Q rs → Q' (packV (rs.map .p)) H) : ACall P f args H Q' :=
  ⟨fun _ _ _ _ wr rv => (h.at_ wr (pures_ok ha rv)).mono fun _ _ ⟨v, rs, G', e1, e2, e3, e4, _, e6⟩ => ⟨v, _, G', _, e1, e2, e3, e4, hq rs e6⟩⟩

theorem ACall.eq {P : Program} {f : FuncId} {args : List AV} {pargs : List PV} {H : List AObj} {X : List PV} {Q' : AV → List AObj → Prop} (ha : args.mapM AV.pure = some pargs) (h : PCall P f pargs fun r => r = X) (hq : Q' (packV (X.map .p)) H) : ACall P f args H Q' :=
  ACall.pure ha h fun _ e => e ▸ hq

/-- A list that is handed back as the caller's own: nobody else says anything of the cells behind it. -/
def Owns (w : World) (m' : Mem) (w' : World) (n es : Nat) (v : Value) (own : Option Nat) : Prop :=
  (own = none ∧ ∃ a, v = .slice a n n) ∨ ∃ b arr t cap, own = some b ∧ w.heap.size ≤ b ∧ v = .slice (some ⟨b, 0, none⟩) n cap ∧ w'.heap[b]? = some (.cells arr t (0, 0)) ∧ n ≤ cap ∧ cap ≤ maxLen ∧ arr.size = cap * es ∧ ∀ o, n * es ≤ o → m' b o = none
structure TCall (P : Program) (f : FuncId) (args : List PV) (Q : List (List PV) → Prop) (es : Nat) : Prop where
  run : ∀ (m : Mem) (w : World) (vals : List Value), (∀ b o v, m b o = some v → w.cell? ⟨b, o, none⟩ = some v) → (vals.length = args.length ∧ ∀ (i : Nat) x v, args[i]? = some x → vals[i]? = some v → RP m x v) →
    Runs P f vals.toArray w fun e w' => ∃ v L own m', e = .returned v ∧ RP m' (.sl L) v ∧ (∀ b o v, m b o = some v → m' b o = some v) ∧ (∀ b o v, m' b o = some v → w'.cell? ⟨b, o, none⟩ = some v) ∧
      (∀ b o v, m' b o = some v → m b o = some v ∨ w.heap.size ≤ b) ∧ Below w.heap.size w w' ∧ Owns w m' w' L.length es v own ∧ Q L

theorem TCall.mono {P : Program} {f : FuncId} {args : List PV} {Q Q' : List (List PV) → Prop} {es : Nat} (h : TCall P f args Q es) (hq : ∀ r, Q r → Q' r) : TCall P f args Q' es :=
  ⟨fun m w vals h1 h2 => (h.run m w vals h1 h2).mono fun _ _ ⟨v, L, own, m', e1, e2, e3, e4, e5, e6, e7, e8⟩ => ⟨v, L, own, m', e1, e2, e3, e4, e5, e6, e7, hq _ e8⟩⟩
/-- Who asks for no more gets a list like any other. -/
theorem TCall.pure {P : Program} {f : FuncId} {args : List PV} {Q : List (List PV) → Prop} {es : Nat} (h : TCall P f args Q es) : PCall P f args fun r => ∃ L, r = [.sl L] ∧ Q L :=
  ⟨fun m w vals h1 h2 => (h.run m w vals h1 h2).mono fun _ _ ⟨v, L, _, m', e1, e2, e3, e4, e5, e6, _, e8⟩ => ⟨v, [.sl L], m', e1, .p e2, e3, e4, e5, e6, L, rfl, e8⟩⟩

/-- The last state of a function that hands an own list back. -/
def FinT (P : Program) (res : List ResultVar) (es : Nat) (Q : List (List PV) → Prop) : Exit → AS → Prop
  | .normal, A | .ret, A => need (res.mapM (resV P A)) fun rs => (∃ id l, rs = [.tok id l] ∧ A.H[id]? = some (.spare l.length es) ∧ Q l) ∨ (∃ l, rs = [.full l] ∧ Q l)
  | _, _ => False

theorem TCall.body {P : Program} {f : FuncId} {fn : Func} {c : Code} {nt : Nat} {res : List ResultVar} {args : List PV} {es : Nat} {Q : List (List PV) → Prop} (hf : P.funcs[f]? = some fn) (hb : fn.body = some c) (hnt : fn.ntmps = nt) (hres : fn.results.toList = res) (hcal : callable P f = true) (hn : args.length ≤ nt)
    (h : Wp P nt c (FinT P res es Q) ⟨mkT 0 (args.map .p), []⟩) : TCall P f args Q es := by
  subst hnt hres
  refine ⟨fun m w vals hm hv => ?_⟩
  have wr : WR ⟨w, m, fun _ => none⟩ ⟨m, fun _ => none⟩ [] w := ⟨Below.refl _ _, hm, fun _ _ _ h => .inl h, fun _ _ _ h => h, fun id x h => by simp at h, fun i j x y b h => (by cases h), fun i x b h => (by cases h), fun _ _ => rfl, fun b x f h => (by cases h), fun i x b h => (by cases h)⟩
  have rv : RVL ⟨m, fun _ => none⟩ (args.map .p) vals := ⟨by simpa using hv.1, fun i x v hx hv' => by
    rw [List.getElem?_map, Option.map_eq_some_iff] at hx
    obtain ⟨y, hy, rfl⟩ := hx
    exact .p (hv.2 i y v hy hv')⟩
  have h' : Wp P fn.ntmps c (Fin P fn.results.toList fun r H' => (∃ id l, r = .tok id l ∧ H'[id]? = some (.spare l.length es) ∧ Q l) ∨ (∃ l, r = .full l ∧ Q l)) ⟨mkT 0 (args.map .p), []⟩ := by
    refine h.mono fun e A' hq => ?_
    have key : need (fn.results.toList.mapM (resV P A')) (fun rs => (∃ id l, rs = [.tok id l] ∧ A'.H[id]? = some (.spare l.length es) ∧ Q l) ∨ (∃ l, rs = [.full l] ∧ Q l)) → need (fn.results.toList.mapM (resV P A')) (fun rs => (∃ id l, packV rs = .tok id l ∧ A'.H[id]? = some (.spare l.length es) ∧ Q l) ∨ (∃ l, packV rs = .full l ∧ Q l)) := by
      intro hq
      obtain ⟨rs, h1, h2⟩ := need_iff.1 hq
      rcases h2 with ⟨id, l, rfl, h3⟩ | ⟨l, rfl, h3⟩
      · exact need_iff.2 ⟨_, h1, .inl ⟨id, l, rfl, h3⟩⟩
      · exact need_iff.2 ⟨_, h1, .inr ⟨l, rfl, h3⟩⟩
    cases e <;> first | exact key hq | exact hq.elim
  have hc := (ACall.body hf hb rfl rfl hcal (by simpa using hn) h').run ⟨w, m, fun _ => none⟩ ⟨m, fun _ => none⟩ w vals wr rv
  refine hc.mono fun e w' ⟨v, r, G', H', e1, e2, e3, e4, e5⟩ => ?_
  rcases e5 with ⟨id, l, rfl, hid, hq⟩ | ⟨l, rfl, hq⟩
  · obtain ⟨u, own, o1, o2⟩ := e4.objs id _ hid
    cases e2 with
    | tok hp ho hle he =>
      rw [o1] at ho; simp only [Option.some.injEq, GO.tok.injEq] at ho
      obtain ⟨rfl, rfl, rfl⟩ := ho
      have hvu := he rfl
      subst hvu
      refine ⟨v, l, own, G'.mem, e1, hp, e3.mem, e4.mem, e4.news, e4.below, ?_, hq⟩
      rcases o2 with ⟨h1, a, h2⟩ | ⟨b, arr, t, cap, h1, h2, h3, h4, h5, h6, h7⟩
      · exact .inl ⟨h1, a, h2⟩
      · exact .inr ⟨b, arr, t, cap, h1, (e4.fresh id _ b o1 (by rw [h1]; rfl)).1, h2, h3, h4, h5, h6, h7⟩
  · cases e2 with
    | @full _ a n hp =>
      have hn : n = l.length := by obtain ⟨a', cap', e'⟩ := hp.slice_len; simp only [Value.slice.injEq] at e'; exact e'.2.1
      subst hn
      exact ⟨_, l, none, G'.mem, e1, hp, e3.mem, e4.mem, e4.news, e4.below, .inl ⟨rfl, a, rfl⟩, hq⟩

/-- At a call: the list is a new object of the caller's. -/
theorem TCall.at_ {P : Program} {f : FuncId} {pargs : List PV} {es : Nat} {Q : List (List PV) → Prop} (h : TCall P f pargs Q es) {B : Base} {G : Ghost} {H : List AObj} {H' : Nat → List AObj} {w : World} (wr : WR B G H w) {vals : List Value} (hv : vals.length = pargs.length ∧ ∀ (i : Nat) x v, pargs[i]? = some x → vals[i]? = some v → RP G.mem x v)
    {id : Nat} (hid : G.obj id = none) (hup : ∀ n, Upd H (H' n) id (.spare n es)) :
    Runs P f vals.toArray w fun e w' => ∃ v L G', e = .returned v ∧ RV G' (.tok id L) v ∧ GExt G G' ∧ WR B G' (H' L.length) w' ∧ (∀ j, j ≠ id → G.obj j = none → G'.obj j = none) ∧ Q L := by
  refine (h.run G.mem w vals wr.mem hv).mono ?_
  rintro e w' ⟨v, L, own, m', e1, e2, e3, e4, e5, e6, e7, e8⟩
  have hle := wr.below.size
  have hn : ∃ a cap, v = .slice a L.length cap := e2.slice_len
  have hold : Older G id L.length v := .inl hid
  have ext := hold.ext own e3
  have keepm : ∀ b, b < w.heap.size → ∀ o, m' b o = G.mem b o := by
    intro b hb o
    cases hv : G.mem b o with
    | some v => exact e3 _ _ _ hv
    | none =>
      cases hv' : m' b o with
      | none => rfl
      | some v =>
        rcases e5 b o v hv' with h1 | h1
        · rw [hv] at h1; cases h1
        · omega
  have ownb : ∀ b, own = some b → w.heap.size ≤ b ∧ b < w'.heap.size := by
    intro b hb
    rcases e7 with ⟨h1, _⟩ | ⟨b', arr, t, cap, h1, h2, h3, h4, _⟩
    · rw [h1] at hb; cases hb
    · rw [h1] at hb; simp only [Option.some.injEq] at hb; subst hb; exact ⟨h2, heap_lt h4⟩
  refine ⟨v, L, G.tok id L.length v own m', e1, ?_, ext, ?_, fun j hj hg => by simp only [Ghost.tok, hj, if_false]; exact hg, e8⟩
  · exact RV.tok (c := L.length) (u := v) (own := own) e2 (Ghost.tok_obj ..) (Nat.le_refl _) (fun _ => rfl)
  · refine wr.upd (hup L.length) ext rfl (wr.below.trans (e6.mono hle)) e4 (fun b o v hv => ?_) ?_ (fun i g b hi hg hb => ?_) e6.size (fun b hb => ⟨by have := (ownb b hb).1; omega, (ownb b hb).2⟩) (fun b y hb => ⟨e6.block b (wr.pr_lt hb), fun o => keepm b (wr.pr_lt hb) o⟩) (fun b hb => ?_)
    · rcases e5 b o v hv with h1 | h1
      · exact wr.news b o v h1
      · exact .inr (by omega)
    · refine ⟨v, own, Ghost.tok_obj .., ?_⟩
      rcases e7 with ⟨h1, a, h2⟩ | ⟨b, arr, t, cap, h1, h2, h3, h4, h5, h6, h7, h8⟩
      · exact .inl ⟨h1, a, h2⟩
      · exact .inr ⟨b, arr, t, cap, h1, h3, h4, h5, h6, h7, h8⟩
    · have hlt := (wr.fresh i g b hg hb).2
      refine ⟨e6.block b hlt, fun o => keepm b hlt o, fun e => ?_⟩
      have := (ownb b e).1; omega
    · cases hp : B.pr b with
      | none => rfl
      | some y => have := wr.pr_lt hp; have := (ownb b hb).1; omega

theorem ACall.ofT {P : Program} {f : FuncId} {args : List AV} {pargs : List PV} {H : List AObj} {es : Nat} {Q : List (List PV) → Prop} {Q' : AV → List AObj → Prop} (ha : args.mapM AV.pure = some pargs) (h : TCall P f pargs Q es) (hq : ∀ l, Q l → Q' (.tok H.length l) (H ++ [.spare l.length es])) : ACall P f args H Q' :=
  ⟨fun _ _ _ _ wr rv => (h.at_ wr (pures_ok ha rv) (H' := fun n => H ++ [.spare n es]) (wr.dom _ (Nat.le_refl _)) (fun _ => Upd.push H _)).mono fun _ _ ⟨v, L, G', e1, e2, e3, e4, _, e6⟩ => ⟨v, _, G', _, e1, e2, e3, e4, hq L e6⟩⟩

end Go.Proofs.Ytaaocppaepnhbaa
