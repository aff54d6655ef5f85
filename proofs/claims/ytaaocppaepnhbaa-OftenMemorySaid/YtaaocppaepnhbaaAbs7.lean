/- All operations that only read, under one name. Own work; no condition. -/
import Derived.Test.YtaaocppaepnhbaaAbs6
namespace Go.Proofs.Ytaaocppaepnhbaa
open Go Go.RowKit

def AV.pure0 : AV → Option PV
  | .p x => some x
  | .tok _ es => some (.sl es)
  | .full es => some (.sl es)
  | .rtok _ _ _ l => some (.sl l)
  | .nils n => some (.sl (List.replicate n [.sl []]))
  | _ => none
def pure0L : List AV → Option (List PV)
  | [] => some []
  | x :: r => match x.pure0 with
    | some y => match pure0L r with
      | some ys => some (y :: ys)
      | none => none
    | none => none
def AV.pure1 : AV → Option PV
  | .p x => some x
  | .tok _ es => some (.sl es)
  | .full es => some (.sl es)
  | .fn f caps => match pure0L caps with
    | some cs => some (.fn f cs)
    | none => none
  | .rtok _ _ _ l => some (.sl l)
  | .nils n => some (.sl (List.replicate n [.sl []]))
  | _ => none

def AV.pure : AV → Option PV
  | .agg cs => (cs.mapM AV.pure1).map .agg
  | x => x.pure1

theorem pure0_ok {G : Ghost} {x : AV} {v : Value} {y : PV} (r : RV G x v) (h : x.pure0 = some y) : RP G.mem y v := by
  unfold AV.pure0 at h
  split at h <;> simp only [Option.some.injEq, reduceCtorEq] at h <;> subst h
  · cases r with | p hp => exact hp
  · cases r with | tok hp => exact hp
  · cases r with | full hp => exact hp
  · cases r with | rtok hp => exact hp
  · cases r with | nils hn => exact RP.ofNils hn
theorem pure0L_get : ∀ {l : List AV} {r : List PV}, pure0L l = some r → l.length = r.length ∧ ∀ (i : Nat) x y, l[i]? = some x → r[i]? = some y → x.pure0 = some y := by
  intro l
  induction l with
  | nil => intro r h; simp only [pure0L, Option.some.injEq] at h; subst h; simp
  | cons a l ih =>
    intro r h
    simp only [pure0L] at h
    split at h <;> try (cases h; done)
    rename_i y hy
    split at h <;> try (cases h; done)
    rename_i ys hys
    simp only [Option.some.injEq] at h; subst h
    obtain ⟨h1, h2⟩ := ih hys
    refine ⟨by simp [h1], fun i x z hx hz => ?_⟩
    cases i with
    | zero => simp at hx hz; subst hx hz; exact hy
    | succ i => exact h2 i x z (by simpa using hx) (by simpa using hz)
theorem pure1_ok {G : Ghost} {x : AV} {v : Value} {y : PV} (r : RV G x v) (h : x.pure1 = some y) : RP G.mem y v := by
  unfold AV.pure1 at h
  split at h
  · simp only [Option.some.injEq] at h; subst h; cases r with | p hp => exact hp
  · simp only [Option.some.injEq] at h; subst h; cases r with | tok hp => exact hp
  · simp only [Option.some.injEq] at h; subst h; cases r with | full hp => exact hp
  · split at h <;> try (cases h; done)
    rename_i cs hcs
    simp only [Option.some.injEq] at h; subst h
    obtain ⟨h1, h2⟩ := pure0L_get hcs
    cases r with
    | fn hl hr =>
      refine .fn _ _ _ (by omega) fun i c v hc hv => ?_
      have hlt := (List.getElem?_eq_some_iff.1 hc).1
      have hx := List.getElem?_eq_getElem (show i < _ from by rw [h1]; exact hlt)
      exact pure0_ok (hr i _ v hx hv) (h2 i _ c hx hc)
  · simp only [Option.some.injEq] at h; subst h; cases r with | rtok hp => exact hp
  · simp only [Option.some.injEq] at h; subst h; cases r with | nils hn => exact RP.ofNils hn
  · cases h

theorem mapM_get {α β : Type} {f : α → Option β} : ∀ {l : List α} {r : List β}, l.mapM f = some r → l.length = r.length ∧ ∀ (i : Nat) x y, l[i]? = some x → r[i]? = some y → f x = some y := by
  intro l
  induction l with
  | nil => intro r h; simp at h; subst h; simp
  | cons a l ih =>
    intro r h
    simp only [List.mapM_cons, Option.pure_def, Option.bind_eq_bind, Option.bind_eq_some_iff, Option.some.injEq] at h
    obtain ⟨x, hx, xs, hxs, rfl⟩ := h
    obtain ⟨h1, h2⟩ := ih hxs
    refine ⟨by simp [h1], fun i y v hy hv => ?_⟩
    cases i with
    | zero => simp at hy hv; subst hy hv; exact hx
    | succ i => exact h2 i y v (by simpa using hy) (by simpa using hv)

theorem pure_ok {G : Ghost} {x : AV} {v : Value} {y : PV} (r : RV G x v) (h : x.pure = some y) : RP G.mem y v := by
  cases x with
  | agg cs =>
    simp only [AV.pure, Option.map_eq_some_iff] at h
    obtain ⟨ps, hps, rfl⟩ := h
    obtain ⟨h1, h2⟩ := mapM_get hps
    cases r with
    | agg hl hr =>
      refine .agg _ _ (by omega) (fun i c v hc hv => ?_)
      have hlt : i < ps.length := (List.getElem?_eq_some_iff.1 hc).1
      have hx : cs[i]? = some (cs[i]'(by omega)) := List.getElem?_eq_getElem _
      exact pure1_ok (hr i _ v hx hv) (h2 i _ c hx hc)
  | _ => exact pure1_ok r h

def fieldV (ti : TI) (f : Nat) (cs : List AV) : Option AV :=
  match ti.kind with
  | .fields l => match l[f]? with
    | some (o, _, false) => cs[o]?
    | _ => none
  | _ => none

def unV (op : UnOp) : PV → Option PV
  | .bool b => match op with | .not => some (.bool (!b)) | _ => none
  | .int k n => match op with
    | .neg => some (.int k (k.wrap (0 - n)))
    | .xor => bopI .xor k (if k.signed then -1 else k.max) n
    | _ => none
  | _ => none

def cvV (sk dk : TK) : PV → Option PV
  | .int _ n => match dk with | .num k => some (.int k (k.wrap n)) | _ => none
  | .str s => match sk, dk with | .str, .str => some (.str s) | _, _ => none
  | _ => none

def vop (P : Program) (T : List (Nat × AV)) (H : List AObj) (op : Op) : Option AV :=
  match op with
  | .move x => ev T x
  | .assign x => ev T x
  | .pick c a b => match ev T c with
    | some (.p (.bool true)) => ev T a
    | some (.p (.bool false)) => ev T b
    | _ => none
  | .load t a => match tinfo P t, ev T a with | some ti, some p => ldV H ti p | _, _ => none
  | .fieldAddr t a f => match tinfo P t, ev T a with | some ti, some p => faV ti f p | _, _ => none
  | .indexAddr t a i => match tinfo P t, ev T a, ev T i with | some ti, some p, some i => iaV ti p i | _, _, _ => none
  | .index t a i => match tinfo P t, ev T a, ev T i with | some ti, some p, some i => ixV ti p i | _, _, _ => none
  | .field t x f => match tinfo P t, ev T x with
    | some ti, some (.agg cs) => fieldV ti f cs
    | some ti, some (.p (.agg cs)) => fieldV ti f (cs.map .p)
    | _, _ => none
  | .nilCheck x => match ev T x with
    | some (.ref i o) => some (.ref i o)
    | some (.p (.ip cs)) => some (.p (.ip cs))
    | _ => none
  | .binOp op t x y _ => match tinfo P t, (ev T x).bind AV.pure, (ev T y).bind AV.pure with
    | some ti, some (.agg xs), some (.agg ys) => (eqA ti op xs ys).map .p
    | some ti, some a, some b => (bopV ti.kind op a b).map .p
    | _, _, _ => none
  | .unOp op _ x => match ev T x with
    | some (.p a) => (unV op a).map .p
    | _ => none
  | .convert s d x => match tinfo P s, tinfo P d, ev T x with
    | some si, some di, some (.p a) => (cvV si.kind di.kind a).map .p
    | _, _, _ => none
  | .extract t i => match ev T t with
    | some (.tup vs) => vs[i]?
    | _ => none
  | .makeFunc (.func f) first caps => if first.size = 0 then (caps.toList.mapM (ev T)).map (.fn f) else none
  | .slice t x lo hi none => match tinfo P t, ev T x, intO (lo.bind (ev T)), intO (hi.bind (ev T)) with
    | some ti, some v, some l, some h => if lo.isSome = l.isSome ∧ hi.isSome = h.isSome then slV ti v l h else none
    | _, _, _, _ => none
  | .build t ps => match tinfo P t, ps.toList.mapM (fun x => (ev T x.2).map fun v => (x.1, v)) with
    | some ti, some l => buildV ti l
    | _, _ => none
  | .call c => match c.callee, c.args.toList, c.argTypes.toList with
    | .builtin .len, [x], [t] => match tinfo P t, ev T x with | some ti, some v => lenV ti.kind v | _, _ => none
    | .builtin .max, [x, y], _ => match ev T x, ev T y with
      | some (.p (.int k a)), some (.p (.int _ b)) => some (.p (.int k (if a < b then b else a)))
      | _, _ => none
    | .builtin .min, [x, y], _ => match ev T x, ev T y with
      | some (.p (.int k a)), some (.p (.int _ b)) => some (.p (.int k (if b < a then b else a)))
      | _, _ => none
    | _, _, _ => none
  | _ => none

theorem arr1 {α : Type} {a : Array α} {x : α} (h : a.toList = [x]) : a = #[x] := by rw [← Array.toArray_toList (xs := a), h]
theorem arr2 {α : Type} {a : Array α} {x y : α} (h : a.toList = [x, y]) : a = #[x, y] := by rw [← Array.toArray_toList (xs := a), h]

theorem intO_ok {nt : Nat} {G : Ghost} {T : List (Nat × AV)} {a : Act} (tr : TR nt G T a) {o : Option Operand} {l : Option Int} (h : intO (o.bind (ev T)) = some l) (hs : o.isSome = l.isSome) :
    (∀ v, o.map a.eval = some v → ∃ q n, v = .int q n ∧ l = some n) ∧ (o.map a.eval = none → l = none) := by
  cases o with
  | none => simp [intO] at h; subst h; simp
  | some x =>
    cases hx : ev T x with
    | none => simp [hx, intO] at h; subst h; simp at hs
    | some y =>
      have r := ev_ok tr hx
      simp only [Option.bind_some, hx] at h
      unfold intO at h
      split at h <;> try (cases h; done)
      · rename_i e; cases e
      · rename_i q n e
        simp only [Option.some.injEq] at e h; subst e h
        cases r with
        | p hp =>
          cases hv : a.eval x <;> rw [hv] at hp <;> cases hp
          exact ⟨fun v h' => by simp [hv] at h'; exact ⟨_, _, h'.symm, rfl⟩, fun h' => by simp at h'⟩

theorem p_int {G : Ghost} {k : IntKind} {n : Int} {v : Value} (r : RV G (.p (.int k n)) v) : v = .int k n := by cases r with | p h => cases h; rfl
theorem p_bool {G : Ghost} {b : Bool} {v : Value} (r : RV G (.p (.bool b)) v) : v = .bool b := by cases r with | p h => cases h; rfl
theorem p_str {G : Ghost} {s : ByteArray} {v : Value} (r : RV G (.p (.str s)) v) : v = .string s := by cases r with | p h => cases h; rfl
theorem p_ip {G : Ghost} {cs : List PV} {v : Value} (r : RV G (.p (.ip cs)) v) : ∃ a, v = .pointer (some a) := by cases r with | p h => cases h; exact ⟨_, rfl⟩
theorem ref_ptr {G : Ghost} {i o : Nat} {v : Value} (r : RV G (.ref i o) v) : ∃ a, v = .pointer (some a) := by cases r; exact ⟨_, rfl⟩
theorem p_agg {G : Ghost} {cs : List PV} {v : Value} (r : RV G (.p (.agg cs)) v) : ∃ vs, v = .agg vs ∧ vs.size = cs.length ∧ ∀ (i : Nat) c v, (cs.map AV.p)[i]? = some c → vs[i]? = some v → RV G c v := by
  cases r with
  | p h =>
    cases h with
    | agg _ vs hl hr =>
      refine ⟨vs, rfl, hl, fun i c v hc hv => ?_⟩
      rw [List.getElem?_map, Option.map_eq_some_iff] at hc
      obtain ⟨c', hc', rfl⟩ := hc
      exact .p (hr i c' v hc' hv)

theorem fieldV_ok {P : Program} {t : TypeId} {ti : TI} (k : tinfo P t = some ti) {G : Ghost} (w : World) {f : Nat} {cs : List AV} {vs : Array Value} {x : AV} (hl : vs.size = cs.length)
    (hr : ∀ (i : Nat) c v, cs[i]? = some c → vs[i]? = some v → RV G c v) (h : fieldV ti f cs = some x) : ∃ v, (Instr.field t (.agg vs) f).run P w = .ok v w ∧ RV G x v := by
  obtain ⟨i, d, z, k⟩ := tinfo_ok k
  have hd := k.kind
  unfold fieldV at h
  split at h <;> try (cases h; done)
  rename_i l hk
  split at h <;> try (cases h; done)
  rename_i o s hlf
  rw [hk] at hd
  cases d <;> simp only [tkind, reduceCtorEq, TK.fields.injEq] at hd
  rename_i fs
  subst hd
  rw [List.getElem?_map, Option.map_eq_some_iff] at hlf
  obtain ⟨fd, hfd, he⟩ := hlf
  simp only [Prod.mk.injEq] at he
  obtain ⟨rfl, _, hag⟩ := he
  have hlt : fd.offset < cs.length := (List.getElem?_eq_some_iff.1 h).1
  have hv : vs[fd.offset]? = some (vs[fd.offset]'(by omega)) := Array.getElem?_eq_getElem _
  refine ⟨_, ?_, hr _ _ _ h hv⟩
  have hfd' : fs[f]? = some fd := by simpa using hfd
  cases hu : P.underlying fd.type with
  | none =>
    simp [isAggB, hu] at hag
  | some dd =>
    have : isAg dd = false := by
      simp only [isAggB, hu] at hag
      cases dd <;> simp at hag <;> rfl
    simp only [Instr.field, Sem.run_bind, k.run_und w, Result.andThen_ok, hfd', asAgg, Sem.run_pure, run_part_one hu this w vs _ _ hv]

theorem vop_ok {P : Program} {nt : Nat} {B : Base} {G : Ghost} {T : List (Nat × AV)} {H : List AObj} {a : Act} {w : World} (tr : TR nt G T a) (wr : WR B G H w) {o : Oper} {x : AV} (h : vop P T H o.op = some x) :
    ∃ v, (execOp a.eval o).run P w = .ok (.value v) w ∧ RV G x v := by
  have lift : ∀ {s : Sem Value} {v : Value}, s.run P w = .ok v w → (do pure (Next.value (← s)) : Sem Next).run P w = .ok (.value v) w := by
    intro s v hs; simp only [Sem.run_bind, hs, Result.andThen_ok, Sem.run_pure]
  obtain ⟨dst, op, type, pos, after, guard⟩ := o
  simp only at h
  unfold vop at h
  split at h
  · exact ⟨_, rfl, ev_ok tr h⟩
  · exact ⟨_, rfl, ev_ok tr h⟩
  · rename_i c x1 y1
    split at h <;> try (cases h; done)
    all_goals
      rename_i hc
      have hv := p_bool (ev_ok tr hc)
      refine ⟨_, ?_, ev_ok tr h⟩
      simp [execOp, hv, asBool]
  · split at h <;> try (cases h; done)
    rename_i ti p hti hp
    obtain ⟨v, h1, h2⟩ := ldV_ok hti wr (ev_ok tr hp) h
    exact ⟨v, lift h1, h2⟩
  · split at h <;> try (cases h; done)
    rename_i ti p hti hp
    obtain ⟨v, h1, h2⟩ := faV_ok hti w (ev_ok tr hp) h
    exact ⟨v, lift h1, h2⟩
  · split at h <;> try (cases h; done)
    rename_i ti p i hti hp hi
    obtain ⟨v, h1, h2⟩ := iaV_ok hti w (ev_ok tr hp) (ev_ok tr hi) h
    exact ⟨v, lift h1, h2⟩
  · split at h <;> try (cases h; done)
    rename_i ti p i hti hp hi
    obtain ⟨v, h1, h2⟩ := ixV_ok hti w (ev_ok tr hp) (ev_ok tr hi) h
    exact ⟨v, lift h1, h2⟩
  · split at h <;> try (cases h; done)
    · rename_i ti cs hti hx
      have r := ev_ok tr hx
      generalize hv : a.eval _ = v at r
      cases r with
      | agg hl hr =>
        obtain ⟨v, h1, h2⟩ := fieldV_ok hti w hl hr h
        exact ⟨v, lift (by rw [hv]; exact h1), h2⟩
    · rename_i ti cs hti hx
      obtain ⟨vs, hv, hl, hr⟩ := p_agg (ev_ok tr hx)
      obtain ⟨v, h1, h2⟩ := fieldV_ok hti w (cs := cs.map .p) (by simpa using hl) hr h
      exact ⟨v, lift (by rw [hv]; exact h1), h2⟩
  · rename_i x1
    split at h <;> try (cases h; done)
    · rename_i hc
      simp only [Option.some.injEq] at h; subst h
      have r := ev_ok tr hc
      obtain ⟨ad, hv⟩ := ref_ptr r
      rw [hv] at r
      exact ⟨_, by simp only [execOp, hv]; rfl, r⟩
    · rename_i hc
      simp only [Option.some.injEq] at h; subst h
      have r := ev_ok tr hc
      obtain ⟨ad, hv⟩ := p_ip r
      rw [hv] at r
      exact ⟨_, by simp only [execOp, hv]; rfl, r⟩
  · rename_i bo t x1 y1 yt
    split at h <;> try (cases h; done)
    · rename_i ti xs ys hti hx hy
      rw [Option.map_eq_some_iff] at h
      obtain ⟨r, hr, rfl⟩ := h
      rw [Option.bind_eq_some_iff] at hx hy
      obtain ⟨ax, hx1, hx2⟩ := hx
      obtain ⟨ay, hy1, hy2⟩ := hy
      have rx := pure_ok (ev_ok tr hx1) hx2
      have ry := pure_ok (ev_ok tr hy1) hy2
      obtain ⟨xv, hxv⟩ : ∃ xv, a.eval x1 = .agg xv := by generalize a.eval x1 = v at rx; cases rx; exact ⟨_, rfl⟩
      obtain ⟨yv, hyv⟩ : ∃ yv, a.eval y1 = .agg yv := by generalize a.eval y1 = v at ry; cases ry; exact ⟨_, rfl⟩
      rw [hxv] at rx; rw [hyv] at ry
      obtain ⟨v, h1, h2⟩ := eqA_ok hti w (xo := x1) (yo := y1) rx ry hr
      exact ⟨v, lift (by rw [hxv, hyv]; exact h1), .p h2⟩
    · rename_i ti xs ys _ hti hx hy
      rw [Option.map_eq_some_iff] at h
      obtain ⟨r, hr, rfl⟩ := h
      rw [Option.bind_eq_some_iff] at hx hy
      obtain ⟨ax, hx1, hx2⟩ := hx
      obtain ⟨ay, hy1, hy2⟩ := hy
      obtain ⟨v, h1, h2⟩ := bopV_ok hti w (xo := x1) (yo := y1) (pure_ok (ev_ok tr hx1) hx2) (pure_ok (ev_ok tr hy1) hy2) hr
      exact ⟨v, lift h1, .p h2⟩
  · rename_i uo t x1
    split at h <;> try (cases h; done)
    rename_i y hx
    rw [Option.map_eq_some_iff] at h
    obtain ⟨r, hr, rfl⟩ := h
    have rx := ev_ok tr hx
    unfold unV at hr
    split at hr
    · rename_i b
      split at hr <;> try (cases hr; done)
      simp only [Option.some.injEq] at hr; subst hr
      have hv := p_bool rx
      exact ⟨_, lift (by rw [hv]; rfl), .p (.bool _)⟩
    · rename_i k n
      have hv := p_int rx
      split at hr <;> try (cases hr; done)
      · simp only [Option.some.injEq] at hr; subst hr
        exact ⟨_, lift (by rw [hv]; rfl), .p (.int _ _)⟩
      · simp only [bopI, Option.some.injEq] at hr; subst hr
        exact ⟨_, lift (by rw [hv]; rfl), .p (.int _ _)⟩
    · cases hr
  · rename_i s d x1
    split at h <;> try (cases h; done)
    rename_i si di y hsi hdi hx
    rw [Option.map_eq_some_iff] at h
    obtain ⟨r, hr, rfl⟩ := h
    have rx := ev_ok tr hx
    obtain ⟨i1, d1, z1, k1⟩ := tinfo_ok hsi
    obtain ⟨i2, d2, z2, k2⟩ := tinfo_ok hdi
    have hd1 := k1.kind
    have hd2 := k2.kind
    unfold cvV at hr
    split at hr
    · rename_i q n
      have hv := p_int rx
      split at hr <;> try (cases hr; done)
      rename_i kk hkk
      simp only [Option.some.injEq] at hr; subst hr
      rw [hkk] at hd2
      cases d2 <;> simp only [tkind, reduceCtorEq, TK.num.injEq] at hd2
      subst hd2
      refine ⟨_, lift (v := .int _ _) ?_, .p (.int _ _)⟩
      rw [hv]
      simp only [convert, Sem.run_bind, k1.run_und w, k2.run_und w, Result.andThen_ok, Conv.intToInt, Sem.run_pure]
    · rename_i q
      have hv := p_str rx
      split at hr <;> try (cases hr; done)
      rename_i hk1 hk2
      simp only [Option.some.injEq] at hr; subst hr
      rw [hk1] at hd1; rw [hk2] at hd2
      cases d1 <;> simp only [tkind, reduceCtorEq] at hd1
      cases d2 <;> simp only [tkind, reduceCtorEq] at hd2
      refine ⟨_, lift (v := .string q) ?_, .p (.str _)⟩
      rw [hv]
      simp only [convert, Sem.run_bind, k1.run_und w, k2.run_und w, Result.andThen_ok, Sem.run_pure]
    · cases hr
  · rename_i t1 i
    split at h <;> try (cases h; done)
    rename_i vs hx
    have r := ev_ok tr hx
    generalize hv : a.eval t1 = v at r
    cases r with
    | @tup _ us hl hr =>
      have hlt : i < vs.length := (List.getElem?_eq_some_iff.1 h).1
      have hu : us[i]? = some (us[i]'(by omega)) := Array.getElem?_eq_getElem _
      refine ⟨_, lift ?_, hr i x _ h hu⟩
      rw [hv]
      simp only [Instr.extract, hu, Sem.run_pure]
  · rename_i f first caps
    split at h <;> try (cases h; done)
    rename_i hf
    rw [Option.map_eq_some_iff] at h
    obtain ⟨l, hl, rfl⟩ := h
    have hf' : first = #[] := by simpa using hf
    subst hf'
    obtain ⟨h1, h2⟩ := mapM_get hl
    refine ⟨.func (.func f) #[] (caps.map a.eval), by simp [execOp, Instr.makeFunc], .fn (vs := caps.map a.eval) (by simpa using h1) (fun i c v hc hv => ?_)⟩
    simp only [Array.getElem?_map, Option.map_eq_some_iff] at hv
    obtain ⟨o, ho, rfl⟩ := hv
    exact ev_ok tr (h2 i o c (by simpa using ho) hc)
  · rename_i t1 x1 lo hi
    split at h <;> try (cases h; done)
    rename_i ti v l hh hti hx hlo hhi
    split at h <;> try (cases h; done)
    rename_i hs
    obtain ⟨a1, a2⟩ := intO_ok tr hlo hs.1
    obtain ⟨b1, b2⟩ := intO_ok tr hhi hs.2
    obtain ⟨v, h1, h2⟩ := slV_ok hti w (ev_ok tr hx) a1 a2 b1 b2 h
    exact ⟨v, lift h1, h2⟩
  · rename_i t1 ps
    split at h <;> try (cases h; done)
    rename_i ti l hti hl
    obtain ⟨l1, l2⟩ := mapM_get hl
    obtain ⟨v, h1, h2⟩ := buildV_ok hti w (vs := ps.map fun (i, x) => (i, a.eval x)) (by simp; simpa using l1.symm) (fun j p v hp hv => by
      simp only [Array.getElem?_map, Option.map_eq_some_iff] at hv
      obtain ⟨q, hq, rfl⟩ := hv
      have := l2 j q p (by simpa using hq) hp
      rw [Option.map_eq_some_iff] at this
      obtain ⟨y, hy, rfl⟩ := this
      exact ⟨rfl, ev_ok tr hy⟩) h
    exact ⟨v, lift h1, h2⟩
  · rename_i c
    obtain ⟨callee, args, argTypes⟩ := c
    simp only at h
    split at h <;> try (cases h; done)
    · rename_i x1 t1 ha ht
      have ha := arr1 ha; have ht := arr1 ht; subst ha ht
      split at h <;> try (cases h; done)
      rename_i ti v hti hv
      obtain ⟨u, h1, h2⟩ := lenV_ok hti (ty := type) w (ev_ok tr hv) h
      refine ⟨u, ?_, h2⟩
      simp only [execOp, resolve, invoke, builtin, Sem.run_bind, Sem.run_pure, Result.andThen_ok, List.map_toArray, List.map_cons, List.map_nil, h1]
    · rename_i x1 y1 _ ha
      have ha := arr2 ha; subst ha
      split at h <;> try (cases h; done)
      rename_i k1 n1 k2 n2 hx hy
      simp only [Option.some.injEq] at h; subst h
      have e1 := p_int (ev_ok tr hx); have e2 := p_int (ev_ok tr hy)
      refine ⟨_, ?_, .p (.int _ _)⟩
      simp [execOp, resolve, invoke, builtin, Builtin.max_, Builtin.max2, e1, e2]
    · rename_i x1 y1 _ ha
      have ha := arr2 ha; subst ha
      split at h <;> try (cases h; done)
      rename_i k1 n1 k2 n2 hx hy
      simp only [Option.some.injEq] at h; subst h
      have e1 := p_int (ev_ok tr hx); have e2 := p_int (ev_ok tr hy)
      refine ⟨_, ?_, .p (.int _ _)⟩
      simp [execOp, resolve, invoke, builtin, Builtin.min_, Builtin.min2, e1, e2]
  · cases h

end Go.Proofs.Ytaaocppaepnhbaa
