/- The operations on maps of the function's own, for the quick walk. Own work; no condition. -/
import Derived.Test.YtcajncmjlmpkgaaPcAbsN
import Derived.Test.YtcajncmjlmpkgaaPcAbsZ
namespace Go.Proofs.Ytcajncmjlmpkgaa
open Go Go.RowKit
set_option linter.unusedVariables false
def kdX : TK → Option KD
 | .str => some .str
 | .num k => some (.int k)
 | _ => none
structure LkX (z : PV) (es : List (PV × PV)) (k : PV) (K : PV → Bool → Prop) : Prop where
 h : K (getM z es k) (findM es k 0).isSome
theorem LkX.at_ {z : PV} {es : List (PV × PV)} {k : PV} {K : PV → Bool → Prop} {v : PV} {b : Bool} (h1 : getM z es k = v) (h2 : (findM es k 0).isSome = b) (h : K v b) : LkX z es k K := ⟨by rw [h1, h2]; exact h⟩
def isMapO (tt : TypeId → Option TI) (T : List (Nat × AV)) (op : Op) : Bool :=
 match op with
 | .makeMap _ none => true
 | .lookup t _ _ _ => match tt t with
   | some ti => match ti.kind with
     | .map _ _ => true
     | _ => false
   | none => false
 | .mapUpdate _ _ _ _ => true
 | .call c => match c.callee with
   | .builtin .len => match c.args.toList with
     | [x] => match ev T x with
       | some (.mp _) => true
       | _ => false
     | _ => false
   | _ => false
 | _ => false
def xeM (tt : TypeId → Option TI) (o : Oper) (A : AS) (nx : Nat) (K : Ef → List Nat → Nat → Prop) : Prop :=
 match o.op with
 | .makeMap _ none => match o.dst with
   | some d => K ⟨some (d, .mp nx), some (nx, .map [])⟩ [nx] (nx + 1)
   | none => False
 | .lookup t x i ok => match o.dst with
   | none => False
   | some d => need (tt t) fun ti => match ti.kind with
     | .map kt et => need (tt kt) fun ki => need (kdX ki.kind) fun kd => need (tt et) fun ei => need (ev A.T x) fun p => need (ev A.T i) fun kv => need kv.pure1 fun k => match p with
       | .mp id => match nth A.H id with
         | some (.map es) => match ei.agg with
           | false => match ei.zero with
             | [.p z] => if isKeyP kd k = true then Asm (fun _ => keysB kd es = true) fun _ => LkX z es k fun v b => match ok with
                 | false => K ⟨some (d, .p v), none⟩ [id] nx
                 | true => K ⟨some (d, .tup [.p v, .p (.bool b)]), none⟩ [id] nx
               else False
             | _ => False
           | true => False
         | _ => False
       | _ => False
     | _ => False
 | .mapUpdate t m i x => match o.dst with
   | some _ => False
   | none => need (tt t) fun ti => match ti.kind with
     | .map kt et => need (tt kt) fun ki => need (kdX ki.kind) fun kd => need (ev A.T m) fun p => need (ev A.T i) fun kv => need kv.pure1 fun k => need (ev A.T x) fun xv => need xv.pure1 fun y => match p with
       | .mp id => match nth A.H id with
         | some (.map es) => if isKeyP kd k = true then Asm (fun _ => keysB kd es = true) fun _ => Nm (fun _ => putM es k y) fun es' => K ⟨none, some (id, .map es')⟩ [id] nx else False
         | _ => False
       | _ => False
     | _ => False
 | .call c => match c.callee with
   | .builtin .len => match c.args.toList with
     | [x] => match c.argTypes.toList with
       | [t] => match o.dst with
         | none => False
         | some d => need (tt t) fun ti => match ti.kind with
           | .map _ _ => need (ev A.T x) fun p => match p with
             | .mp id => match nth A.H id with
               | some (.map es) => Nm (fun _ => ((es.length : Nat) : Int)) fun n => K ⟨some (d, .p (.int .i64 n)), none⟩ [id] nx
               | _ => False
             | _ => False
           | _ => False
       | _ => False
     | _ => False
   | _ => False
 | _ => False
theorem kd_ok {P : Program} {t : TypeId} {ti : TI} {kd : KD} (h : tinfo P t = some ti) (hk : kdX ti.kind = some kd) : P.underlying t = some kd.desc := by
 obtain ⟨i, d, z, k⟩ := tinfo_ok h
 rw [k.und]
 have := k.kind
 rw [← this] at hk
 cases d <;> simp only [tkind, kdX, Option.some.injEq, reduceCtorEq] at hk <;> subst hk <;> rfl
theorem mapT_ok {P : Program} {t : TypeId} {ti : TI} {kt et : Nat} (h : tinfo P t = some ti) (hk : ti.kind = .map kt et) : P.underlying t = some (.map kt et) := by
 obtain ⟨i, d, z, k⟩ := tinfo_ok h
 rw [k.und]
 have := k.kind
 rw [hk] at this
 cases d <;> simp only [tkind, reduceCtorEq, TK.map.injEq] at this
 obtain ⟨rfl, rfl⟩ := this; rfl
theorem xeM_ok {P : Program} {tt : TypeId → Option TI} (htt : TTOk P tt) {o : Oper} {A : AS} {nx : Nat} {K : Ef → List Nat → Nat → Prop} (hl0 : A.H.length = nx) (h : xeM tt o A nx K) :
   ∃ e fp nx', EfR P o A nx e fp nx' ∧ K e fp nx' := by
 have lift : ∀ {s : Sem Value} {v : Value} {w w' : World}, s.run P w = .ok v w' → (do pure (Next.value (← s)) : Sem Next).run P w = .ok (.value v) w' := by
   intro s v w w' hs; simp only [Sem.run_bind, hs, Result.andThen_ok, Sem.run_pure]
 have lt_of : ∀ {id : Nat} {y : AObj}, A.H[id]? = some y → id < nx := fun hy => by rw [← hl0]; exact (List.getElem?_eq_some_iff.1 hy).1
 have one : ∀ {id : Nat} {y : AObj}, A.H[id]? = some y → (A.H.length = nx → ∀ j, j ∈ [id] → j < nx) := fun hy _ j hj => by simp at hj; subst hj; exact lt_of hy
 have noy : ∀ {l : List Nat} (id : Nat) (z : AObj), (none : Option (Nat × AObj)) = some (id, z) → id ∈ l := fun id z e => by cases e
 unfold xeM at h
 split at h
 · rename_i t ho
   split at h <;> try (exact h.elim)
   rename_i d hd
   refine ⟨_, _, _, EfR.nwF (fp := []) hd (fun _ j hj => by simp at hj) (fun {nt B G T H a' w q} tr wr ag agH hg hq => ?_), h⟩
   obtain ⟨v, w', G', r1, r2, r3, r4, r5⟩ := makeMap_ok (P := P) wr t hg (Upd.set hq (.map []))
   exact ⟨v, w', G', by simp only [execOp, ho]; exact lift r1, r2, r4, r3, r5⟩
 · rename_i t x i ok ho
   split at h <;> try (exact h.elim)
   rename_i d hd
   replace h := need_iff.1 h
   obtain ⟨ti, hti, h⟩ := h
   split at h <;> try (exact h.elim)
   rename_i kt et hkind
   replace h := need_iff.1 h
   obtain ⟨ki, hki, h⟩ := h
   replace h := need_iff.1 h
   obtain ⟨kd, hkd, h⟩ := h
   replace h := need_iff.1 h
   obtain ⟨ei, hei, h⟩ := h
   replace h := need_iff.1 h
   obtain ⟨p, hp, h⟩ := h
   replace h := need_iff.1 h
   obtain ⟨kv, hkv, h⟩ := h
   replace h := need_iff.1 h
   obtain ⟨k, hk1, h⟩ := h
   have evs : ∀ {T : List (Nat × AV)}, AgT T A.T o.op → ev T x = some p ∧ ev T i = some kv := fun ag =>
     ⟨by rw [← hp]; exact ag.ev (by rw [ho]; simp [Op.operands]), by rw [← hkv]; exact ag.ev (by rw [ho]; simp [Op.operands])⟩
   split at h <;> try (exact h.elim)
   rename_i id
   split at h <;> try (exact h.elim)
   rename_i es hid
   rw [nth_eq] at hid
   split at h <;> try (exact h.elim)
   rename_i hag
   split at h <;> try (exact h.elim)
   rename_i z hz
   split at h <;> try (exact h.elim)
   rename_i hkey
   have hb := h.c
   have hk := h.k.h
   have run : ∀ {nt : NT} {B : Base} {G : Ghost} {T : List (Nat × AV)} {H : List AObj} {a' : Act} {w : World}, TR nt G T a' → WR B G H w → AgT T A.T o.op → (∀ j, j ∈ [id] → H[j]? = A.H[j]?) →
       (∃ v, (Instr.lookup t (a'.eval x) (a'.eval i) false).run P w = .ok v w ∧ RP G.mem (getM z es k) v) ∧ (∃ v, (Instr.lookup t (a'.eval x) (a'.eval i) true).run P w = .ok (.tuple #[v, .bool (findM es k 0).isSome]) w ∧ RP G.mem (getM z es k) v) := by
     intro nt B G T H a' w tr wr ag agH
     obtain ⟨e1, e2⟩ := evs ag
     exact lookup_ok wr (mapT_ok (htt _ _ hti) hkind) (kd_ok (htt _ _ hki) hkd) (htt _ _ hei) hz hag (ev_ok tr e1) (by rw [agH id (by simp)]; exact hid) hb hkey (pure1_ok (ev_ok tr e2) hk1)
   cases ok with
   | false =>
     refine ⟨_, _, _, EfR.mkF hd (one hid) noy (fun {nt B G T H a' w} tr wr ag agH => ?_), hk⟩
     obtain ⟨⟨v, r1, r2⟩, _⟩ := run tr wr ag agH
     exact ⟨v, w, G, by simp only [execOp, ho]; exact lift r1, GExt.refl G, .p r2, wr, fun _ h => h⟩
   | true =>
     refine ⟨_, _, _, EfR.mkF hd (one hid) noy (fun {nt B G T H a' w} tr wr ag agH => ?_), hk⟩
     obtain ⟨_, v, r1, r2⟩ := run tr wr ag agH
     refine ⟨_, w, G, by simp only [execOp, ho]; exact lift r1, GExt.refl G, .tup rfl (fun j c u hc hu => ?_), wr, fun _ h => h⟩
     match j, hc, hu with
     | 0, hc, hu => cases hc; cases hu; exact .p r2
     | 1, hc, hu => cases hc; cases hu; exact .p (.bool _)
 · rename_i t m i x ho
   split at h <;> try (exact h.elim)
   rename_i hd
   replace h := need_iff.1 h
   obtain ⟨ti, hti, h⟩ := h
   split at h <;> try (exact h.elim)
   rename_i kt et hkind
   replace h := need_iff.1 h
   obtain ⟨ki, hki, h⟩ := h
   replace h := need_iff.1 h
   obtain ⟨kd, hkd, h⟩ := h
   replace h := need_iff.1 h
   obtain ⟨p, hp, h⟩ := h
   replace h := need_iff.1 h
   obtain ⟨kv, hkv, h⟩ := h
   replace h := need_iff.1 h
   obtain ⟨k, hk1, h⟩ := h
   replace h := need_iff.1 h
   obtain ⟨xv, hxv, h⟩ := h
   replace h := need_iff.1 h
   obtain ⟨y, hy1, h⟩ := h
   have evs : ∀ {T : List (Nat × AV)}, AgT T A.T o.op → ev T m = some p ∧ ev T i = some kv ∧ ev T x = some xv := fun ag =>
     ⟨by rw [← hp]; exact ag.ev (by rw [ho]; simp [Op.operands]), by rw [← hkv]; exact ag.ev (by rw [ho]; simp [Op.operands]), by rw [← hxv]; exact ag.ev (by rw [ho]; simp [Op.operands])⟩
   split at h <;> try (exact h.elim)
   rename_i id
   split at h <;> try (exact h.elim)
   rename_i es hid
   rw [nth_eq] at hid
   split at h <;> try (exact h.elim)
   rename_i hkey
   have hb := h.c
   refine ⟨_, _, _, EfR.stF hd (fun _ => lt_of hid) (fun {nt B G T H a' w} tr wr ag agH => ?_), h.k.get⟩
   obtain ⟨e1, e2, e3⟩ := evs ag
   have hidH : H[id]? = some (.map es) := by rw [agH]; exact hid
   obtain ⟨w', r1, r2⟩ := mapUpdate_ok wr (mapT_ok (htt _ _ hti) hkind) (kd_ok (htt _ _ hki) hkd) (ev_ok tr e1) hidH (Upd.set hidH (.map (putM es k y))) hb hkey (pure1_ok (ev_ok tr e2) hk1) (pure1_ok (ev_ok tr e3) hy1)
   exact ⟨w', G, by simp only [execOp, ho, Sem.run_bind, r1, Result.andThen_ok, Sem.run_pure], GExt.refl G, r2, fun _ h => h⟩
 · rename_i c ho
   obtain ⟨callee, args, ats⟩ := c
   simp only at h
   split at h <;> try (exact h.elim)
   split at h <;> try (exact h.elim)
   rename_i x hx
   split at h <;> try (exact h.elim)
   rename_i t ht
   split at h <;> try (exact h.elim)
   rename_i d hd
   replace h := need_iff.1 h
   obtain ⟨ti, hti, h⟩ := h
   split at h <;> try (exact h.elim)
   rename_i kt et hkind
   replace h := need_iff.1 h
   obtain ⟨p, hp, h⟩ := h
   split at h <;> try (exact h.elim)
   rename_i id
   split at h <;> try (exact h.elim)
   rename_i es hid
   rw [nth_eq] at hid
   have hargs : args = #[x] := Array.toList_inj.1 (by simpa using hx)
   have hats : ats = #[t] := Array.toList_inj.1 (by simpa using ht)
   subst hargs hats
   refine ⟨_, _, _, EfR.mkF hd (one hid) noy (fun {nt B G T H a' w} tr wr ag agH => ?_), h.get⟩
   have e1 : ev T x = some (.mp id) := by rw [← hp]; exact ag.ev (by rw [ho]; simp [Op.operands, Call.operands])
   obtain ⟨b, ms, clk, q1, q2, q3⟩ := mapLen_ok wr (ev_ok tr e1) (by rw [agH id (by simp)]; exact hid)
   refine ⟨.int .i64 es.length, w, G, ?_, GExt.refl G, .p (.int _ _), wr, fun _ h => h⟩
   simp [execOp, ho, resolve, invoke, builtin, q1, Builtin.len_, run_underlying (mapT_ok (htt _ _ hti) hkind), Go.MapKept.run_getObj_map q2, Result.andThen, q3, goInt]
 · exact h.elim
end Go.Proofs.Ytcajncmjlmpkgaa
