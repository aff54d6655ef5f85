/- Lists written out; calls; every operation holds; regions in the order of the text. Own work; no condition. -/
import Derived.Test.YtaaocppaepnhbaaAbs11
namespace Go.Proofs.Ytaaocppaepnhbaa
open Go Go.RowKit

theorem flatten_rep {α : Type} (zs : List α) : ∀ (n j : Nat), j < n * zs.length → (List.replicate n zs).flatten[j]? = zs[j % zs.length]? := by
  intro n
  induction n with
  | zero => intro j h; simp at h
  | succ n ih =>
    intro j h
    rw [List.replicate_succ, List.flatten_cons]
    by_cases g : j < zs.length
    · rw [List.getElem?_append_left g, Nat.mod_eq_of_lt g]
    · rw [List.getElem?_append_right (by omega), ih _ (by rw [Nat.add_mul] at h; omega)]
      congr 1
      exact (Nat.mod_eq_sub_mod (by omega)).symm

theorem chunk_get {size : Nat} : ∀ (n : Nat) (ps : List PV) (i : Nat) (e : List PV), (chunk size n ps)[i]? = some e → i < n ∧ e = (ps.drop (i * size)).take size := by
  intro n
  induction n with
  | zero => intro ps i e h; simp [chunk] at h
  | succ n ih =>
    intro ps i e h
    simp only [chunk] at h
    cases i with
    | zero => simp at h; subst h; simp
    | succ i =>
      simp only [List.getElem?_cons_succ] at h
      obtain ⟨h1, h2⟩ := ih _ i e h
      refine ⟨by omega, ?_⟩
      rw [h2, List.drop_drop]; congr 2; rw [Nat.add_mul]; omega

theorem chunk_length {size : Nat} : ∀ (n : Nat) (ps : List PV), (chunk size n ps).length = n := by
  intro n
  induction n with
  | zero => intro ps; rfl
  | succ n ih => intro ps; simp [chunk, ih]

theorem buildSlice_ok {P : Program} {B : Base} {G : Ghost} {H : List AObj} {w : World} (wr : WR B G H w) {t e es eb n : Nat} {ti ei : TI} (kt : tinfo P t = some ti) (kk : ti.kind = .slice e es eb) (ke : tinfo P e = some ei) {l : List (Nat × AV)} {vs : Array (Nat × Value)} {cs : List AV} {ps : List PV}
    (hl : l.length = vs.size) (hp : ∀ (j : Nat) p v, l[j]? = some p → vs[j]? = some v → p.1 = v.1 ∧ RV G p.2 v.2) (hf : fillV (fun i => some (i * es, es)) (List.replicate n ei.zero).flatten l = some cs) (hpure : cs.mapM AV.pure1 = some ps)
    (h24 : n * es ≤ 16777216) (hes : es ≠ 0) (hsz : ei.size = es) (hmax : n ≤ maxLen) :
    ∃ v w' G', (Instr.buildSlice t n vs).run P w = .ok v w' ∧ GExt G G' ∧ WR B G' H w' ∧ RV G' (.full (chunk es n ps)) v ∧ G'.obj = G.obj := by
  obtain ⟨i, d, z, k⟩ := tinfo_ok kt
  obtain ⟨i', d', z', k'⟩ := tinfo_ok ke
  have hd := k.kind
  rw [kk] at hd
  cases d <;> simp only [tkind, reduceCtorEq, TK.slice.injEq] at hd
  rename_i et
  obtain ⟨he, hes', heb⟩ := hd
  subst he
  have hz := k'.zero_rv (G := G)
  have hzl : ei.zero.length = es := by rw [k'.zl, hsz]
  have hzs : z'.cells.size = es := by rw [hz.1, hzl]
  let cells0 : Array Value := (Array.range (n * es)).map (fun j => (if n * es = 0 then (#[] : Array Value) else z'.cells)[j % (if n * es = 0 then (#[] : Array Value) else z'.cells).size]!)
  have hflen : (List.replicate n ei.zero).flatten.length = n * es := by simp [hzl]
  obtain ⟨out, ho, hos, hor⟩ := fillV_ok (G := G) (fun i => some (i * es, es)) l vs.toList _ cs cells0 (by simpa using hl) (fun j p v h1 h2 => hp j p v h1 (by simpa using h2)) (by rw [hflen]; simp [cells0]) (fun j c v hc hv => by
    have hlt : j < n * es := by rw [← hflen]; exact (List.getElem?_eq_some_iff.1 hc).1
    rw [flatten_rep _ _ _ (by rw [hzl]; exact hlt), hzl] at hc
    have hne : ¬ n * es = 0 := by omega
    have hm : j % es < z'.cells.size := by rw [hzs]; exact Nat.mod_lt _ (by omega)
    have hv' : v = z'.cells[j % es] := by
      simp only [cells0, if_neg hne, hzs] at hv
      simp [hlt] at hv
      rw [← hv]; simp [getElem!_pos, hm]
    subst hv'
    exact hz.2 _ c _ hc (by simp [hm])) hf
  have g := wr.newMem out et
  obtain ⟨p1, p2⟩ := mapM_get hpure
  have hcl : cs.length = n * es := by
    have : ∀ (l : List (Nat × AV)) (c r : List AV), fillV (fun i => some (i * es, es)) c l = some r → r.length = c.length := by
      intro l
      induction l with
      | nil => intro c r h; simp only [fillV, Option.some.injEq] at h; subst h; rfl
      | cons x l ih =>
        intro c r h
        obtain ⟨i, x⟩ := x
        simp only [fillV] at h
        split at h <;> try (cases h; done)
        rename_i h1 h2
        split at h <;> try (cases h; done)
        rename_i hc
        simp only [Option.some.injEq, Prod.mk.injEq] at h1
        rw [ih _ _ h, splice_length _ _ _ (by omega)]
    rw [this _ _ _ hf, hflen]
  refine ⟨.slice (some ⟨w.heap.size, 0, none⟩) n n, _, _, ?_, g.2, g.1, .full ?_, rfl⟩
  · have hsize : (sizeOf et).run P w = .ok es w := by rw [k'.run_size w, hsz]
    simp only [Instr.buildSlice, Sem.run_bind, k.run_und w, Result.andThen_ok, hsize]
    rw [if_neg (by omega)]
    split
    · rename_i h0
      have ho' := ho
      simp only [cells0, h0, if_true] at ho'
      simp only [h0, Sem.run_bind, Sem.run_pure, Result.andThen_ok, ho', newRow]
      rfl
    · rename_i h0
      have ho' := ho
      simp only [cells0, h0, if_false] at ho'
      simp only [Sem.run_bind, k'.run_zero w, Sem.run_pure, Result.andThen_ok, ho', newRow]
      rfl
  · refine .sl _ es w.heap.size 0 n n (fun i j => (out[i * es + j]?).getD undef) (chunk_length _ _) (Nat.le_refl _) hmax (fun x hx => ?_) (fun i x j hi hj => ?_) (fun i x j c hi hj => ?_)
    · obtain ⟨i, hi⟩ := List.getElem?_of_mem hx
      obtain ⟨h1, rfl⟩ := chunk_get n ps i x hi
      have : (i + 1) * es ≤ n * es := Nat.mul_le_mul_right _ h1
      rw [Nat.add_mul] at this
      simp; omega
    · obtain ⟨h1, rfl⟩ := chunk_get n ps i x hi
      have : (i + 1) * es ≤ n * es := Nat.mul_le_mul_right _ h1
      rw [Nat.add_mul] at this
      simp at hj
      have hlt : i * es + j < out.size := by rw [hos, hcl]; omega
      simp [hlt]
    · obtain ⟨h1, rfl⟩ := chunk_get n ps i x hi
      rw [List.getElem?_take] at hj
      split at hj <;> try (cases hj; done)
      rename_i hje
      rw [List.getElem?_drop] at hj
      have hlt : i * es + j < ps.length := (List.getElem?_eq_some_iff.1 hj).1
      have hlt' : i * es + j < cs.length := by omega
      have hlo : i * es + j < out.size := by omega
      have hcs : cs[i * es + j]? = some (cs[i * es + j]) := List.getElem?_eq_getElem hlt'
      have r := hor _ _ _ hcs (Array.getElem?_eq_getElem hlo)
      have := pure1_ok r (p2 _ _ _ hcs hj)
      simp only [Array.getElem?_eq_getElem hlo, Option.getD_some]
      exact this.mono g.2.mem

/-- A function's value: which function, and what it holds. -/
def FnR (G : Ghost) (k : FuncId) (caps : List AV) (v : Value) : Prop := ∃ cvs : Array Value, v = .func (.func k) #[] cvs ∧ cvs.size = caps.length ∧ ∀ (i : Nat) c u, caps[i]? = some c → cvs[i]? = some u → RV G c u
theorem FnR.of_fn {G : Ghost} {k : FuncId} {caps : List AV} {v : Value} (h : RV G (.fn k caps) v) : FnR G k caps v := by cases h with | fn hl hr => exact ⟨_, rfl, hl, hr⟩
theorem FnR.of_p {G : Ghost} {k : FuncId} {cs : List PV} {v : Value} (h : RV G (.p (.fn k cs)) v) : FnR G k (cs.map .p) v := by
  cases h with
  | p hp =>
    cases hp with
    | fn _ _ vs hl hr =>
      refine ⟨vs, rfl, by rw [List.length_map]; exact hl, fun i c u hc hu => ?_⟩
      rw [List.getElem?_map, Option.map_eq_some_iff] at hc
      obtain ⟨y, hy, rfl⟩ := hc
      exact .p (hr i y u hy hu)

theorem wp_call {P : Program} {a : Act} {w : World} {o : Oper} {f : Operand} {args : Array Operand} {ats : Array TypeId} {k : FuncId} {cvs : Array Value} (ho : o.op = .call { callee := .value f, args := args, argTypes := ats }) (hfv : a.eval f = .func (.func k) #[] cvs)
    {R : Ending → World → Prop} (h : Runs P k (args.map a.eval ++ cvs) w R) {N : Act → World → Prop} {Q : Exit → Act → World → Prop} (hq : ∀ e w', R e w' → ∃ v, e = .returned v ∧ N (a.put o.dst v) w') : o.wp P a w N Q := by
  unfold Oper.wp
  by_cases hcal : callable P k = true
  · have hc := h.calls hcal
    unfold callable at hcal
    split at hcal <;> try (cases hcal; done)
    rename_i fn hfn
    simp only [Bool.and_eq_true, Bool.not_eq_true', Option.isSome_iff_exists] at hcal
    obtain ⟨hname, body, hbody⟩ := hcal
    have hrun : (execOp a.eval o).run P w = .ok (.enter k (args.map a.eval ++ cvs)) w := by
      simp only [execOp, ho, resolve, hfv, Deferred.ofValue, Sem.run_bind, Sem.run_pure, Result.andThen_ok, invoke, callFunc, program, Sem.run, hfn, hname, Bool.false_eq_true, if_false, hbody, Option.isNone]
      simp
    rw [hrun]
    show Calls P k (args.map a.eval ++ cvs) w _
    refine hc.mono fun en w' hr => ?_
    obtain ⟨v, rfl, h2⟩ := hq _ _ hr
    exact h2
  · unfold Runs at h
    rw [if_neg hcal] at h
    obtain ⟨v, w', hr, h2⟩ := h
    have hrun : (execOp a.eval o).run P w = .ok (.value v) w' := by
      rw [← hr]
      simp only [execOp, ho, resolve, hfv, Deferred.ofValue, Sem.run_bind, Sem.run_pure, Result.andThen_ok, invoke]
      simp
    rw [hrun]
    obtain ⟨v', e, h3⟩ := hq _ _ h2
    simp only [Ending.returned.injEq] at e; subst e
    exact h3

theorem call_ok {P : Program} {nt : Nat} {B : Base} {G : Ghost} {T : List (Nat × AV)} {H : List AObj} {a : Act} {w : World} (tr : TR nt G T a) (wr : WR B G H w) {o : Oper} {f : Operand} {args : Array Operand} {ats : Array TypeId} (ho : o.op = .call { callee := .value f, args := args, argTypes := ats })
    (hd : ∀ d, o.dst = some d → d < nt) {k : FuncId} {caps vs : List AV} (rf : FnR G k caps (a.eval f)) (hv : args.toList.mapM (ev T) = some vs) {K : AS → Prop} (h : ACall P k (vs ++ caps) H fun r H' => K ⟨putT T o.dst r, H'⟩) (Q : Exit → Act → World → Prop) : o.wp P a w (Nx B nt G K) Q := by
  obtain ⟨cvs, hfv, hl, hr⟩ := rf
  · obtain ⟨h1, h2⟩ := mapM_get hv
    have h1' : args.size = vs.length := by simpa using h1
    have hargs : RVL G (vs ++ caps) ((args.map a.eval).toList ++ cvs.toList) := by
      refine ⟨by simp; omega, fun i x v hx hv => ?_⟩
      rcases Nat.lt_or_ge i vs.length with g | g
      · rw [List.getElem?_append_left g] at hx
        rw [List.getElem?_append_left (by simp; omega)] at hv
        simp only [Array.toList_map, List.getElem?_map, Option.map_eq_some_iff] at hv
        obtain ⟨q, hq, rfl⟩ := hv
        exact ev_ok tr (h2 i q x hq hx)
      · rw [List.getElem?_append_right g] at hx
        rw [List.getElem?_append_right (by simp; omega)] at hv
        refine hr _ x v hx ?_
        rw [← hv]; simp; congr 1; omega
    have hc := h.run B G w _ wr hargs
    have e : (args.map a.eval ++ cvs) = ((args.map a.eval).toList ++ cvs.toList).toArray := by apply Array.ext'; simp
    rw [← e] at hc
    exact wp_call ho hfv hc fun en w' ⟨v, r, G', H', e1, e2, e3, e4, e5⟩ => ⟨v, e1, G', _, e3, (tr.mono e3).put o.dst r v hd e2, e4, e5⟩

theorem wop_ok {P : Program} {nt : Nat} {B : Base} {G : Ghost} {A : AS} {a : Act} {w : World} (tr : TR nt G A.T a) (wr : WR B G A.H w) {o : Oper} (hd : ∀ d, o.dst = some d → d < nt) {K : AS → Prop} (h : wop P o A K) (Q : Exit → Act → World → Prop) :
    o.wp P a w (Nx B nt G K) Q := by
  have lift : ∀ {s : Sem Value} {v : Value} {w' : World}, s.run P w = .ok v w' → (do pure (Next.value (← s)) : Sem Next).run P w = .ok (.value v) w' := by
    intro s v w' hs; simp only [Sem.run_bind, hs, Result.andThen_ok, Sem.run_pure]
  have plain : ∀ (v : AV), vop P A.T A.H o.op = some v → K ⟨putT A.T o.dst v, A.H⟩ → o.wp P a w (Nx B nt G K) Q := by
    intro v hv hk
    obtain ⟨u, h1, h2⟩ := vop_ok tr wr hv
    exact Nx.of_value h1 hd tr (GExt.refl G) wr h2 hk
  unfold wop at h
  split at h
  · rename_i t ho
    obtain ⟨ti, kt, hk⟩ := need_iff.1 h
    obtain ⟨v, w', G', r1, r2, r3, r4⟩ := alloc_ok wr kt
    exact Nx.of_value (by simp only [execOp, ho]; exact lift r1) hd tr r2 r3 r4 hk
  · rename_i t x ho
    obtain ⟨v, hv, h⟩ := need_iff.1 h
    obtain ⟨l, hl, hk⟩ := need_iff.1 h
    obtain ⟨u, w', G', r1, r2, r3, r4⟩ := box_ok (P := P) (t := t) wr (ev_ok tr hv) hl
    exact Nx.of_value (by simp only [execOp, ho]; exact lift r1) hd tr r2 r3 r4 hk
  · rename_i t x y ho
    obtain ⟨hdst, h⟩ := h
    obtain ⟨ti, kt, h⟩ := need_iff.1 h
    obtain ⟨p, hp, h⟩ := need_iff.1 h
    obtain ⟨v, hv, h⟩ := need_iff.1 h
    obtain ⟨l, hl, h⟩ := need_iff.1 h
    obtain ⟨H', hs, hk⟩ := need_iff.1 h
    obtain ⟨w', r1, r2⟩ := store_ok wr kt (ev_ok tr hp) (ev_ok tr hv) hl hs
    have hrun : (execOp a.eval o).run P w = .ok .skip w' := by
      simp only [execOp, ho, Sem.run_bind, r1, Result.andThen_ok, Sem.run_pure]
    unfold Oper.wp
    rw [hrun]
    refine ⟨G, _, GExt.refl G, ?_, r2, hk⟩
    rw [hdst]; exact tr
  · rename_i t n ps ho
    obtain ⟨ti, kt, h⟩ := need_iff.1 h
    split at h <;> try (exact h.elim)
    rename_i e es eb kk
    obtain ⟨ei, ke, h⟩ := need_iff.1 h
    obtain ⟨l, hl, h⟩ := need_iff.1 h
    obtain ⟨cs, hcs, h⟩ := need_iff.1 h
    obtain ⟨pv, hpv, h24, hes, hsz, hk⟩ := need_iff.1 h
    obtain ⟨l1, l2⟩ := mapM_get hl
    obtain ⟨v, w', G', r1, r2, r3, r4, _⟩ := buildSlice_ok wr kt kk ke (vs := ps.map fun (i, x) => (i, a.eval x)) (by simp; simpa using l1.symm) (fun j p v hp hv => by
      simp only [Array.getElem?_map, Option.map_eq_some_iff] at hv
      obtain ⟨q, hq, rfl⟩ := hv
      have := l2 j q p (by simpa using hq) hp
      rw [Option.map_eq_some_iff] at this
      obtain ⟨y, hy, rfl⟩ := this
      exact ⟨rfl, ev_ok tr hy⟩) hcs hpv h24 hes hsz (by
        have : n * 1 ≤ n * es := Nat.mul_le_mul_left _ (by omega)
        simp only [maxLen]; omega)
    exact Nx.of_value (by simp only [execOp, ho]; exact lift r1) hd tr r2 r3 r4 hk
  · rename_i c ho
    obtain ⟨callee, args, ats⟩ := c
    simp only at h
    split at h
    · rename_i s x t xt ha ht
      have ha := arr2 ha; have ht := arr2 ht; subst ha ht
      obtain ⟨sv, hs, h⟩ := need_iff.1 h
      obtain ⟨xv, hx, h⟩ := need_iff.1 h
      obtain ⟨v, w', G', y, H', r1, r2, r3, r4, r5⟩ := append_ok (ty := o.type) wr (ev_ok tr hs) (ev_ok tr hx) h
      refine Nx.of_value ?_ hd tr r2 r3 r4 r5
      simp only [execOp, ho, resolve, invoke, builtin, Sem.run_bind, Sem.run_pure, Result.andThen_ok, List.map_toArray, List.map_cons, List.map_nil, r1]
    · rename_i f
      obtain ⟨fv, hf, h⟩ := need_iff.1 h
      obtain ⟨vs, hv, h⟩ := need_iff.1 h
      split at h <;> try (exact h.elim)
      · exact call_ok tr wr ho hd (FnR.of_fn (ev_ok tr hf)) hv h Q
      · exact call_ok tr wr ho hd (FnR.of_p (ev_ok tr hf)) hv h Q
    · obtain ⟨v, hv, hk⟩ := need_iff.1 h
      exact plain v (by rw [ho]; exact hv) hk
  · obtain ⟨v, hv, hk⟩ := need_iff.1 h
    exact plain v hv hk

end Go.Proofs.Ytaaocppaepnhbaa
