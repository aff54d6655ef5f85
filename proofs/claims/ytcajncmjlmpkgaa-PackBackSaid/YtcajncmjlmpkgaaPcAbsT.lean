/- A call by a contract on the abstract heap that changes no object, as an operation of a region whose order is open. Own work; no condition. -/
import Derived.Test.YtcajncmjlmpkgaaPcAbsR
namespace Go.Proofs.Ytcajncmjlmpkgaa
open Go Go.RowKit
set_option linter.unusedVariables false
noncomputable def Ghost.only (G G' : Ghost) : Ghost := { mem := G'.mem, obj := fun j => @ite _ (G.obj j = none) (Classical.propDecidable _) none (G'.obj j) }
theorem Ghost.only_some {G G' : Ghost} {j : Nat} {x : GO} (h : G.obj j = some x) : (G.only G').obj j = G'.obj j := by
 unfold Ghost.only
 exact @if_neg _ (Classical.propDecidable _) (by rw [h]; exact fun e => by cases e) _ _ _
theorem Ghost.only_none {G G' : Ghost} {j : Nat} (h : G.obj j = none) : (G.only G').obj j = none := by
 unfold Ghost.only
 exact @if_pos _ (Classical.propDecidable _) h _ _ _
theorem Ghost.only_of {G G' : Ghost} {j : Nat} {x : GO} (h : (G.only G').obj j = some x) : G'.obj j = some x ∧ ∃ y, G.obj j = some y := by
 cases hg : G.obj j with
 | none => rw [Ghost.only_none hg] at h; cases h
 | some y => rw [Ghost.only_some hg] at h; exact ⟨h, y, rfl⟩
theorem nth_ex {α : Type} {vs : Array α} {n i : Nat} (h : vs.size = n) (hi : i < n) : ∃ u, vs[i]? = some u := ⟨_, Array.getElem?_eq_getElem (by omega)⟩
theorem RV.only {G G' : Ghost} {c : AV} {v : Value} (h : RV G' c v) : ∀ {v0 : Value}, RV G c v0 → RV (G.only G') c v := by
 induction h with
 | p h => intro _ _; exact .p h
 | ref off h => intro _ h0; cases h0 with | ref _ h0 => exact .ref off (by rw [Ghost.only_some h0]; exact h)
 | tok h ho hle he => intro _ h0; cases h0 with | tok _ h0 _ _ => exact .tok h (by rw [Ghost.only_some h0]; exact ho) hle he
 | ms h hn hc => intro _ h0; cases h0 with | ms h0 _ _ => exact .ms (by rw [Ghost.only_some h0]; exact h) hn hc
 | fn hl hr ih =>
   intro _ h0
   cases h0 with
   | fn hl0 hr0 =>
     refine .fn hl fun i c v hc hv => ?_
     obtain ⟨u, hu⟩ := nth_ex hl0 (List.getElem?_eq_some_iff.1 hc).1
     exact ih i c v hc hv (hr0 i c u hc hu)
 | full h => intro _ _; exact .full h
 | agg hl hr ih =>
   intro _ h0
   cases h0 with
   | agg hl0 hr0 =>
     refine .agg hl fun i c v hc hv => ?_
     obtain ⟨u, hu⟩ := nth_ex hl0 (List.getElem?_eq_some_iff.1 hc).1
     exact ih i c v hc hv (hr0 i c u hc hu)
 | tup hl hr ih =>
   intro _ h0
   cases h0 with
   | tup hl0 hr0 =>
     refine .tup hl fun i c v hc hv => ?_
     obtain ⟨u, hu⟩ := nth_ex hl0 (List.getElem?_eq_some_iff.1 hc).1
     exact ih i c v hc hv (hr0 i c u hc hu)
 | un v => intro _ _; exact .un v
 | vec ho hg hs hv => intro _ h0; cases h0 with | vec h0 _ _ _ => exact .vec (by rw [Ghost.only_some h0]; exact ho) hg hs hv
 | vref ho hg hs hv => intro _ h0; cases h0 with | vref h0 _ _ _ => exact .vref (by rw [Ghost.only_some h0]; exact ho) hg hs hv
 | rvec ho hg hs hv => intro _ h0; cases h0 with | rvec h0 _ _ _ => exact .rvec (by rw [Ghost.only_some h0]; exact ho) hg hs hv
 | rref ho hg hs hv => intro _ h0; cases h0 with | rref h0 _ _ _ => exact .rref (by rw [Ghost.only_some h0]; exact ho) hg hs hv
 | rtok hp ho hk hv => intro _ h0; cases h0 with | rtok _ h0 _ _ => exact .rtok hp (by rw [Ghost.only_some h0]; exact ho) hk hv
 | nils h => intro _ _; exact .nils h
 | ifc hp => intro _ _; exact .ifc hp
 | mp h => intro _ h0; cases h0 with | mp h0 => exact .mp (by rw [Ghost.only_some h0]; exact h)
theorem ObjR.only {G G' : Ghost} {w w' : World} {id : Nat} {x : AObj} (h : ObjR G w id x) (h' : ObjR G' w' id x) : ObjR (G.only G') w' id x := by
 cases x with
 | cells cs =>
   obtain ⟨b0, arr0, t0, p1, p2, p3, p4, p5⟩ := h
   obtain ⟨b, arr, t, q1, q2, q3, q4, q5⟩ := h'
   refine ⟨b, arr, t, by rw [Ghost.only_some p1]; exact q1, q2, q3, fun i c v hc hv => ?_, q5⟩
   obtain ⟨u, hu⟩ := nth_ex p3 (List.getElem?_eq_some_iff.1 hc).1
   exact (q4 i c v hc hv).only (p4 i c u hc hu)
 | spare n size =>
   obtain ⟨u0, own0, p1, _⟩ := h
   obtain ⟨u, own, q1, q2⟩ := h'
   exact ⟨u, own, by rw [Ghost.only_some p1]; exact q1, q2⟩
 | gone => trivial
 | elts es size =>
   obtain ⟨_, k0, b0, arr0, t0, p1, _⟩ := h
   obtain ⟨q0, k, b, arr, t, q1, q2, q3, q4, q5⟩ := h'
   refine ⟨q0, k, b, arr, t, by rw [Ghost.only_some p1]; exact q1, q2, q3, fun i c v hc hv => ?_, q5⟩
   rcases elC_get hc with ⟨y, rfl⟩ | rfl
   · have := q4 i _ v hc hv
     cases this with
     | p h => exact .p h
   · exact .un v
 | vec g es size =>
   obtain ⟨_, a0, c0, o0, p1, _⟩ := h
   obtain ⟨q0, a, cap, own, q1, q2⟩ := h'
   exact ⟨q0, a, cap, own, by rw [Ghost.only_some p1]; exact q1, q2⟩
 | rvec g k ls size =>
   obtain ⟨a0, c0, o0, cv0, sb0, p1, _⟩ := h
   obtain ⟨a, cap, own, cv, sub, q1, q2⟩ := h'
   exact ⟨a, cap, own, cv, sub, by rw [Ghost.only_some p1]; exact q1, q2⟩
 | rhole g k ls size i =>
   obtain ⟨a0, c0, o0, cv0, sb0, p1, _⟩ := h
   obtain ⟨a, cap, own, cv, sub, q1, q2⟩ := h'
   exact ⟨a, cap, own, cv, sub, by rw [Ghost.only_some p1]; exact q1, q2⟩
 | map es =>
   obtain ⟨b0, m0, c0, p1, _⟩ := h
   obtain ⟨b, ms, clk, q1, q2⟩ := h'
   exact ⟨b, ms, clk, by rw [Ghost.only_some p1]; exact q1, q2⟩
theorem GExt.only {G G' : Ghost} (e : GExt G G') : GExt G (G.only G') :=
 ⟨e.mem, fun id b h => by rw [Ghost.only_some h]; exact e.box id b h, fun id c u o h => by rw [Ghost.only_some h]; exact e.tok id c u o h, fun id c u o k cv s h => by rw [Ghost.only_some h]; exact e.fam id c u o k cv s h⟩
theorem WR.only {B : Base} {G G' : Ghost} {H : List AObj} {w w' : World} (h : WR B G H w) (h' : WR B G' H w') : WR B (G.only G') H w' := by
 refine ⟨h'.below, h'.mem, h'.news, h'.olds, fun id x hx => (h.objs id x hx).only (h'.objs id x hx), fun i j x y b hi hj => ?_, fun i x b hi => ?_, fun id hid => ?_, h'.keep, fun i x b hi => ?_⟩
 · exact h'.sep i j x y b (Ghost.only_of hi).1 (Ghost.only_of hj).1
 · exact h'.fresh i x b (Ghost.only_of hi).1
 · cases hg : G.obj id with
   | none => exact Ghost.only_none hg
   | some y => rw [Ghost.only_some hg]; exact h'.dom id hid
 · exact h'.apart i x b (Ghost.only_of hi).1
theorem efW {P : Program} {o : Oper} {A : AS} {nx : Nat} {f : Operand} {args : Array Operand} {ats : Array TypeId} {fv : AV} {k : FuncId} {caps vs : List AV} {y : PV} {s : List Nat}
   (ho : o.op = .call { callee := .value f, args := args, argTypes := ats }) (hf : ev A.T f = some fv) (hfn : ∀ G v, RV G fv v → FnR G k caps v) (hvs : args.toList.mapM (ev A.T) = some vs) (hlt : ∀ id, id ∈ s → id < A.H.length)
   (hrun : ∀ H' : List AObj, (∀ id, id ∈ s → H'[id]? = A.H[id]?) → ACall P k (vs ++ caps) H' fun r H1 => r = .p y ∧ H1 = H') : EfR P o A nx ⟨tw o.dst (.p y), none⟩ s nx := by
 refine ⟨fun d x h => ?_, fun id x h => (by cases h), .inr ⟨rfl, fun hl id hid => by rw [← hl]; exact hlt id hid⟩, ?_⟩
 · simp only [tw, Option.map_eq_some_iff, Prod.mk.injEq] at h
   obtain ⟨a, h1, h2, _⟩ := h
   rw [h1, h2]
 intro nt B G T H a w tr wr hd ag agH hlen hnew Q
 have ka : ∀ x, x ∈ args.toList → ev T x = ev A.T x := fun x hx => ag.ev (by rw [ho]; simp [Op.operands, Call.operands]; exact .inr (by simpa using hx))
 have hf' : ev T f = some fv := by rw [ag.ev (by rw [ho]; simp [Op.operands, Call.operands])]; exact hf
 have hvs' : args.toList.mapM (ev T) = some vs := by rw [mapM_congr' _ ka]; exact hvs
 have hA := hrun H fun id hid => agH id hid (by have := hlt id hid; omega)
 obtain ⟨cvs, hfv, hl, hr⟩ := hfn G _ (ev_ok tr hf')
 obtain ⟨h1, h2⟩ := mapM_get hvs'
 have h1' : args.size = vs.length := by simpa using h1
 have hargs : RVL G (vs ++ caps) ((args.map a.eval).toList ++ cvs.toList) := by
   refine ⟨by simp; omega, fun i x v hx hv => ?_⟩
   rcases Nat.lt_or_ge i vs.length with g | g
   · rw [List.getElem?_append_left g] at hx
     rw [List.getElem?_append_left (by simp; omega)] at hv
     simp only [Array.toList_map, List.getElem?_map, Option.map_eq_some_iff] at hv
     obtain ⟨q, hq, rfl⟩ := hv
     exact ev_ok tr (h2 i q x hq hx)
   · rw [List.getElem?_append_right g] at hx
     rw [List.getElem?_append_right (by simp; omega)] at hv
     refine hr _ x v hx ?_
     rw [← hv]; simp; congr 1; omega
 have hc := hA.run B G w _ wr hargs
 have e : (args.map a.eval ++ cvs) = ((args.map a.eval).toList ++ cvs.toList).toArray := by apply Array.ext'; simp
 rw [← e] at hc
 refine wp_call ho hfv hc fun en w' ⟨r, G', H', e1, e3, e4, e5, e6⟩ => ?_
 subst e5 e6
 obtain ⟨v, e1, e2⟩ := e1.alive rfl
 have e2' : RV (G.only G') (.p y) v := by
   cases e2 with
   | p h => exact .p h
 exact .inl ⟨v, e1, G.only G', e3.only, by rw [← putT_tw]; exact (tr.mono e3.only).put o.dst _ v hd e2', wr.only e4, fun j _ h => Ghost.only_none h⟩
structure FrX (cc : FuncId → List AV → List AObj → (AV → List AObj → Prop) → Prop) (k : FuncId) (as : List AV) (H : List AObj) (K : PV → List Nat → Prop) : Prop where
 h : ∃ y s, (∀ id, id ∈ s → id < H.length) ∧ (∀ H' : List AObj, (∀ id, id ∈ s → H'[id]? = H[id]?) → cc k as H' fun r H1 => r = .p y ∧ H1 = H') ∧ K y s
theorem WR.onlySet {B : Base} {G G' : Ghost} {H : List AObj} {w w' : World} (h : WR B G H w) {id n m es : Nat} (hid : H[id]? = some (.spare n es)) (h' : WR B G' (H.set id (.spare m es)) w') : WR B (G.only G') (H.set id (.spare m es)) w' := by
 refine ⟨h'.below, h'.mem, h'.news, h'.olds, fun j x hx => ?_, fun i j x y b hi hj => ?_, fun i x b hi => ?_, fun j hj => ?_, h'.keep, fun i x b hi => ?_⟩
 · by_cases e : id = j
   · subst e
     have hlt := (List.getElem?_eq_some_iff.1 hid).1
     have hx' := hx
     rw [List.getElem?_set_self hlt] at hx
     simp only [Option.some.injEq] at hx; subst hx
     obtain ⟨u0, own0, p1, _⟩ := h.objs id _ hid
     obtain ⟨u, own, q1, q2⟩ := h'.objs id _ hx'
     exact ⟨u, own, by rw [Ghost.only_some p1]; exact q1, q2⟩
   · have hx' := hx
     rw [getElem?_set_ne' e] at hx
     exact (h.objs j x hx).only (h'.objs j x hx')
 · exact h'.sep i j x y b (Ghost.only_of hi).1 (Ghost.only_of hj).1
 · exact h'.fresh i x b (Ghost.only_of hi).1
 · cases hg : G.obj j with
   | none => exact Ghost.only_none hg
   | some y => rw [Ghost.only_some hg]; exact h'.dom j hj
 · exact h'.apart i x b (Ghost.only_of hi).1
theorem efT {P : Program} {o : Oper} {A : AS} {nx : Nat} {f : Operand} {args : Array Operand} {ats : Array TypeId} {fv : AV} {k : FuncId} {caps vs : List AV} {id n m es : Nat} {L : List (List PV)}
   (ho : o.op = .call { callee := .value f, args := args, argTypes := ats }) (hf : ev A.T f = some fv) (hfn : ∀ G v, RV G fv v → FnR G k caps v) (hvs : args.toList.mapM (ev A.T) = some vs) (hid : A.H[id]? = some (.spare n es))
   (hrun : ∀ H' : List AObj, H'[id]? = A.H[id]? → ACall P k (vs ++ caps) H' fun r H1 => r = .tok id L ∧ H1 = H'.set id (.spare m es)) : EfR P o A nx ⟨tw o.dst (.tok id L), some (id, .spare m es)⟩ [id] nx := by
 have hlt := (List.getElem?_eq_some_iff.1 hid).1
 refine ⟨fun d x h => ?_, fun i x h => by simp at h; simp [h.1], .inr ⟨rfl, fun hl i hi => by simp at hi; subst hi; omega⟩, ?_⟩
 · simp only [tw, Option.map_eq_some_iff, Prod.mk.injEq] at h
   obtain ⟨a, h1, h2, _⟩ := h
   rw [h1, h2]
 intro nt B G T H a w tr wr hd ag agH hlen hnew Q
 have ka : ∀ x, x ∈ args.toList → ev T x = ev A.T x := fun x hx => ag.ev (by rw [ho]; simp [Op.operands, Call.operands]; exact .inr (by simpa using hx))
 have hf' : ev T f = some fv := by rw [ag.ev (by rw [ho]; simp [Op.operands, Call.operands])]; exact hf
 have hvs' : args.toList.mapM (ev T) = some vs := by rw [mapM_congr' _ ka]; exact hvs
 have hidH : H[id]? = A.H[id]? := agH id (by simp) (by omega)
 have hA := hrun H hidH
 obtain ⟨cvs, hfv, hl, hr⟩ := hfn G _ (ev_ok tr hf')
 obtain ⟨h1, h2⟩ := mapM_get hvs'
 have h1' : args.size = vs.length := by simpa using h1
 have hargs : RVL G (vs ++ caps) ((args.map a.eval).toList ++ cvs.toList) := by
   refine ⟨by simp; omega, fun i x v hx hv => ?_⟩
   rcases Nat.lt_or_ge i vs.length with g | g
   · rw [List.getElem?_append_left g] at hx
     rw [List.getElem?_append_left (by simp; omega)] at hv
     simp only [Array.toList_map, List.getElem?_map, Option.map_eq_some_iff] at hv
     obtain ⟨q, hq, rfl⟩ := hv
     exact ev_ok tr (h2 i q x hq hx)
   · rw [List.getElem?_append_right g] at hx
     rw [List.getElem?_append_right (by simp; omega)] at hv
     refine hr _ x v hx ?_
     rw [← hv]; simp; congr 1; omega
 have hc := hA.run B G w _ wr hargs
 have e : (args.map a.eval ++ cvs) = ((args.map a.eval).toList ++ cvs.toList).toArray := by apply Array.ext'; simp
 rw [← e] at hc
 refine wp_call ho hfv hc fun en w' ⟨r, G', H', e1, e3, e4, e5, e6⟩ => ?_
 subst e5 e6
 obtain ⟨v, e1, e2⟩ := e1.alive rfl
 have hH0 : H[id]? = some (.spare n es) := hidH.trans hid
 obtain ⟨u0, own0, p1, _⟩ := wr.objs id _ hH0
 have e2' : RV (G.only G') (.tok id L) v := by
   cases e2 with
   | tok h ho hle he => exact .tok h (by rw [Ghost.only_some p1]; exact ho) hle he
 exact .inl ⟨v, e1, G.only G', e3.only, by rw [← putT_tw]; exact (tr.mono e3.only).put o.dst _ v hd e2', wr.onlySet hH0 e4, fun j _ h => Ghost.only_none h⟩
structure FrT (cc : FuncId → List AV → List AObj → (AV → List AObj → Prop) → Prop) (k : FuncId) (as : List AV) (H : List AObj) (K : AV → Nat → AObj → Prop) : Prop where
 h : ∃ id n m es L, H[id]? = some (.spare n es) ∧ (∀ H' : List AObj, H'[id]? = H[id]? → cc k as H' fun r H1 => r = .tok id L ∧ H1 = H'.set id (.spare m es)) ∧ K (.tok id L) id (.spare m es)
structure TwoU (X Y : Unit → Prop) : Prop where
 h : X () ∨ Y ()
theorem TwoU.l {X Y : Unit → Prop} (h : X ()) : TwoU X Y := ⟨.inl h⟩
theorem TwoU.r {X Y : Unit → Prop} (h : Y ()) : TwoU X Y := ⟨.inr h⟩
end Go.Proofs.Ytcajncmjlmpkgaa
