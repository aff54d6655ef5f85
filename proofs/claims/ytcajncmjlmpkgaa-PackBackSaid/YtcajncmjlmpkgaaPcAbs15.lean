/- Regions whose order is open: each operation in whatever state it comes to. Own work; no condition. -/
import Derived.Test.YtcajncmjlmpkgaaPcAbs14
namespace Go.Proofs.Ytcajncmjlmpkgaa
open Go Go.RowKit
theorem mapM_congr' {α β : Type} {f g : α → Option β} : ∀ (l : List α), (∀ x, x ∈ l → f x = g x) → l.mapM f = l.mapM g := by
 intro l
 induction l with
 | nil => intro _; rfl
 | cons a l ih => intro h; simp only [List.mapM_cons, h a (by simp), ih (fun x hx => h x (by simp [hx]))]
def AgT (T T' : List (Nat × AV)) (op : Op) : Prop := ∀ t, Operand.tmp t ∈ op.operands.toList → look T t = look T' t
theorem AgT.ev {T T' : List (Nat × AV)} {op : Op} (h : AgT T T' op) {x : Operand} (hx : x ∈ op.operands.toList) : ev T x = ev T' x := by
 cases x with
 | tmp t => exact h t hx
 | _ => rfl
theorem vop_congr {P : Program} {T T' : List (Nat × AV)} {H H' : List AObj} {op : Op} (h : AgT T T' op) (hh : ∀ id, id ∈ loadFp T' op → H[id]? = H'[id]?) : vop P T H op = vop P T' H' op := by
 have key := fun x hx => h.ev (x := x) hx
 cases op with
 | move x => exact key x (by simp [Op.operands])
 | assign x => exact key x (by simp [Op.operands])
 | pick c a b =>
   simp only [vop]
   rw [key c (by simp [Op.operands]), key a (by simp [Op.operands]), key b (by simp [Op.operands])]
 | load t a =>
   have e := key a (by simp [Op.operands])
   simp only [vop, e]
   simp only [loadFp] at hh
   cases tinfo P t with
   | none => rfl
   | some ti =>
     cases ha : Go.Proofs.Ytcajncmjlmpkgaa.ev T' a with
     | none => rfl
     | some p =>
       rw [ha] at hh
       simp only
       cases p with
       | ref id off => simp only [ldV]; rw [hh id (by simp)]
       | p x => cases x <;> rfl
       | _ => rfl
 | fieldAddr t a f => simp only [vop]; rw [key a (by simp [Op.operands])]
 | indexAddr t a i => simp only [vop]; rw [key a (by simp [Op.operands]), key i (by simp [Op.operands])]
 | index t a i => simp only [vop]; rw [key a (by simp [Op.operands]), key i (by simp [Op.operands])]
 | field t a f => simp only [vop]; rw [key a (by simp [Op.operands])]
 | nilCheck a => simp only [vop]; rw [key a (by simp [Op.operands])]
 | binOp o t x y yt => simp only [vop]; rw [key x (by simp [Op.operands]), key y (by simp [Op.operands])]
 | unOp o t x => simp only [vop]; rw [key x (by simp [Op.operands])]
 | convert s d x => simp only [vop]; rw [key x (by simp [Op.operands])]
 | extract t i => simp only [vop]; rw [key t (by simp [Op.operands])]
 | makeInterface t x => simp only [vop]; rw [key x (by simp [Op.operands])]
 | makeFunc fn first caps =>
   cases fn with
   | func f => simp only [vop]; rw [mapM_congr' _ (fun x hx => key x (by simp [Op.operands] at hx ⊢; exact .inr hx))]
   | _ => rfl
 | slice t x lo hi mx =>
   cases mx with
   | some m => rfl
   | none =>
     simp only [vop]
     rw [key x (by simp [Op.operands])]
     have e1 : lo.bind (Go.Proofs.Ytcajncmjlmpkgaa.ev T) = lo.bind (Go.Proofs.Ytcajncmjlmpkgaa.ev T') := by cases lo with | none => rfl | some l => exact key l (by simp [Op.operands])
     have e2 : hi.bind (Go.Proofs.Ytcajncmjlmpkgaa.ev T) = hi.bind (Go.Proofs.Ytcajncmjlmpkgaa.ev T') := by cases hi with | none => rfl | some l => exact key l (by simp [Op.operands])
     rw [e1, e2]
 | build t ps =>
   simp only [vop]
   rw [mapM_congr' ps.toList (fun x hx => by rw [key x.2 (by simp only [Op.operands, List.mem_map]; exact ⟨x, hx, rfl⟩)])]
 | call c =>
   obtain ⟨callee, args, ats⟩ := c
   have ka : ∀ x, x ∈ args.toList → Go.Proofs.Ytcajncmjlmpkgaa.ev T x = Go.Proofs.Ytcajncmjlmpkgaa.ev T' x := fun x hx => key x (by simp [Op.operands, Call.operands]; exact .inr (by simpa using hx))
   simp only [vop]
   split
   · rename_i x t ha ht
     simp only [ka x (by rw [ha]; simp)]
   · rename_i _ x y ha
     simp only [ka x (by rw [ha]; simp), ka y (by rw [ha]; simp)]
   · rename_i _ x y ha
     simp only [ka x (by rw [ha]; simp), ka y (by rw [ha]; simp)]
   · rfl
 | _ => rfl
def Ef.T (e : Ef) (T : List (Nat × AV)) : List (Nat × AV) := match e.t with | some y => y :: T | none => T
def Ef.H (e : Ef) (H : List AObj) : List AObj := match e.h with | some (id, x) => H.set id x | none => H
theorem putT_tw (T : List (Nat × AV)) (h : Option (Nat × AObj)) (d : Option Nat) (x : AV) : putT T d x = (⟨tw d x, h⟩ : Ef).T T := by cases d <;> rfl
def Goes (nt : NT) (B : Base) (G : Ghost) (T : List (Nat × AV)) (H : List AObj) (e : Ef) (a : Act) (w : World) : Prop :=
 ∃ G', GExt G G' ∧ TR nt G' (e.T T) a ∧ WR B G' (e.H H) w ∧ ∀ j, (∀ x, e.h ≠ some (j, x)) → G.obj j = none → G'.obj j = none
theorem ef_ok {P : Program} {C : CT} (hC : CTOk P C) {nt : NT} {B : Base} {G : Ghost} {T : List (Nat × AV)} {H : List AObj} {A : AS} {nx nx' : Nat} {fp : List Nat} {e : Ef} {a : Act} {w : World} {o : Oper}
   (tr : TR nt G T a) (wr : WR B G H w) (hd : ∀ d, o.dst = some d → d < nt) (h : efOp P C o A nx = some (e, fp, nx')) (ag : AgT T A.T o.op)
   (agH : ∀ id, id ∈ fp → id < nx → H[id]? = A.H[id]?) (hlen : A.H.length = nx) (hnew : nx ∈ fp → (∃ y, H[nx]? = some y) ∧ G.obj nx = none) (Q : Exit → Act → World → Prop) :
   o.wp P a w (Goes nt B G T H e) Q := by
 have lift : ∀ {s : Sem Value} {v : Value} {w' : World}, s.run P w = .ok v w' → (do pure (Next.value (← s)) : Sem Next).run P w = .ok (.value v) w' := by
   intro s v w' hs; simp only [Sem.run_bind, hs, Result.andThen_ok, Sem.run_pure]
 have fin : ∀ {v : Value} {w' : World} {G' : Ghost} {x : AV} {h : Option (Nat × AObj)}, (execOp a.eval o).run P w = .ok (.value v) w' → GExt G G' → RV G' x v → WR B G' ((⟨tw o.dst x, h⟩ : Ef).H H) w' → (∀ j, (∀ x, h ≠ some (j, x)) → G.obj j = none → G'.obj j = none) →
     o.wp P a w (Goes nt B G T H ⟨tw o.dst x, h⟩) Q := by
   intro v w' G' x h hrun ext rx wr' hk
   unfold Oper.wp
   rw [hrun]
   exact ⟨G', ext, by rw [← putT_tw]; exact (tr.mono ext).put o.dst x v hd rx, wr', hk⟩
 have lt_of : ∀ {id : Nat} {y : AObj}, A.H[id]? = some y → id < nx := fun hy => by rw [← hlen]; exact (List.getElem?_eq_some_iff.1 hy).1
 have plain : ∀ v, vop P A.T A.H o.op = some v → (∀ id, id ∈ loadFp A.T o.op → H[id]? = A.H[id]?) → o.wp P a w (Goes nt B G T H ⟨tw o.dst v, none⟩) Q := by
   intro v hv hh
   rw [← vop_congr ag hh] at hv
   obtain ⟨u, h1, h2⟩ := vop_ok tr wr hv
   exact fin h1 (GExt.refl G) h2 wr (fun _ _ h => h)
 have loadok : ∀ v, vop P A.T A.H o.op = some v → ∀ id, id ∈ loadFp A.T o.op → id < nx := by
   intro v hv id hid
   unfold loadFp at hid
   split at hid
   · rename_i t x ho
     split at hid
     · rename_i id' off hx
       simp at hid; subst hid
       rw [ho] at hv
       simp only [vop, hx] at hv
       split at hv <;> try (cases hv; done)
       rename_i ti p hti hp
       simp only [Option.some.injEq] at hp; subst hp
       simp only [ldV] at hv
       split at hv <;> try (cases hv; done)
       rename_i cs hcs
       exact lt_of hcs
     · simp at hid
   · simp at hid
 unfold efOp at h
 split at h
 · rename_i t ho
   split at h <;> try (cases h; done)
   rename_i ti kt
   simp only [Option.some.injEq, Prod.mk.injEq] at h
   obtain ⟨rfl, rfl, rfl⟩ := h
   obtain ⟨⟨y, hy⟩, hg⟩ := hnew (by simp)
   obtain ⟨v, w', G', r1, r2, r3, r4, r5⟩ := alloc_ok' wr kt hg (Upd.set hy (.cells ti.zero))
   exact fin (by simp only [execOp, ho]; exact lift r1) r2 r4 r3 (fun j hj h => r5 j (fun e => by subst e; exact hj _ rfl) h)
 · rename_i t x ho
   split at h <;> try (cases h; done)
   rename_i l hl
   simp only [Option.some.injEq, Prod.mk.injEq] at h
   obtain ⟨rfl, rfl, rfl⟩ := h
   obtain ⟨⟨y, hy⟩, hg⟩ := hnew (by simp)
   rw [Option.bind_eq_some_iff] at hl
   obtain ⟨xv, hx, hl⟩ := hl
   rw [← ag.ev (by rw [ho]; simp [Op.operands])] at hx
   obtain ⟨v, w', G', r1, r2, r3, r4, r5⟩ := box_ok' (P := P) (t := t) wr (ev_ok tr hx) hl hg (Upd.set hy (.cells l))
   exact fin (by simp only [execOp, ho]; exact lift r1) r2 r4 r3 (fun j hj h => r5 j (fun e => by subst e; exact hj _ rfl) h)
 · rename_i t x y ho
   split at h <;> try (cases h; done)
   rename_i ti p l hdst hti hp hl
   split at h <;> try (cases h; done)
   rename_i id z hs
   simp only [Option.some.injEq, Prod.mk.injEq] at h
   obtain ⟨rfl, rfl, rfl⟩ := h
   rw [Option.bind_eq_some_iff] at hl
   obtain ⟨yv, hy, hl⟩ := hl
   rw [← ag.ev (by rw [ho]; simp [Op.operands])] at hy
   rw [← ag.ev (by rw [ho]; simp [Op.operands])] at hp
   have hst : stV H ti p l = some (H.set id z) := by
     unfold efSt at hs
     split at hs <;> try (cases hs; done)
     rename_i id' off
     split at hs <;> try (cases hs; done)
     rename_i cs hcs
     split at hs <;> try (cases hs; done)
     rename_i hc
     simp only [Option.some.injEq, Prod.mk.injEq] at hs
     obtain ⟨rfl, rfl⟩ := hs
     simp only [stV]
     rw [agH id' (by simp) (lt_of hcs), hcs]
     show (if l.length = ti.size ∧ off + l.length ≤ cs.length then some (H.set id' (AObj.cells (splice cs off l))) else none) = _
     rw [if_pos hc]
   obtain ⟨w', r1, r2⟩ := store_ok wr hti (ev_ok tr hp) (ev_ok tr hy) hl hst
   have hrun : (execOp a.eval o).run P w = .ok .skip w' := by
     simp only [execOp, ho, Sem.run_bind, r1, Result.andThen_ok, Sem.run_pure]
   unfold Oper.wp
   rw [hrun]
   refine ⟨G, GExt.refl G, ?_, r2, fun _ _ h => h⟩
   rw [hdst]; exact tr
 · rename_i t n ps ho
   split at h <;> try (cases h; done)
   rename_i ti kt
   split at h <;> try (cases h; done)
   rename_i e' es eb kk
   split at h <;> try (cases h; done)
   rename_i ei l ke hl
   split at h <;> try (cases h; done)
   rename_i pv hpv
   split at h <;> try (cases h; done)
   rename_i hc
   simp only [Option.some.injEq, Prod.mk.injEq] at h
   obtain ⟨rfl, rfl, rfl⟩ := h
   rw [Option.bind_eq_some_iff] at hpv
   obtain ⟨cs, hcs, hpv⟩ := hpv
   rw [← mapM_congr' (f := fun x => (ev T x.2).map fun v => (x.1, v)) ps.toList (fun x hx => by rw [ag.ev (by rw [ho]; simp only [Op.operands, List.mem_map]; exact ⟨x, hx, rfl⟩)])] at hl
   obtain ⟨l1, l2⟩ := mapM_get hl
   obtain ⟨v, w', G', r1, r2, r3, r4, r5⟩ := buildSlice_ok wr kt kk ke (vs := ps.map fun (i, x) => (i, a.eval x)) (by simp; simpa using l1.symm) (fun j p v hp hv => by
     simp only [Array.getElem?_map, Option.map_eq_some_iff] at hv
     obtain ⟨q, hq, rfl⟩ := hv
     have := l2 j q p (by simpa using hq) hp
     rw [Option.map_eq_some_iff] at this
     obtain ⟨y, hy, rfl⟩ := this
     exact ⟨rfl, ev_ok tr hy⟩) hcs hpv hc.1 hc.2.1 hc.2.2 (by
       have := hc.1
       have : n * 1 ≤ n * es := Nat.mul_le_mul_left _ (by have := hc.2.1; omega)
       simp only [maxLen]; omega)
   exact fin (by simp only [execOp, ho]; exact lift r1) r2 r4 r3 (fun j hj h => by rw [r5]; exact h)
 · rename_i c ho
   obtain ⟨callee, args, ats⟩ := c
   simp only at h
   have ka : ∀ x, x ∈ args.toList → ev T x = ev A.T x := fun x hx => ag.ev (by rw [ho]; simp [Op.operands, Call.operands]; exact .inr (by simpa using hx))
   split at h
   · rename_i s x t xt ha ht
     have ha := arr2 ha; have ht := arr2 ht; subst ha ht
     split at h <;> try (cases h; done)
     rename_i sv xv hs hx
     rw [← ka s (by simp)] at hs
     rw [← ka x (by simp)] at hx
     unfold efApp at h
     split at h <;> try (cases h; done)
     rename_i ti xi kt kx
     split at h <;> try (cases h; done)
     rename_i e' es eb kk
     split at h <;> try (cases h; done)
     rename_i ei xs ke hsrc
     split at h <;> try (cases h; done)
     · rename_i id l
       split at h <;> try (cases h; done)
       rename_i n sz hH
       split at h <;> try (cases h; done)
       rename_i hc
       obtain ⟨rfl, rfl, okl, okx, hmax, hb⟩ := hc
       simp only [Option.some.injEq, Prod.mk.injEq] at h
       obtain ⟨rfl, rfl, rfl⟩ := h
       obtain ⟨v, w', G', r1, r2, r3, r4, r5⟩ := append_tok_ok (ty := o.type) wr kt kk kx ke (ev_ok tr hs) (ev_ok tr hx) hsrc (by rw [agH id (by simp) (lt_of hH)]; exact hH) okl okx hmax hb
       refine fin ?_ r2 r4 r3 (fun j _ h => r5 j h)
       simp only [execOp, ho, resolve, invoke, builtin, Sem.run_bind, Sem.run_pure, Result.andThen_ok, List.map_toArray, List.map_cons, List.map_nil, r1]
     · rename_i l
       split at h <;> try (cases h; done)
       rename_i hc
       obtain ⟨okl, okx, hmax, hb⟩ := hc
       simp only [Option.some.injEq, Prod.mk.injEq] at h
       obtain ⟨rfl, rfl, rfl⟩ := h
       obtain ⟨⟨y, hy⟩, hg⟩ := hnew (by simp)
       obtain ⟨v, w', G', r1, r2, r3, r4, r5⟩ := append_full_ok (ty := o.type) wr kt kk kx ke (ev_ok tr hs) (ev_ok tr hx) hsrc hg (Upd.set hy _) okl okx hmax hb
       refine fin ?_ r2 r4 r3 (fun j hj h => r5 j (fun e => by subst e; exact hj _ rfl) h)
       simp only [execOp, ho, resolve, invoke, builtin, Sem.run_bind, Sem.run_pure, Result.andThen_ok, List.map_toArray, List.map_cons, List.map_nil, r1]
   · rename_i f
     split at h <;> try (cases h; done)
     rename_i k pc pargs hf hpa
     rw [Option.bind_eq_some_iff] at hpa hf
     obtain ⟨vs, hvs, hpa⟩ := hpa
     obtain ⟨fv0, hf, hfp⟩ := hf
     rw [← ag.ev (by rw [ho]; simp [Op.operands, Call.operands])] at hf
     rw [← mapM_congr' _ ka] at hvs
     have rf : RP G.mem (.fn k pc) (a.eval f) := pure1_ok (ev_ok tr hf) hfp
     generalize hfv : a.eval f = fv at rf
     cases rf with
     | fn _ _ cvs hl hr =>
       obtain ⟨h1, h2⟩ := mapM_get hvs
       have hargs : RVL G vs (args.map a.eval).toList := ⟨by simpa using h1, fun i x v hx hv => by
         simp only [Array.toList_map, List.getElem?_map, Option.map_eq_some_iff] at hv
         obtain ⟨q, hq, rfl⟩ := hv
         exact ev_ok tr (h2 i q x hq hx)⟩
       have hpl := pures_ok hpa hargs
       have hall : ((args.map a.eval).toList ++ cvs.toList).length = (pargs ++ pc).length ∧ ∀ (i : Nat) x v, (pargs ++ pc)[i]? = some x → ((args.map a.eval).toList ++ cvs.toList)[i]? = some v → RP G.mem x v :=
         ⟨by rw [List.length_append, List.length_append, hpl.1, show cvs.toList.length = pc.length from by simpa using hl], fun i x v hx hv => by
         rcases Nat.lt_or_ge i pargs.length with g | g
         · rw [List.getElem?_append_left g] at hx
           rw [List.getElem?_append_left (by rw [hpl.1]; exact g)] at hv
           exact hpl.2 i x v hx hv
         · rw [List.getElem?_append_right g] at hx
           rw [List.getElem?_append_right (by rw [hpl.1]; exact g), hpl.1] at hv
           exact hr _ x v hx (by simpa using hv)⟩
       have e : (args.map a.eval ++ cvs) = ((args.map a.eval).toList ++ cvs.toList).toArray := by apply Array.ext'; simp
       split at h <;> try (cases h; done)
       · rename_i rs hrs
         simp only [Option.some.injEq, Prod.mk.injEq] at h
         obtain ⟨rfl, rfl, rfl⟩ := h
         have hp : PCall P k (pargs ++ pc) fun r => r = rs := hC _ _ _ hrs
         have hc := hp.at_ wr hall
         rw [← e] at hc
         refine wp_call ho hfv hc fun en w' ⟨v, rs', G', e1, e2, e3, e4, e5, e6⟩ => ?_
         subst e6
         exact .inl ⟨v, e1, G', e3, by rw [← putT_tw]; exact (tr.mono e3).put o.dst _ v hd e2, e4, fun j _ h => by rw [e5]; exact h⟩
       · rename_i L es hrs
         simp only [Option.some.injEq, Prod.mk.injEq] at h
         obtain ⟨rfl, rfl, rfl⟩ := h
         obtain ⟨⟨y, hy⟩, hg⟩ := hnew (by simp)
         have hp : TCall P k (pargs ++ pc) (fun l => l = L) es := hC _ _ _ hrs
         have hc := hp.at_ wr hall (H' := fun n => H.set nx (.spare n es)) hg (fun n => Upd.set hy _)
         rw [← e] at hc
         refine wp_call ho hfv hc fun en w' ⟨v, L', G', e1, e2, e3, e4, e5, e6⟩ => ?_
         subst e6
         exact .inl ⟨v, e1, G', e3, by rw [← putT_tw]; exact (tr.mono e3).put o.dst _ v hd e2, e4, fun j hj h => e5 j (fun e => by subst e; exact hj _ rfl) h⟩
   · split at h <;> try (cases h; done)
     rename_i v hv
     simp only [Option.some.injEq, Prod.mk.injEq] at h
     obtain ⟨rfl, rfl, rfl⟩ := h
     exact plain v (by rw [ho]; exact hv) (fun id hid => by rw [ho] at hid; simp [loadFp] at hid)
 · rename_i op hna hnb hns hnbs hnc
   split at h <;> try (cases h; done)
   rename_i v hv
   simp only [Option.some.injEq, Prod.mk.injEq] at h
   obtain ⟨rfl, rfl, rfl⟩ := h
   exact plain v hv (fun id hid => agH id hid (loadok v hv id hid))
end Go.Proofs.Ytcajncmjlmpkgaa
