/- Calls that are handed addresses of own objects, or closures over such, by contracts on pure values: an operation that reads these objects, in any order. Own work; no condition. -/
import Derived.Test.YtcajncmjlmpkgaaPcAbs19
namespace Go.Proofs.Ytcajncmjlmpkgaa
open Go Go.RowKit
def PV.flat0 : PV → Bool
 | .bool _ => true
 | .int _ _ => true
 | .str _ => true
 | .nilp => true
 | .nilf => true
 | .nili => true
 | .nilm => true
 | _ => false
def PV.thin : PV → Bool
 | .agg cs => cs.all PV.flat0
 | x => x.flat0
theorem RP.flat0 {m m' : Mem} {x : PV} {v : Value} (h : RP m x v) (hf : x.flat0 = true) : RP m' x v := by
 cases h with
 | bool b => exact .bool b
 | int k n => exact .int k n
 | str s => exact .str s
 | nilp => exact .nilp
 | nilf => exact .nilf
 | nili => exact .nili
 | nilm => exact .nilm
 | _ => cases hf
theorem RP.thin {m m' : Mem} {x : PV} {v : Value} (h : RP m x v) (hf : x.thin = true) : RP m' x v := by
 cases x with
 | agg cs =>
   cases h with
   | agg _ vs hl hr =>
     refine .agg cs vs hl fun i c v hc hv => (hr i c v hc hv).flat0 ?_
     exact List.all_eq_true.1 hf c (List.mem_of_getElem? hc)
 | _ => exact h.flat0 hf
theorem RV.thin {G G' : Ghost} {rs : List PV} {v : Value} (h : RV G (packV (rs.map .p)) v) (hf : rs.all PV.thin = true) : RV G' (packV (rs.map .p)) v := by
 have one : ∀ {x : PV} {v : Value}, RV G (.p x) v → x.thin = true → RV G' (.p x) v := fun h hf => by
   cases h with
   | p hp => exact .p (hp.thin hf)
 have tup : ∀ {l : List PV} {v : Value}, RV G (.tup (l.map .p)) v → l.all PV.thin = true → RV G' (.tup (l.map .p)) v := fun {l} {v} h hf => by
   cases h with
   | tup hl hr =>
     refine .tup hl fun i c v hc hv => ?_
     have hc' := hc
     rw [List.getElem?_map, Option.map_eq_some_iff] at hc'
     obtain ⟨y, hy, rfl⟩ := hc'
     exact one (hr i _ v hc hv) (List.all_eq_true.1 hf y (List.mem_of_getElem? hy))
 match rs, h, hf with
 | [], h, hf => exact tup (l := []) h hf
 | [x], h, hf => exact one h (by simpa using hf)
 | x :: y :: r, h, hf => exact tup (l := x :: y :: r) h hf
def refX (H : List AObj) (x : AV) : Option PV :=
 match x with
 | .ref id off => match nth H id with
   | some (.cells cs) => match optL AV.pure1 cs with
     | some ps => some (.ip (dropX ps off))
     | none => none
   | _ => none
 | x => pureX x
def refY (H : List AObj) (x : AV) : Option PV :=
 match x with
 | .fn f caps => match optL (refX H) caps with
   | some ps => some (.fn f ps)
   | none => none
 | x => refX H x
def refI (x : AV) : List Nat :=
 match x with
 | .ref id _ => [id]
 | _ => []
def refJ : List AV → List Nat
 | [] => []
 | x :: r => catX (refI x) (refJ r)
def refK (x : AV) : List Nat :=
 match x with
 | .fn _ caps => refJ caps
 | x => refI x
def refL : List AV → List Nat
 | [] => []
 | x :: r => catX (refK x) (refL r)
theorem refX_congr {H H' : List AObj} {x : AV} (h : ∀ id, id ∈ refI x → nth H id = nth H' id) : refX H x = refX H' x := by
 unfold refX
 split
 · rename_i id off
   rw [h id (by simp [refI])]
 · rfl
theorem refJ_mem {x : AV} {id : Nat} : ∀ {l : List AV}, x ∈ l → id ∈ refI x → id ∈ refJ l
 | y :: r, h, hi => by
   rw [refJ, catX_eq, List.mem_append]
   rcases List.mem_cons.1 h with rfl | h
   · exact .inl hi
   · exact .inr (refJ_mem h hi)
theorem refL_mem {x : AV} {id : Nat} : ∀ {l : List AV}, x ∈ l → id ∈ refK x → id ∈ refL l
 | y :: r, h, hi => by
   rw [refL, catX_eq, List.mem_append]
   rcases List.mem_cons.1 h with rfl | h
   · exact .inl hi
   · exact .inr (refL_mem h hi)
theorem optL_congr {α β : Type} {f g : α → Option β} : ∀ {l : List α}, (∀ x, x ∈ l → f x = g x) → optL f l = optL g l
 | [], _ => rfl
 | x :: r, h => by
   simp only [optL, h x (by simp), optL_congr (l := r) fun y hy => h y (by simp [hy])]
theorem refY_congr {H H' : List AObj} {x : AV} (h : ∀ id, id ∈ refK x → nth H id = nth H' id) : refY H x = refY H' x := by
 unfold refY
 split
 · rename_i f caps
   rw [optL_congr (g := refX H') fun y hy => refX_congr fun id hid => h id (refJ_mem hy hid)]
 · rename_i hn
   exact refX_congr fun id hid => h id (by
     unfold refK
     split
     · rename_i f caps; exact absurd rfl (hn f caps)
     · exact hid)
theorem refX_lt {H : List AObj} {x : AV} {y : PV} (h : refX H x = some y) : ∀ id, id ∈ refI x → id < H.length := by
 intro id hid
 unfold refI at hid
 split at hid
 · rename_i id' off
   simp only [List.mem_singleton] at hid; subst hid
   unfold refX at h
   simp only [nth_eq] at h
   split at h
   · rename_i cs hcs
     exact (List.getElem?_eq_some_iff.1 hcs).1
   · cases h
 · simp at hid
theorem optL_get {α β : Type} {f : α → Option β} {l : List α} {r : List β} (h : optL f l = some r) : l.length = r.length ∧ ∀ (i : Nat) x y, l[i]? = some x → r[i]? = some y → f x = some y := by
 rw [optL_eq] at h
 exact mapM_get h
theorem optL_all {α β : Type} {f : α → Option β} {l : List α} {r : List β} (h : optL f l = some r) {x : α} (hx : x ∈ l) : ∃ y, f x = some y := by
 obtain ⟨h1, h2⟩ := optL_get h
 obtain ⟨i, hi⟩ := List.getElem?_of_mem hx
 have hlt := (List.getElem?_eq_some_iff.1 hi).1
 exact ⟨r[i]'(by omega), h2 i x _ hi (List.getElem?_eq_getElem _)⟩
theorem refJ_lt {H : List AObj} : ∀ {l : List AV} {r : List PV}, optL (refX H) l = some r → ∀ id, id ∈ refJ l → id < H.length := by
 intro l r h id hid
 induction l generalizing r with
 | nil => simp [refJ] at hid
 | cons x l ih =>
   rw [refJ, catX_eq, List.mem_append] at hid
   rcases hid with hid | hid
   · obtain ⟨y, hy⟩ := optL_all h (x := x) (by simp)
     exact refX_lt hy id hid
   · simp only [optL] at h
     split at h <;> try (cases h; done)
     split at h <;> try (cases h; done)
     rename_i ys hys
     exact ih hys hid
theorem refY_lt {H : List AObj} {x : AV} {y : PV} (h : refY H x = some y) : ∀ id, id ∈ refK x → id < H.length := by
 intro id hid
 unfold refY at h
 unfold refK at hid
 split at h
 · split at h <;> try (cases h; done)
   rename_i ps hps
   exact refJ_lt hps id hid
 · rename_i hn
   split at hid
   · rename_i f caps; exact absurd rfl (hn f caps)
   · exact refX_lt h id hid
theorem refL_lt {H : List AObj} : ∀ {l : List AV} {r : List PV}, optL (refY H) l = some r → ∀ id, id ∈ refL l → id < H.length := by
 intro l r h id hid
 induction l generalizing r with
 | nil => simp [refL] at hid
 | cons x l ih =>
   rw [refL, catX_eq, List.mem_append] at hid
   rcases hid with hid | hid
   · obtain ⟨y, hy⟩ := optL_all h (x := x) (by simp)
     exact refY_lt hy id hid
   · simp only [optL] at h
     split at h <;> try (cases h; done)
     split at h <;> try (cases h; done)
     rename_i ys hys
     exact ih hys hid
abbrev memW (w : World) : Mem := fun b o => w.cell? ⟨b, o, none⟩
theorem refX_ok {B : Base} {G : Ghost} {H : List AObj} {w : World} (wr : WR B G H w) {x : AV} {y : PV} {v : Value} (rr : RV G x v) (h : refX H x = some y) : RP (memW w) y v := by
 have hm : ∀ b o v, G.mem b o = some v → memW w b o = some v := wr.mem
 unfold refX at h
 split at h
 · rename_i id off
   split at h <;> try (cases h; done)
   rename_i cs hid
   split at h <;> try (cases h; done)
   rename_i ps hps
   simp only [Option.some.injEq] at h; subst h
   rw [nth_eq] at hid
   rw [optL_eq] at hps
   obtain ⟨p1, p2⟩ := mapM_get hps
   obtain ⟨b, arr, ty, o1, o2, o3, o4, o5⟩ := wr.objs id _ hid
   cases rr with
   | @ref _ b' _ hb =>
     rw [o1] at hb; simp only [Option.some.injEq, GO.box.injEq] at hb; subst hb
     rw [dropX_eq]
     have key : ∀ i, i < ps.length - off → off + i < arr.size := fun i hi => by rw [o3]; omega
     refine .ip _ b off (fun i => (arr[off + i]?).getD undef) (fun i hi => ?_) (fun i c hc => ?_)
     · rw [List.length_drop] at hi
       show w.cell? ⟨b, off + i, none⟩ = _
       rw [cell_of_row w b (off + i) arr ty (0, 0) o2, Array.getElem?_eq_getElem (key i hi)]
       rfl
     · rw [List.getElem?_drop] at hc
       have hlt := (List.getElem?_eq_some_iff.1 hc).1
       have hk := key i (by omega)
       have hcs : cs[off + i]? = some (cs[off + i]'(by omega)) := List.getElem?_eq_getElem _
       rw [Array.getElem?_eq_getElem hk]
       exact (pure1_ok (o4 _ _ _ hcs (Array.getElem?_eq_getElem hk)) (p2 _ _ _ hcs hc)).mono hm
 · rw [pureX_eq] at h
   exact (pure_ok rr h).mono hm
theorem refY_ok {B : Base} {G : Ghost} {H : List AObj} {w : World} (wr : WR B G H w) {x : AV} {y : PV} {v : Value} (rr : RV G x v) (h : refY H x = some y) : RP (memW w) y v := by
 unfold refY at h
 split at h
 · split at h <;> try (cases h; done)
   rename_i f caps _ ps hps
   simp only [Option.some.injEq] at h; subst h
   obtain ⟨p1, p2⟩ := optL_get hps
   cases rr with
   | fn hl hr =>
     refine .fn f ps _ (by omega) fun i c v hc hv => ?_
     have hlt := (List.getElem?_eq_some_iff.1 hc).1
     have hcs : caps[i]? = some (caps[i]'(by omega)) := List.getElem?_eq_getElem _
     exact refX_ok wr (hr i _ v hcs hv) (p2 i _ c hcs hc)
 · exact refX_ok wr rr h
theorem WR.behind {B : Base} {G : Ghost} {H : List AObj} {w w' : World} (wr : WR B G H w) {m' : Mem} (e3 : ∀ b o v, memW w b o = some v → m' b o = some v) (e4 : ∀ b o v, m' b o = some v → w'.cell? ⟨b, o, none⟩ = some v) (e6 : Below w.heap.size w w') : WR B G H w' := by
 have hle := wr.below.size
 refine ⟨wr.below.trans (e6.mono hle), fun b o v hv => e4 _ _ _ (e3 _ _ _ (wr.mem b o v hv)), wr.news, wr.olds, fun id x hx => ?_, wr.sep, fun i x b hi hb => ?_, wr.dom, fun b x f hb => ?_, wr.apart⟩
 · exact (wr.objs id x hx).keep (GExt.refl G) rfl (fun g b hg hb => e6.block b (wr.fresh id g b hg hb).2) (fun _ _ _ _ _ => rfl)
 · have := wr.fresh i x b hi hb
   exact ⟨this.1, Nat.lt_of_lt_of_le this.2 e6.size⟩
 · obtain ⟨h1, h2⟩ := wr.keep b x f hb
   exact ⟨by rw [e6.block b (wr.pr_lt hb)]; exact h1, h2⟩
theorem efY {P : Program} {o : Oper} {A : AS} {nx : Nat} {f : Operand} {args : Array Operand} {ats : Array TypeId} {fv : AV} {k : FuncId} {pc pargs rs : List PV} {vs : List AV}
   (ho : o.op = .call { callee := .value f, args := args, argTypes := ats }) (hf : ev A.T f = some fv) (hfp : fv.pure1 = some (.fn k pc)) (hvs : args.toList.mapM (ev A.T) = some vs) (hy : optL (refY A.H) vs = some pargs) (hp : PCall P k (pargs ++ pc) fun r => r = rs) (ht : rs.all PV.thin = true) :
   EfR P o A nx ⟨tw o.dst (packV (rs.map .p)), none⟩ (refL vs) nx := by
 refine ⟨fun d x h => ?_, fun id x h => (by cases h), .inr ⟨rfl, fun hl id hid => by rw [← hl]; exact refL_lt hy id hid⟩, ?_⟩
 · simp only [tw, Option.map_eq_some_iff, Prod.mk.injEq] at h
   obtain ⟨a, h1, h2, _⟩ := h
   rw [h1, h2]
 intro nt B G T H a w tr wr hd ag agH hlen hnew Q
 have ka : ∀ x, x ∈ args.toList → ev T x = ev A.T x := fun x hx => ag.ev (by rw [ho]; simp [Op.operands, Call.operands]; exact .inr (by simpa using hx))
 have hf' : ev T f = some fv := by rw [ag.ev (by rw [ho]; simp [Op.operands, Call.operands])]; exact hf
 have hvs' : args.toList.mapM (ev T) = some vs := by rw [mapM_congr' _ ka]; exact hvs
 have hy' : optL (refY H) vs = some pargs := by
   rw [← hy]
   refine optL_congr fun x hx => refY_congr fun id hid => ?_
   have hi := refL_mem hx hid
   have hlt := refL_lt hy id hi
   rw [nth_eq, nth_eq]
   exact agH id hi (by omega)
 have rf : RP G.mem (.fn k pc) (a.eval f) := pure1_ok (ev_ok tr hf') hfp
 generalize hfv : a.eval f = fvv at rf
 cases rf with
 | fn _ _ cvs hl hr =>
   obtain ⟨h1, h2⟩ := mapM_get hvs'
   obtain ⟨y1, y2⟩ := optL_get hy'
   have hargl : (args.map a.eval).toList.length = vs.length := by simpa using h1
   have hall : ((args.map a.eval).toList ++ cvs.toList).length = (pargs ++ pc).length ∧ ∀ (i : Nat) x v, (pargs ++ pc)[i]? = some x → ((args.map a.eval).toList ++ cvs.toList)[i]? = some v → RP (memW w) x v :=
     ⟨by rw [List.length_append, List.length_append, hargl, y1, show cvs.toList.length = pc.length from by simpa using hl], fun i x v hx hv => by
     rcases Nat.lt_or_ge i pargs.length with g | g
     · rw [List.getElem?_append_left g] at hx
       rw [List.getElem?_append_left (by rw [hargl, y1]; exact g)] at hv
       simp only [Array.toList_map, List.getElem?_map, Option.map_eq_some_iff] at hv
       obtain ⟨q, hq, rfl⟩ := hv
       have hvi : vs[i]? = some (vs[i]'(by omega)) := List.getElem?_eq_getElem _
       exact refY_ok wr (ev_ok tr (h2 i q _ hq hvi)) (y2 i _ x hvi hx)
     · rw [List.getElem?_append_right g] at hx
       rw [List.getElem?_append_right (by rw [hargl, y1]; exact g), hargl, y1] at hv
       exact (hr _ x v hx (by simpa using hv)).mono wr.mem⟩
   have e : (args.map a.eval ++ cvs) = ((args.map a.eval).toList ++ cvs.toList).toArray := by apply Array.ext'; simp
   have hc := hp.run (memW w) w _ (fun _ _ _ h => h) hall
   rw [← e] at hc
   refine wp_call ho hfv hc fun en w' ⟨v, rs', m', e1, e2, e3, e4, e5, e6, e7⟩ => ?_
   subst e7
   exact .inl ⟨v, e1, G, GExt.refl G, by rw [← putT_tw]; exact tr.put o.dst _ v hd (e2.thin ht), wr.behind e3 e4 e6, fun j _ h => h⟩
end Go.Proofs.Ytcajncmjlmpkgaa
