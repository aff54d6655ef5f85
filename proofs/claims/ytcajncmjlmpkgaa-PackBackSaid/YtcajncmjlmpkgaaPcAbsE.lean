/- Lists of one's own that are made and stored into by index ('elts'); what is made may be frozen. Own work; no condition. -/
import Derived.Test.YtcajncmjlmpkgaaPcAbs19
import Derived.Laws.MakeOwn
namespace Go.Proofs.Ytcajncmjlmpkgaa
open Go Go.RowKit
theorem flat_get {α : Type} {size : Nat} : ∀ {es : List (List α)} (i : Nat) (e : List α), (∀ e, e ∈ es → e.length = size) → es[i]? = some e → (es.flatten.drop (i * size)).take size = e ∧ (i + 1) * size ≤ es.flatten.length := by
 intro es
 induction es with
 | nil => intro i e _ h; simp at h
 | cons a es ih =>
   intro i e hl h
   have ha := hl a (by simp)
   cases i with
   | zero =>
     simp only [List.getElem?_cons_zero, Option.some.injEq] at h; subst h
     refine ⟨?_, by simp [ha]⟩
     rw [List.flatten_cons, Nat.zero_mul, List.drop_zero, List.take_append_of_le_length (by omega), List.take_of_length_le (by omega)]
   | succ i =>
     obtain ⟨h1, h2⟩ := ih i e (fun e he => hl e (by simp [he])) (by simpa using h)
     have e1 : (i + 1) * size = a.length + i * size := by rw [Nat.add_mul, ha]; omega
     refine ⟨?_, by rw [List.flatten_cons, List.length_append, Nat.add_mul, e1]; rw [Nat.add_mul] at h2; omega⟩
     rw [List.flatten_cons, e1, ← List.drop_drop, List.drop_left]
     exact h1
theorem flat_set {α : Type} {size : Nat} : ∀ {es : List (List α)} (i : Nat) (e : List α), (∀ e, e ∈ es → e.length = size) → e.length = size → i < es.length → splice es.flatten (i * size) e = (es.set i e).flatten := by
 intro es
 induction es with
 | nil => intro i e _ _ h; simp at h
 | cons a es ih =>
   intro i e hl he h
   have ha := hl a (by simp)
   cases i with
   | zero =>
     simp only [splice, List.flatten_cons, Nat.zero_mul, List.take_zero, List.nil_append, Nat.zero_add, List.set_cons_zero]
     rw [he, ← ha, List.drop_left]
   | succ i =>
     have := ih i e (fun e he => hl e (by simp [he])) he (by simpa using h)
     have e1 : (i + 1) * size = a.length + i * size := by rw [Nat.add_mul, ha]; omega
     rw [List.set_cons_succ, List.flatten_cons, List.flatten_cons, ← this]
     simp only [splice, e1]
     rw [List.take_append, List.take_of_length_le (by omega), show a.length + i * size - a.length = i * size by omega, Nat.add_assoc, ← List.drop_drop, List.drop_left]
     simp
theorem flat_len {α : Type} {size : Nat} : ∀ {es : List (List α)}, (∀ e, e ∈ es → e.length = size) → es.flatten.length = es.length * size := by
 intro es
 induction es with
 | nil => intro _; simp
 | cons a es ih => intro h; rw [List.flatten_cons, List.length_append, ih (fun e he => h e (by simp [he])), h a (by simp), List.length_cons, Nat.add_mul]; omega
theorem elC_len (es : List (List PV)) (k : Nat) : (elC es k).length = es.flatten.length + k := by
 unfold elC; rw [List.length_append, List.length_map, List.length_replicate]
theorem elC_drop {es : List (List PV)} {k off n : Nat} (h : off + n ≤ es.flatten.length) : ((elC es k).drop off).take n = ((es.flatten.drop off).take n).map AV.p := by
 unfold elC
 rw [List.drop_append_of_le_length (by rw [List.length_map]; omega), List.take_append_of_le_length (by rw [List.length_drop, List.length_map]; omega), ← List.map_drop, ← List.map_take]
theorem elC_left {es : List (List PV)} {k j : Nat} (h : j < es.flatten.length) : (elC es k)[j]? = (es.flatten[j]?).map AV.p := by
 unfold elC
 rw [List.getElem?_append_left (by rw [List.length_map]; exact h), List.getElem?_map]
theorem elC_right {es : List (List PV)} {k j : Nat} {c : AV} (h : ¬ j < es.flatten.length) (hc : (elC es k)[j]? = some c) : c = .un := by
 unfold elC at hc
 rw [List.getElem?_append_right (by rw [List.length_map]; omega)] at hc
 exact (List.mem_replicate.1 (List.mem_of_getElem? hc)).2
theorem WR.reobj {B : Base} {G : Ghost} {H : List AObj} {w : World} (h : WR B G H w) {id : Nat} {x y : AObj} (hid : H[id]? = some x) (f : ObjR G w id x → ObjR G w id y) : WR B G (H.set id y) w := by
 have hlt := (List.getElem?_eq_some_iff.1 hid).1
 refine ⟨h.below, h.mem, h.news, h.olds, fun j z hz => ?_, h.sep, h.fresh, fun j hj => h.dom j (by simpa using hj), h.keep, h.apart⟩
 by_cases e : id = j
 · subst e
   rw [List.getElem?_set_self hlt] at hz
   simp only [Option.some.injEq] at hz; subst hz
   exact f (h.objs id x hid)
 · rw [getElem?_set_ne' e] at hz
   exact h.objs j z hz
theorem map_p_pure {G : Ghost} {e : List PV} {vs : Array Value} (hl : vs.size = (e.map AV.p).length) (hr : ∀ (i : Nat) c v, (e.map AV.p)[i]? = some c → vs[i]? = some v → RV G c v) : RP G.mem (.agg e) (.agg vs) := by
 refine .agg e vs (by simpa using hl) fun i c v hc hv => ?_
 have := hr i (.p c) v (by simp [hc]) hv
 cases this with
 | p h => exact h
structure EIx (es : List (List PV)) (size off : Nat) (K : List PV → Prop) : Prop where
 of : ∃ i e, off = i * size ∧ es[i]? = some e ∧ K e
structure SEx (es : List (List PV)) (size off : Nat) (l : List PV) (K : List (List PV) → Prop) : Prop where
 of : ∃ i, off = i * size ∧ i < es.length ∧ l.length = size ∧ ∀ L, es.set i l = L → K L
def ldE (ti : TI) (e : List PV) : Option AV :=
 match ti.agg with
 | true => some (.p (.agg e))
 | false => match e with
   | [c] => some (.p c)
   | _ => none
theorem eload_ok {P : Program} {t : TypeId} {ti : TI} (k : tinfo P t = some ti) {B : Base} {G : Ghost} {H : List AObj} {w : World} (wr : WR B G H w) {id off : Nat} {pv : Value} (rp : RV G (.ref id off) pv)
   {es : List (List PV)} {size : Nat} (hid : H[id]? = some (.elts es size)) {i : Nat} {e : List PV} (ho : off = i * size) (he : es[i]? = some e) (hsz : ti.size = size) {x : AV} (hx : ldE ti e = some x) :
   ∃ v, (Instr.loadAt t pv).run P w = .ok v w ∧ RV G x v := by
 obtain ⟨hall, k0, hobj⟩ := wr.objs id _ hid
 have wr2 := wr.reobj (y := .cells (elC es k0)) hid fun _ => hobj
 have hlt := (List.getElem?_eq_some_iff.1 hid).1
 obtain ⟨f1, f2⟩ := flat_get i e hall he
 have hel := hall e (List.mem_of_getElem? he)
 unfold ldE at hx
 split at hx
 · rename_i ha
   simp only [Option.some.injEq] at hx; subst hx
   obtain ⟨v, h1, h2⟩ := ldV_ok (x := .agg (e.map AV.p)) k wr2 rp (by
     simp only [ldV, List.getElem?_set_self hlt, ha, if_true]
     rw [if_pos (by rw [elC_len, hsz, ho]; rw [Nat.add_mul] at f2; omega), elC_drop (by rw [hsz, ho]; rw [Nat.add_mul] at f2; omega), hsz, ho, f1])
   refine ⟨v, h1, ?_⟩
   cases h2 with
   | agg hl hr => exact .p (map_p_pure hl hr)
 · rename_i ha
   split at hx <;> try (cases hx; done)
   rename_i c
   simp only [Option.some.injEq] at hx; subst hx
   have h1s : size = 1 := by simpa using hel.symm
   subst h1s
   obtain ⟨v, h1, h2⟩ := ldV_ok (x := .p c) k wr2 rp (by
     simp only [ldV, List.getElem?_set_self hlt, ha]
     have : (es.flatten.drop off).take 1 = [c] := by rw [ho]; exact f1
     have : es.flatten[off]? = some c := by
       have h0 : ((es.flatten.drop off).take 1)[0]? = some c := by rw [this]; rfl
       rw [List.getElem?_take_of_lt (by omega), List.getElem?_drop] at h0
       simpa using h0
     simp only [Bool.false_eq_true, if_false, elC_left (List.getElem?_eq_some_iff.1 this).1, this, Option.map_some])
   exact ⟨v, h1, h2⟩
theorem estore_ok {P : Program} {B : Base} {G : Ghost} {H : List AObj} {w : World} (wr : WR B G H w) {t : TypeId} {ti : TI} (k : tinfo P t = some ti) {id off : Nat} {x : AV} {pv v : Value} {l : List AV} {pl : List PV} (rp : RV G (.ref id off) pv) (r : RV G x v) (h : x.cells = some l) (hpl : l.mapM AV.pure1 = some pl)
   {es : List (List PV)} {size : Nat} (hid : H[id]? = some (.elts es size)) {i : Nat} (ho : off = i * size) (hi : i < es.length) (hl : pl.length = size) (hsz : ti.size = size) :
   ∃ w', (Instr.storeAt t pv v).run P w = .ok () w' ∧ WR B G (H.set id (.elts (es.set i pl) size)) w' := by
 obtain ⟨i', d, z, k⟩ := tinfo_ok k
 obtain ⟨p1, p2⟩ := mapM_get hpl
 have hlen : l.length = size := by omega
 obtain ⟨h1, h2, h3⟩ := cells_ok r h
 obtain ⟨hall, k0, b, arr, ty, o1, o2, o3, o4, o5⟩ := wr.objs id _ hid
 have hlt := (List.getElem?_eq_some_iff.1 hid).1
 have f2 : (i + 1) * size ≤ es.flatten.length := by rw [flat_len hall]; exact Nat.mul_le_mul_right _ hi
 cases rp with
 | @ref _ b' _ hb =>
   rw [o1] at hb; simp only [Option.some.injEq, GO.box.injEq] at hb; subst hb
   have hvl : v.cells.toList.length = size := by rw [← hlen]; simpa using h1
   have hal : arr.toList.length = es.flatten.length + k0 := by rw [Array.length_toList, o3, elC_len]
   have hfit : off + v.cells.toList.length ≤ arr.toList.length := by rw [hvl, hal, ho]; rw [Nat.add_mul] at f2; omega
   have hst := run_storeCells_at P b off ty v.cells.toList 0 arr w o2 (by simpa using hfit) h3
   have hcid : (H.set id (.cells (elC es k0)))[id]? = some (.cells (elC es k0)) := List.getElem?_set_self hlt
   have wr2 := wr.reobj (y := .cells (elC es k0)) hid fun _ => ⟨b, arr, ty, o1, o2, o3, o4, o5⟩
   have hfl : (es.set i pl).flatten.length = es.flatten.length := by rw [← flat_set i pl hall hl hi, splice_length _ _ _ (by rw [Nat.add_mul] at f2; omega)]
   have wr3 := wr2.store (cs' := elC (es.set i pl) k0) (arr := (splice arr.toList off v.cells.toList).toArray) hcid o1 o2 o5 (by
     rw [List.size_toArray, splice_length _ _ _ hfit, elC_len, hfl, hal]) (by
     intro j c u hj hu
     by_cases hjl : j < (es.set i pl).flatten.length
     rotate_left 1
     · rw [elC_right hjl hj]; exact .un u
     rw [elC_left hjl, ← flat_set i pl hall hl hi, splice_get _ _ _ (by rw [Nat.add_mul] at f2; omega)] at hj
     rw [List.getElem?_toArray, splice_get _ _ _ hfit, hvl] at hu
     rw [hl, ← ho] at hj
     by_cases g : off ≤ j ∧ j < off + size
     · rw [if_pos g] at hj hu
       rw [Option.map_eq_some_iff] at hj
       obtain ⟨y, hy, rfl⟩ := hj
       have hlj : l[j - off]? = some (l[j - off]'(by omega)) := List.getElem?_eq_getElem _
       exact .p (pure1_ok (h2 _ _ u hlj (by simpa using hu)) (by
         exact p2 _ _ _ hlj hy))
     · rw [if_neg g] at hj hu
       exact o4 j c u (by rw [elC_left (by rw [← hfl]; exact hjl)]; exact hj) (by simpa using hu))
   rw [List.set_set] at wr3
   refine ⟨w.setRow b (splice arr.toList off v.cells.toList).toArray, ?_, ?_⟩
   rotate_left 1
   · have := wr3.reobj (id := id) (x := .cells (elC (es.set i pl) k0)) (y := .elts (es.set i pl) size) (List.getElem?_set_self hlt) (fun h => ⟨fun e he => by
       rcases List.mem_or_eq_of_mem_set he with g | g
       · exact hall e g
       · rw [g]; exact hl, k0, h⟩)
     rw [List.set_set] at this
     exact this
   · simp only [Instr.storeAt, Instr.sureAddr, Sem.run_bind, Sem.run_pure, Result.andThen_ok, storeVar, k.run_size w]
     rw [if_neg (by rw [h1, hsz]; simp; omega)]
     simp only [Nat.add_zero] at hst
     exact hst
theorem mslice_ok {P : Program} {B : Base} {G : Ghost} {H : List AObj} {w : World} (wr : WR B G H w) {t e es eb n : Nat} {ti ei : TI} (kt : tinfo P t = some ti) (kk : ti.kind = .slice e es eb) (ke : tinfo P e = some ei) {zs : List PV} (hz : ei.zero.mapM AV.pure1 = some zs)
   {ik ik' : IntKind} (h47 : n * eb ≤ 140737488355328) (hmax : n ≤ maxLen) (hes : es ≠ 0) (hsz : ei.size = es) :
   ∃ v w' G', (Instr.makeSlice t (.int ik n) (.int ik' n)).run P w = .ok v w' ∧ GExt G G' ∧ WR B G' (H ++ [.elts (List.replicate n zs) es]) w' ∧ RV G' (.ms H.length n) v := by
 obtain ⟨i, d, z, k⟩ := tinfo_ok kt
 obtain ⟨i', d', z', k'⟩ := tinfo_ok ke
 have hd := k.kind
 rw [kk] at hd
 cases d <;> simp only [tkind, reduceCtorEq, TK.slice.injEq] at hd
 rename_i et
 obtain ⟨he, hes', heb⟩ := hd
 subst he
 have hz0 := k'.zero_rv (G := G)
 obtain ⟨p1, p2⟩ := mapM_get hz
 have hzl : zs.length = es := by rw [← p1, k'.zl, hsz]
 have hzs : z'.cells.size = es := by rw [hz0.1, k'.zl, hsz]
 have hbytes : i'.bytes = eb := by
   rw [← heb]
   simp only [Program.bytesOf, k'.info, Option.map_some, Option.getD_some]
 have hb : ((i'.bytes : Nat) : Int) * (n : Int) ≤ 281474976710656 := by
   rw [hbytes]
   have h : ((eb * n : Nat) : Int) ≤ 281474976710656 := by rw [Nat.mul_comm]; omega
   rwa [Int.natCast_mul] at h
 have hr := run_make (P := P) w t et i' z' k.und k'.info k'.zero ik ik' n n (by omega) (Int.le_refl _) hb (by simp only [maxLen] at hmax; omega)
 simp only [Int.toNat_natCast] at hr
 have hall : ∀ e, e ∈ List.replicate n zs → e.length = es := fun e he => by rw [(List.mem_replicate.1 he).2]; exact hzl
 have hfl : ((List.replicate n zs).flatten.map AV.p).length = n * es := by rw [List.length_map, flat_len hall, List.length_replicate]
 have g := wr.newBox (madeCells z'.cells (n * i'.size)) et ((List.replicate n zs).flatten.map AV.p) (by rw [size_madeCells, hfl, k'.size, hsz]) (fun j c v hc hv => by
   rw [List.getElem?_map, Option.map_eq_some_iff] at hc
   obtain ⟨y, hy, rfl⟩ := hc
   have hj : j < n * es := by have := (List.getElem?_eq_some_iff.1 hy).1; rw [flat_len hall, List.length_replicate] at this; exact this
   rw [flatten_rep _ _ _ (by rw [hzl]; exact hj), hzl] at hy
   have hm : j % es < z'.cells.size := by rw [hzs]; exact Nat.mod_lt _ (by omega)
   have hv' : v = z'.cells[j % es] := by
     have hj' : j < n * i'.size := by rw [k'.size, hsz]; exact hj
     simp only [madeCells, hzs] at hv
     simp [hj'] at hv
     rw [← hv]; simp [getElem!_pos, hm]
   subst hv'
   have hzc : ei.zero[j % es]? = some (ei.zero[j % es]'(by rw [k'.zl, hsz]; omega)) := List.getElem?_eq_getElem _
   exact .p (pure1_ok (hz0.2 _ _ _ hzc (by simp [hm])) (p2 _ _ _ hzc hy)))
 have g2 := g.1.reobj (id := H.length) (x := .cells ((List.replicate n zs).flatten.map AV.p)) (y := .elts (List.replicate n zs) es) (by simp) (fun h => ⟨hall, 0, by rw [show elC (List.replicate n zs) 0 = (List.replicate n zs).flatten.map AV.p by simp [elC]]; exact h⟩)
 rw [show (H ++ [AObj.cells ((List.replicate n zs).flatten.map AV.p)]).set H.length (.elts (List.replicate n zs) es) = H ++ [.elts (List.replicate n zs) es] by simp] at g2
 exact ⟨_, _, _, hr, g.2, g2, .ms (b := w.heap.size) (by simp) hmax (Nat.le_refl _)⟩
def frzV (id : Nat) (es : List (List PV)) : AV → AV
 | .ms id' n => if id' = id then (if n = es.length then .p (.sl es) else .un) else .ms id' n
 | x => x
theorem WR.freeze {B : Base} {G : Ghost} {H : List AObj} {w : World} (h : WR B G H w) {id : Nat} {es : List (List PV)} {size : Nat} (hid : H[id]? = some (.elts es size)) :
   ∃ G', GExt G G' ∧ WR B G' (H.set id .gone) w ∧ ∀ x v, RV G x v → RV G' (frzV id es x) v := by
 obtain ⟨hall, k0, b, arr, ty, o1, o2, o3, o4, o5⟩ := h.objs id _ hid
 have hlt := (List.getElem?_eq_some_iff.1 hid).1
 have hfr := h.fresh id _ b o1 rfl
 let G' : Ghost := { G with mem := fun b' o => if b' = b then arr[o]? else G.mem b' o }
 have hext : GExt G G' := ⟨fun x o v hv => by
     have : x ≠ b := fun e => by subst e; rw [o5 o] at hv; cases hv
     show (if x = b then arr[o]? else G.mem x o) = some v
     rw [if_neg this]; exact hv, fun _ _ h => h, fun _ c u o h => ⟨c, u, o, h, Nat.le_refl _, fun _ => rfl⟩, fun _ c u o k cv s h => ⟨c, u, o, k, cv, s, h, Nat.le_refl _, fun _ => rfl, Nat.le_refl _, fun _ => rfl⟩⟩
 refine ⟨G', hext, ⟨h.below, fun x o v hv => ?_, fun x o v hv => ?_, fun x o v hv => hext.mem x o v (h.olds x o v hv), fun j x hx => ?_, h.sep, h.fresh, fun j hj => h.dom j (by simpa using hj), fun c y f hc => ?_, h.apart⟩, fun x v r => ?_⟩
 · have hv' : (if x = b then arr[o]? else G.mem x o) = some v := hv
   split at hv'
   · rename_i e; subst e
     rw [cell_of_row w x o arr ty (0, 0) o2]; exact hv'
   · exact h.mem x o v hv'
 · have hv' : (if x = b then arr[o]? else G.mem x o) = some v := hv
   split at hv'
   · rename_i e; subst e; exact .inr hfr.1
   · exact h.news x o v hv'
 · by_cases e : id = j
   · subst e
     rw [List.getElem?_set_self hlt] at hx
     simp only [Option.some.injEq] at hx; subst hx; trivial
   · rw [getElem?_set_ne' e] at hx
     refine (h.objs j x hx).keep hext rfl (fun _ _ _ _ => rfl) (fun g c o hg hc => ?_)
     have : c ≠ b := fun e' => by subst e'; exact e (h.sep id j _ _ c o1 hg rfl hc)
     show (if c = b then arr[o]? else G.mem c o) = G.mem c o
     rw [if_neg this]
 · have hne : c ≠ b := fun e => by subst e; rw [h.apart id _ c o1 rfl] at hc; cases hc
   obtain ⟨h1, h2⟩ := h.keep c y f hc
   refine ⟨h1, ?_⟩
   rw [← h2]; funext o
   show (if c = b then arr[o]? else G.mem c o) = G.mem c o
   rw [if_neg hne]
 · have r' := r.mono hext
   cases x with
   | ms id' n =>
     simp only [frzV]
     split
     · rename_i e; subst e
       split
       · rename_i en
         cases r' with
         | @ms _ b' _ cap hb hn hcap =>
           have hb : G.obj id' = some (.box b') := hb
           rw [o1] at hb; simp only [Option.some.injEq, GO.box.injEq] at hb; subst hb
           have hal : arr.size = es.length * size + k0 := by rw [o3, elC_len, flat_len hall]
           refine .p (.sl es size b 0 n cap (fun i j => (arr[i * size + j]?).getD undef) en.symm hcap hn hall (fun i e j he hj => ?_) (fun i e j c he hj => ?_))
           · have hel := hall e (List.mem_of_getElem? he)
             have := (flat_get i e hall he).2
             rw [flat_len hall, Nat.add_mul] at this
             have hl : i * size + j < arr.size := by omega
             show (if b = b then arr[0 + i * size + j]? else G.mem b (0 + i * size + j)) = _
             rw [if_pos rfl, Nat.zero_add]
             simp [hl]
           · have hel := hall e (List.mem_of_getElem? he)
             obtain ⟨f1, f2⟩ := flat_get i e hall he
             rw [flat_len hall, Nat.add_mul] at f2
             have hjl := (List.getElem?_eq_some_iff.1 hj).1
             have hl : i * size + j < arr.size := by omega
             have hc : (elC es k0)[i * size + j]? = some (.p c) := by
               rw [← f1, List.getElem?_take_of_lt (by omega), List.getElem?_drop] at hj
               rw [elC_left (by rw [flat_len hall]; omega), hj]; rfl
             have rr := o4 _ _ _ hc (Array.getElem?_eq_getElem hl)
             simp only [Array.getElem?_eq_getElem hl, Option.getD_some]
             cases rr with
             | p hp => exact hp.mono hext.mem
       · exact .un v
     · exact r'
   | _ => exact r'
theorem EIx.at_ {es : List (List PV)} {size off : Nat} {K : List PV → Prop} (i : Nat) (e : List PV) (ho : i * size = off) (he : es[i]? = some e) (k : K e) : EIx es size off K := ⟨i, e, ho.symm, he, k⟩
theorem SEx.at_ {es : List (List PV)} {size off : Nat} {l : List PV} {K : List (List PV) → Prop} (i : Nat) (ho : i * size = off) (hi : i < es.length) (hl : l.length = size) (k : ∀ L, es.set i l = L → K L) : SEx es size off l K := ⟨i, ho.symm, hi, hl, k⟩
def frzK : List Operand → AS → (AS → Prop) → Prop
 | [], A, K => K A
 | .tmp t :: r, A, K => match look A.T t with
   | some (.ms id n) => match nth A.H id with
     | some (.elts es _) => Asm (fun _ => n = es.length) fun _ => frzK r ⟨(t, .p (.sl es)) :: A.T, setX A.H id .gone⟩ K
     | _ => frzK r A K
   | _ => frzK r A K
 | _ :: r, A, K => frzK r A K
theorem frzK_ok {nt : NT} {B : Base} {a : Act} {w : World} {K : AS → Prop} : ∀ (ts : List Operand) (A : AS) (G : Ghost), frzK ts A K → TR nt G A.T a → WR B G A.H w →
   ∃ G' A', GExt G G' ∧ TR nt G' A'.T a ∧ WR B G' A'.H w ∧ K A' := by
 intro ts
 induction ts with
 | nil => intro A G h tr wr; exact ⟨G, A, GExt.refl G, tr, wr, h⟩
 | cons o ts ih =>
   intro A G h tr wr
   cases o with
   | tmp t =>
     simp only [frzK] at h
     split at h
     · rename_i id n hl
       split at h
       · rename_i es size hid
         have hn := h.c
         have hk := h.k
         rw [nth_eq] at hid
         have hlt := (List.getElem?_eq_some_iff.1 hid).1
         rw [setX_eq _ _ _ (by omega), if_pos hlt] at hk
         obtain ⟨G1, e1, wr1, f1⟩ := wr.freeze hid
         obtain ⟨v, hv, rv⟩ := tr.slots t _ hl
         have r1 := f1 _ _ rv
         simp only [frzV, hn, if_true] at r1
         have tr1 := tr.mono e1
         have tr2 : TR nt G1 ((t, .p (.sl es)) :: A.T) a := ⟨tr1.size, tr1.defers, fun t' x hx => by
           simp only [look] at hx
           split at hx
           · rename_i e; subst e
             simp only [Option.some.injEq] at hx; subst hx
             exact ⟨v, hv, r1⟩
           · exact tr1.slots t' x hx⟩
         obtain ⟨G2, A2, e2, k1, k2, k3⟩ := ih _ G1 hk tr2 wr1
         exact ⟨G2, A2, e1.trans e2, k1, k2, k3⟩
       · exact ih _ _ h tr wr
     · exact ih _ _ h tr wr
   | _ => exact ih _ _ h tr wr
def usesO : Op → List Operand
 | .store _ _ x => [x]
 | .box _ x => [x]
 | .build _ ps => mapX (·.2) ps.toList
 | .buildSlice _ _ ps => mapX (·.2) ps.toList
 | .call c => match c.callee with
   | .value _ => c.args.toList
   | .builtin .append => c.args.toList
   | _ => []
 | _ => []
def resO : List ResultVar → List Operand
 | [] => []
 | .tmp t :: r => .tmp t :: resO r
 | _ :: r => resO r
mutual
def AV.rep (id : Nat) (ps : List PV) : AV → AV
 | .ref i o => if i = id then .p (.ip (dropX ps o)) else .ref i o
 | .fn f caps => .fn f (AV.repL id ps caps)
 | .agg cs => .agg (AV.repL id ps cs)
 | .tup cs => .tup (AV.repL id ps cs)
 | .p x => .p x
 | .tok i es => .tok i es
 | .ms i n => .ms i n
 | .vec i g s l n => .vec i g s l n
 | .vref i g o => .vref i g o
 | .rvec i g n => .rvec i g n
 | .rref i g k => .rref i g k
 | .rtok i k j l => .rtok i k j l
 | .nils n => .nils n
 | .mp i => .mp i
 | .ifc t x => .ifc t x
 | .die t x => .die t x
 | .full es => .full es
 | .un => .un
def AV.repL (id : Nat) (ps : List PV) : List AV → List AV
 | [] => []
 | x :: r => AV.rep id ps x :: AV.repL id ps r
end
theorem repL_eq (id : Nat) (ps : List PV) : ∀ l : List AV, AV.repL id ps l = l.map (AV.rep id ps)
 | [] => rfl
 | x :: r => by simp [AV.repL, repL_eq id ps r]
def repT (id : Nat) (ps : List PV) : List (Nat × AV) → List (Nat × AV)
 | [] => []
 | (k, x) :: r => (k, AV.rep id ps x) :: repT id ps r
theorem look_repT (id : Nat) (ps : List PV) (t : Nat) : ∀ T : List (Nat × AV), look (repT id ps T) t = (look T t).map (AV.rep id ps)
 | [] => rfl
 | (k, x) :: r => by
   simp only [repT, look]
   split
   · rfl
   · exact look_repT id ps t r
def AObj.rep (id : Nat) (ps : List PV) : AObj → AObj
 | .cells cs => .cells (AV.repL id ps cs)
 | .spare n s => .spare n s
 | .gone => .gone
 | .elts es s => .elts es s
 | .vec g es s => .vec g es s
 | .rvec g k ls s => .rvec g k ls s
 | .rhole g k ls s i => .rhole g k ls s i
 | .map es => .map es
def repH (id : Nat) (ps : List PV) : List AObj → List AObj
 | [] => []
 | x :: r => AObj.rep id ps x :: repH id ps r
theorem repH_eq (id : Nat) (ps : List PV) : ∀ l : List AObj, repH id ps l = l.map (AObj.rep id ps)
 | [] => rfl
 | x :: r => by simp [repH, repH_eq id ps r]
theorem WR.freezeBox {B : Base} {G : Ghost} {H : List AObj} {w : World} (h : WR B G H w) {id : Nat} {cs : List AV} {ps : List PV} (hid : H[id]? = some (.cells cs)) (hp : cs.mapM AV.pure1 = some ps) :
   ∃ G', GExt G G' ∧ WR B G' (repH id ps (H.set id .gone)) w ∧ ∀ x v, RV G x v → RV G' (x.rep id ps) v := by
 obtain ⟨b, arr, ty, o1, o2, o3, o4, o5⟩ := h.objs id _ hid
 obtain ⟨p1, p2⟩ := mapM_get hp
 have hlt := (List.getElem?_eq_some_iff.1 hid).1
 have hfr := h.fresh id _ b o1 rfl
 let G' : Ghost := { G with mem := fun b' o => if b' = b then arr[o]? else G.mem b' o }
 have hext : GExt G G' := ⟨fun x o v hv => by
     have : x ≠ b := fun e => by subst e; rw [o5 o] at hv; cases hv
     show (if x = b then arr[o]? else G.mem x o) = some v
     rw [if_neg this]; exact hv, fun _ _ h => h, fun _ c u o h => ⟨c, u, o, h, Nat.le_refl _, fun _ => rfl⟩, fun _ c u o k cv s h => ⟨c, u, o, k, cv, s, h, Nat.le_refl _, fun _ => rfl, Nat.le_refl _, fun _ => rfl⟩⟩
 have hrep : ∀ x v, RV G x v → RV G' (x.rep id ps) v := by
   intro x v r
   induction r with
   | p hp => exact .p (hp.mono hext.mem)
   | @ref id' b' off ho =>
     simp only [AV.rep]
     split
     · rename_i e; subst e
       rw [o1] at ho; simp only [Option.some.injEq, GO.box.injEq] at ho; subst ho
       rw [dropX_eq]
       have key : ∀ i, i < ps.length - off → off + i < arr.size := fun i hi => by rw [o3]; omega
       refine .p (.ip _ b off (fun i => (arr[off + i]?).getD undef) (fun i hi => ?_) (fun i c hc => ?_))
       · rw [List.length_drop] at hi
         show (if b = b then arr[off + i]? else G.mem b (off + i)) = _
         rw [if_pos rfl, Array.getElem?_eq_getElem (key i hi)]; rfl
       · rw [List.getElem?_drop] at hc
         have hlt := (List.getElem?_eq_some_iff.1 hc).1
         have hk := key i (by omega)
         have hcs : cs[off + i]? = some (cs[off + i]'(by omega)) := List.getElem?_eq_getElem _
         rw [Array.getElem?_eq_getElem hk]
         exact (pure1_ok (o4 _ _ _ hcs (Array.getElem?_eq_getElem hk)) (p2 _ _ _ hcs hc)).mono hext.mem
     · exact .ref off ho
   | tok hp ho hle he =>
     obtain ⟨c', u', o', h1, h2, h3⟩ := hext.tok _ _ _ _ ho
     exact .tok (hp.mono hext.mem) h1 (by omega) (fun e => by rw [h3 (by omega)]; exact he (by omega))
   | ms ho hn hc => exact .ms ho hn hc
   | vec ho hg hs hv => exact .vec ho hg hs hv
   | vref ho hg hs hv => exact .vref ho hg hs hv
   | rvec ho hg hs hv => exact .rvec ho hg hs hv
   | rref ho hg hs hv => exact .rref ho hg hs hv
   | rtok hp ho hk hv => exact .rtok (hp.mono hext.mem) ho hk hv
   | nils hn => exact (RV.nils hn).mono hext
   | mp ho => exact .mp ho
   | ifc hp => exact .ifc (hp.mono hext.mem)
   | fn hl hr ih =>
     simp only [AV.rep, repL_eq]
     refine .fn (by rw [List.length_map]; exact hl) fun i c v hc hv => ?_
     rw [List.getElem?_map, Option.map_eq_some_iff] at hc
     obtain ⟨y, hy, rfl⟩ := hc
     exact ih i y v hy hv
   | full hp => exact .full (hp.mono hext.mem)
   | agg hl hr ih =>
     simp only [AV.rep, repL_eq]
     refine .agg (by rw [List.length_map]; exact hl) fun i c v hc hv => ?_
     rw [List.getElem?_map, Option.map_eq_some_iff] at hc
     obtain ⟨y, hy, rfl⟩ := hc
     exact ih i y v hy hv
   | tup hl hr ih =>
     simp only [AV.rep, repL_eq]
     refine .tup (by rw [List.length_map]; exact hl) fun i c v hc hv => ?_
     rw [List.getElem?_map, Option.map_eq_some_iff] at hc
     obtain ⟨y, hy, rfl⟩ := hc
     exact ih i y v hy hv
   | un v => exact .un v
 refine ⟨G', hext, ⟨h.below, fun x o v hv => ?_, fun x o v hv => ?_, fun x o v hv => hext.mem x o v (h.olds x o v hv), fun j x hx => ?_, h.sep, h.fresh, fun j hj => h.dom j (by rw [repH_eq] at hj; simpa using hj), fun c y f hc => ?_, h.apart⟩, hrep⟩
 · have hv' : (if x = b then arr[o]? else G.mem x o) = some v := hv
   split at hv'
   · rename_i e; subst e
     rw [cell_of_row w x o arr ty (0, 0) o2]; exact hv'
   · exact h.mem x o v hv'
 · have hv' : (if x = b then arr[o]? else G.mem x o) = some v := hv
   split at hv'
   · rename_i e; subst e; exact .inr hfr.1
   · exact h.news x o v hv'
 · rw [repH_eq, List.getElem?_map, Option.map_eq_some_iff] at hx
   obtain ⟨x0, hx, rfl⟩ := hx
   by_cases e : id = j
   · subst e
     rw [List.getElem?_set_self hlt] at hx
     simp only [Option.some.injEq] at hx; subst hx; trivial
   · rw [getElem?_set_ne' e] at hx
     have hk := (h.objs j x0 hx).keep (w' := w) hext rfl (fun _ _ _ _ => rfl) (fun g c o hg hc => by
       have : c ≠ b := fun e' => by subst e'; exact e (h.sep id j _ _ c o1 hg rfl hc)
       show (if c = b then arr[o]? else G.mem c o) = G.mem c o
       rw [if_neg this])
     cases x0 with
     | cells cs' =>
       obtain ⟨b', arr', t', q1, q2, q3, q4, q5⟩ := h.objs j _ hx
       have hne : b' ≠ b := fun e' => by subst e'; exact e (h.sep id j _ _ b' o1 q1 rfl rfl)
       simp only [AObj.rep, repL_eq]
       refine ⟨b', arr', t', q1, q2, by rw [List.length_map]; exact q3, fun i c v hc hv => ?_, fun o => ?_⟩
       · rw [List.getElem?_map, Option.map_eq_some_iff] at hc
         obtain ⟨y, hy, rfl⟩ := hc
         exact hrep _ _ (q4 i y v hy hv)
       · show (if b' = b then arr[o]? else G.mem b' o) = none
         rw [if_neg hne]; exact q5 o
     | spare n s => exact hk
     | gone => trivial
     | elts es s => exact hk
     | vec g es s => exact hk
     | rvec g k ls s => exact hk
     | rhole g k ls s i => exact hk
     | map es => exact hk
 · have hne : c ≠ b := fun e => by subst e; rw [h.apart id _ c o1 rfl] at hc; cases hc
   obtain ⟨h1, h2⟩ := h.keep c y f hc
   refine ⟨h1, ?_⟩
   rw [← h2]; funext o
   show (if c = b then arr[o]? else G.mem c o) = G.mem c o
   rw [if_neg hne]
def frz1 (id : Nat) (A : AS) : AS :=
 match nth A.H id with
 | some (.cells cs) => match optL AV.pure1 cs with
   | some ps => ⟨repT id ps A.T, repH id ps (setX A.H id .gone)⟩
   | none => A
 | _ => A
def frzL : List Nat → AS → AS
 | [], A => A
 | id :: r, A => frzL r (frz1 id A)
def frzN : Nat → Nat → AS → AS
 | 0, _, A => A
 | n + 1, id, A => frzN n (id + 1) (frz1 id A)
def frzAll (A : AS) : AS := frzN (lenX A.H) 0 (frzN (lenX A.H) 0 (frzN (lenX A.H) 0 A))
def Fz (nt : NT) (A A' : AS) : Prop := ∀ B G a w, TR nt G A.T a → WR B G A.H w → ∃ G', GExt G G' ∧ TR nt G' A'.T a ∧ WR B G' A'.H w
theorem Fz.refl (nt : NT) (A : AS) : Fz nt A A := fun _ G _ _ tr wr => ⟨G, GExt.refl G, tr, wr⟩
theorem Fz.trans {nt : NT} {A B C : AS} (h : Fz nt A B) (k : Fz nt B C) : Fz nt A C := fun X G a w tr wr =>
 let ⟨G1, e1, t1, w1⟩ := h X G a w tr wr
 let ⟨G2, e2, t2, w2⟩ := k X G1 a w t1 w1
 ⟨G2, e1.trans e2, t2, w2⟩
theorem Fz.frz1 (nt : NT) (id : Nat) (A : AS) : Fz nt A (frz1 id A) := by
 intro B G a w tr wr
 unfold Go.Proofs.Ytcajncmjlmpkgaa.frz1
 split
 · rename_i cs hcs
   split
   · rename_i ps hps
     rw [nth_eq] at hcs
     rw [optL_eq] at hps
     have hlt := (List.getElem?_eq_some_iff.1 hcs).1
     obtain ⟨G', e, wr', hr⟩ := wr.freezeBox hcs hps
     refine ⟨G', e, ⟨tr.size, tr.defers, fun t x hx => ?_⟩, ?_⟩
     · rw [look_repT, Option.map_eq_some_iff] at hx
       obtain ⟨y, hy, rfl⟩ := hx
       obtain ⟨v, h1, h2⟩ := tr.slots t y hy
       exact ⟨v, h1, hr _ _ h2⟩
     · rw [setX_eq _ _ _ (by omega), if_pos hlt]; exact wr'
   · exact ⟨G, GExt.refl G, tr, wr⟩
 · exact ⟨G, GExt.refl G, tr, wr⟩
theorem Fz.frzL (nt : NT) : ∀ (l : List Nat) (A : AS), Fz nt A (frzL l A)
 | [], A => Fz.refl nt A
 | id :: r, A => (Fz.frz1 nt id A).trans (Fz.frzL nt r _)
theorem Fz.frzN (nt : NT) : ∀ (n id : Nat) (A : AS), Fz nt A (frzN n id A)
 | 0, _, A => Fz.refl nt A
 | n + 1, id, A => (Fz.frz1 nt id A).trans (Fz.frzN nt n (id + 1) _)
theorem Fz.frzAll (nt : NT) (A : AS) : Fz nt A (frzAll A) := ((Fz.frzN nt _ _ _).trans (Fz.frzN nt _ _ _)).trans (Fz.frzN nt _ _ _)
end Go.Proofs.Ytcajncmjlmpkgaa
