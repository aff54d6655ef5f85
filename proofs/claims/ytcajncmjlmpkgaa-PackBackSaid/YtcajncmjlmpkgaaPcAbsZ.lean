/- Maps of the function's own: what is found, what is put. Own work; no condition. -/
import Derived.Test.YtcajncmjlmpkgaaPcAbs19
import Derived.Test.YtcajncmjlmpkgaaPc6
import Derived.MapKept
import Derived.Carry
namespace Go.Proofs.Ytcajncmjlmpkgaa
open Go Go.RowKit Go.MapKept
set_option linter.unusedVariables false
theorem sbeqZ (a b : ByteArray) : sbeq a b = true ↔ a = b := by
 rw [sbeq]
 simp only [beq_iff_eq, ByteArray.toList_eq]
 constructor
 · intro h
   have := Array.toList_inj.1 h
   cases a; cases b; simp_all
 · intro h; rw [h]
inductive KD where
 | str
 | int (k : IntKind)
 deriving DecidableEq
def KD.desc : KD → TypeDesc
 | .str => .string
 | .int k => .int k
def isKeyP : KD → PV → Bool
 | .str, .str _ => true
 | .int k, .int k' _ => decide (k = k')
 | _, _ => false
def keyEq : PV → PV → Bool
 | .str a, .str b => sbeq a b
 | .int _ a, .int _ b => decide (a = b)
 | _, _ => false
def findM : List (PV × PV) → PV → Nat → Option (Nat × PV)
 | [], _, _ => none
 | e :: r, k, i => match keyEq e.1 k with
   | true => some (i, e.2)
   | false => findM r k (i + 1)
def getM (z : PV) (es : List (PV × PV)) (k : PV) : PV := match findM es k 0 with
 | some (_, v) => v
 | none => z
def putM : List (PV × PV) → PV → PV → List (PV × PV)
 | [], k, v => [(k, v)]
 | e :: r, k, v => match keyEq e.1 k with
   | true => (k, v) :: r
   | false => e :: putM r k v
def keysB (d : KD) (es : List (PV × PV)) : Bool := es.all fun e => isKeyP d e.1
theorem isKey_of {m : Mem} {d : KD} {x : PV} {v : Value} (h : isKeyP d x = true) (r : RP m x v) : IsKey d.desc v := by
 cases d <;> cases r <;> simp_all [isKeyP, IsKey, KD.desc]
theorem keyEq_of {m : Mem} {d : KD} {x y : PV} {u v : Value} (hx : isKeyP d x = true) (hy : isKeyP d y = true) (rx : RP m x u) (ry : RP m y v) : keyEq x y = true ↔ u = v := by
 cases d <;> cases rx <;> simp [isKeyP] at hx <;> cases ry <;> simp [isKeyP] at hy
 · simp [keyEq, sbeqZ]
 · subst hx hy; simp [keyEq]
theorem find_map {m : Mem} {d : KD} {k : PV} {kv : Value} (hk : isKeyP d k = true) (rk : RP m k kv) : ∀ (es : List (PV × PV)) (ms : List MapEntry) (i : Nat), keysB d es = true → ms.length = es.length →
   (∀ (j : Nat) e x, es[j]? = some e → ms[j]? = some x → RP m e.1 x.key ∧ RP m e.2 x.val) →
   (findM es k i = none ∧ Instr.findNow d.desc kv ms i = some none) ∨ ∃ j y v, findM es k i = some (j, y) ∧ Instr.findNow d.desc kv ms i = some (some (j, v)) ∧ RP m y v
 | [], ms, i, _, hl, _ => by
   have : ms = [] := List.length_eq_zero_iff.1 (by simpa using hl)
   subst this
   exact .inl ⟨rfl, rfl⟩
 | e :: es, [], i, _, hl, _ => by simp at hl
 | e :: es, x :: ms, i, hb, hl, h => by
   simp only [keysB, List.all_cons, Bool.and_eq_true] at hb
   obtain ⟨r1, r2⟩ := h 0 e x rfl rfl
   have ih := find_map hk rk es ms (i + 1) hb.2 (by simpa using hl) (fun j e' x' he hx => h (j + 1) e' x' he hx)
   obtain ⟨r, hr, hiff⟩ := sameNow_of_keys (isKey_of hk rk) (isKey_of hb.1 r1)
   have he := keyEq_of hb.1 hk r1 rk
   cases hq : keyEq e.1 k with
   | true =>
     have hrt : r = true := hiff.2 (he.1 hq).symm
     subst hrt
     exact .inr ⟨i, e.2, x.val, by simp only [findM, hq], by simp only [Instr.findNow, hr], r2⟩
   | false =>
     have hrf : r = false := by
       cases r with
       | false => rfl
       | true => have := he.2 (hiff.1 rfl).symm; rw [hq] at this; cases this
     subst hrf
     rcases ih with ⟨h1, h2⟩ | ⟨j, y, v, h1, h2, h3⟩
     · exact .inl ⟨by simp only [findM, hq]; exact h1, by simp only [Instr.findNow, hr]; exact h2⟩
     · exact .inr ⟨j, y, v, by simp only [findM, hq]; exact h1, by simp only [Instr.findNow, hr]; exact h2, h3⟩
theorem WR.newMap {B : Base} {G : Ghost} {H H' : List AObj} {w : World} (h : WR B G H w) {id : Nat} (hid : G.obj id = none) (hup : Upd H H' id (.map [])) : WR B (G.box id w.heap.size) H' (w.alloc (.map #[] 0)) ∧ GExt G (G.box id w.heap.size) ∧ ∀ j, j ≠ id → G.obj j = none → (G.box id w.heap.size).obj j = none := by
 have hne : ∀ i x, G.obj i = some x → i ≠ id := fun i x hx e => by subst e; rw [hid] at hx; cases hx
 have hext : GExt G (G.box id w.heap.size) :=
   ⟨fun _ _ _ h => h, fun i b hb => by simp only [Ghost.box]; rw [if_neg (hne _ _ hb)]; exact hb,
     fun i c u o hc => ⟨c, u, o, by simp only [Ghost.box]; rw [if_neg (hne _ _ hc)]; exact hc, Nat.le_refl _, fun _ => rfl⟩, fun i c u o k cv s hc => ⟨c, u, o, k, cv, s, by simp only [Ghost.box]; rw [if_neg (hne _ _ hc)]; exact hc, Nat.le_refl _, fun _ => rfl, Nat.le_refl _, fun _ => rfl⟩⟩
 have hle := h.below.size
 refine ⟨⟨h.below.alloc hle _, fun b o v hv => cell?_alloc (h.mem b o v hv), h.news, h.olds, fun j x hx => ?_, fun i j x y b hi hj hx hy => ?_, fun i x b hi hb => ?_, fun j hj => ?_, fun b x f hb => ?_, fun i x b hi hb => ?_⟩, hext, fun j h1 h2 => by simp [Ghost.box, h1, h2]⟩
 · by_cases e : j = id
   · subst e
     rw [hup.at_] at hx; simp only [Option.some.injEq] at hx; subst hx
     refine ⟨w.heap.size, #[], 0, by simp [Ghost.box], (Go.MapKept.heap_alloc w _).1, rfl, fun i e x he => by simp at he, fun o => ?_⟩
     cases hv : G.mem w.heap.size o with
     | none => exact hv
     | some v => have := cell?_lt (h.mem _ _ _ hv); simp at this
   · rw [hup.other j e] at hx
     refine (h.objs j x hx).keep hext (by simp [Ghost.box, e]) (fun g b hg hb => ?_) (fun _ _ _ _ _ => rfl)
     exact Below.heap_alloc w _ b (h.fresh j g b hg hb).2
 · simp only [Ghost.box] at hi hj
   split at hi <;> split at hj
   · omega
   · simp at hi; subst hi; simp [GO.has] at hx; subst hx
     have := (h.fresh j y _ hj hy).2; omega
   · simp at hj; subst hj; simp [GO.has] at hy; subst hy
     have := (h.fresh i x _ hi hx).2; omega
   · exact h.sep i j x y b hi hj hx hy
 · simp only [Ghost.box] at hi
   split at hi
   · simp at hi; subst hi; simp [GO.has] at hb; subst hb
     exact ⟨hle, by simp⟩
   · have := h.fresh i x b hi hb
     exact ⟨this.1, by simp; omega⟩
 · obtain ⟨h1, h2⟩ := hup.dom j hj
   simp only [Ghost.box, h2, if_false]; exact h.dom j h1
 · obtain ⟨h1, h2⟩ := h.keep b x f hb
   exact ⟨by rw [Below.heap_alloc w _ b (h.pr_lt hb)]; exact h1, h2⟩
 · simp only [Ghost.box] at hi
   split at hi
   · simp at hi; subst hi; simp [GO.has] at hb; subst hb
     exact h.pr_new
   · exact h.apart i x b hi hb
theorem WR.putMap {B : Base} {G : Ghost} {H H' : List AObj} {w : World} (h : WR B G H w) {id b : Nat} {es' : List (PV × PV)} {ms ms' : Array MapEntry} {clk clk' : Nat} (hb : G.obj id = some (.box b)) (hup : Upd H H' id (.map es')) (hh : w.heap[b]? = some (.map ms clk)) (hm : ∀ o, G.mem b o = none)
   (hl : ms'.size = es'.length) (hr : ∀ (i : Nat) e x, es'[i]? = some e → ms'[i]? = some x → RP G.mem e.1 x.key ∧ RP G.mem e.2 x.val) : WR B G H' { w with heap := w.heap.setIfInBounds b (.map ms' clk') } := by
 obtain ⟨s1, s2⟩ := heap_set (o' := .map ms' clk') hh
 have hfr := h.fresh id _ b hb rfl
 have hcell : ∀ x o, x ≠ b → ({ w with heap := w.heap.setIfInBounds b (.map ms' clk') } : World).cell? ⟨x, o, none⟩ = w.cell? ⟨x, o, none⟩ := fun x o hx => World.cell?_of_block (w := w) (s2 x hx)
 refine ⟨h.below.trans ⟨rfl, rfl, rfl, by simp, fun k hk => s2 k (by omega)⟩, fun x o v hv => ?_, h.news, h.olds, fun j x hx => ?_, h.sep, fun i x c hi hc => ?_, fun j hj => ?_, fun c x f hc => ?_, h.apart⟩
 · have : x ≠ b := fun e => by subst e; rw [hm o] at hv; cases hv
   rw [hcell x o this]; exact h.mem x o v hv
 · by_cases e : j = id
   · subst e
     rw [hup.at_] at hx; simp only [Option.some.injEq] at hx; subst hx
     exact ⟨b, ms', clk', hb, s1, hl, hr, hm⟩
   · rw [hup.other j e] at hx
     refine (h.objs j x hx).keep (GExt.refl G) rfl (fun g c hg hc => s2 c fun e' => ?_) (fun _ _ _ _ _ => rfl)
     subst e'
     exact e (h.sep j id _ _ c hg hb hc rfl)
 · have := h.fresh i x c hi hc
   exact ⟨this.1, by simp; exact this.2⟩
 · obtain ⟨h1, h2⟩ := hup.dom j hj
   exact h.dom j h1
 · obtain ⟨h1, h2⟩ := h.keep c x f hc
   exact ⟨by rw [s2 c (fun e => by subst e; rw [h.apart id _ c hb rfl] at hc; cases hc)]; exact h1, h2⟩
theorem makeMap_ok {P : Program} {B : Base} {G : Ghost} {H H' : List AObj} {w : World} (wr : WR B G H w) {id : Nat} (t : TypeId) (hid : G.obj id = none) (hup : Upd H H' id (.map [])) :
   ∃ v w' G', (Instr.makeMap t none).run P w = .ok v w' ∧ GExt G G' ∧ WR B G' H' w' ∧ RV G' (.mp id) v ∧ ∀ j, j ≠ id → G.obj j = none → G'.obj j = none := by
 have g := wr.newMap hid hup
 exact ⟨_, _, _, run_makeMap t w, g.2.1, g.1, .mp (b := w.heap.size) (by simp [Ghost.box]), g.2.2⟩
theorem RV.mp_val {G : Ghost} {id : Nat} {v : Value} (r : RV G (.mp id) v) : ∃ b, G.obj id = some (.box b) ∧ v = .map (some b) := by
 cases r with | mp h => exact ⟨_, h, rfl⟩
theorem mapObj {B : Base} {G : Ghost} {H : List AObj} {w : World} (wr : WR B G H w) {id b : Nat} {es : List (PV × PV)} (hb : G.obj id = some (.box b)) (hid : H[id]? = some (.map es)) :
   ∃ ms clk, w.heap[b]? = some (.map ms clk) ∧ ms.size = es.length ∧ (∀ (i : Nat) e x, es[i]? = some e → ms[i]? = some x → RP G.mem e.1 x.key ∧ RP G.mem e.2 x.val) ∧ ∀ o, G.mem b o = none := by
 obtain ⟨b', ms, clk, h1, h2, h3, h4, h5⟩ := wr.objs id _ hid
 rw [hb] at h1; simp only [Option.some.injEq, GO.box.injEq] at h1; subst h1
 exact ⟨ms, clk, h2, h3, h4, h5⟩
theorem lookup_ok {P : Program} {B : Base} {G : Ghost} {H : List AObj} {w : World} (wr : WR B G H w) {id : Nat} {es : List (PV × PV)} {t kt et : TypeId} {d : KD} {ei : TI} {k z : PV} {mv kv : Value} (hu : P.underlying t = some (.map kt et)) (hd : P.underlying kt = some d.desc) (he : tinfo P et = some ei) (hz : ei.zero = [.p z]) (hz1 : ei.agg = false)
   (rm : RV G (.mp id) mv) (hid : H[id]? = some (.map es)) (hb : keysB d es = true) (hk : isKeyP d k = true) (rk : RP G.mem k kv) :
   (∃ v, (Instr.lookup t mv kv false).run P w = .ok v w ∧ RP G.mem (getM z es k) v) ∧ (∃ v, (Instr.lookup t mv kv true).run P w = .ok (.tuple #[v, .bool (findM es k 0).isSome]) w ∧ RP G.mem (getM z es k) v) := by
 obtain ⟨b, hbx, rfl⟩ := rm.mp_val
 obtain ⟨ms, clk, h2, h3, h4, h5⟩ := mapObj wr hbx hid
 obtain ⟨i, de, zv, ke⟩ := tinfo_ok he
 have hzr := ke.zero_rv (G := G)
 have hzv : RP G.mem z zv := by
   have hc : zv.cells = #[zv] := by
     have h0 : ei.agg = aggT de := by rw [TI.agg, ← ke.kind]; cases de <;> rfl
     have h1 := ke.za
     rw [← h0, hz1] at h1
     cases zv <;> first | rfl | cases h1
   have h1 := hzr.2 0 (.p z) zv (by rw [hz]; rfl) (by rw [hc]; rfl)
   cases h1 with | p h => exact h
 have hkk := isKey_of hk rk
 rcases find_map hk rk es ms.toList 0 hb (by simpa using h3) (fun j e x he hx => h4 j e x he (by simpa using hx)) with ⟨f1, f2⟩ | ⟨j, y, v, f1, f2, f3⟩
 · have e : getM z es k = z := by rw [getM, f1]
   rw [e]
   refine ⟨⟨zv, ?_, hzv⟩, ⟨zv, ?_, hzv⟩⟩
   · simp [Instr.lookup, run_underlying hu, Go.MapKept.run_getObj_map h2, run_checkKey hd hkk, run_findKey hd f2, Result.andThen, ke.run_zero w]
   · simp [Instr.lookup, run_underlying hu, Go.MapKept.run_getObj_map h2, run_checkKey hd hkk, run_findKey hd f2, Result.andThen, ke.run_zero w, f1]
 · have e : getM z es k = y := by rw [getM, f1]
   rw [e]
   refine ⟨⟨v, ?_, f3⟩, ⟨v, ?_, f3⟩⟩
   · simp [Instr.lookup, run_underlying hu, Go.MapKept.run_getObj_map h2, run_checkKey hd hkk, run_findKey hd f2, Result.andThen]
   · simp [Instr.lookup, run_underlying hu, Go.MapKept.run_getObj_map h2, run_checkKey hd hkk, run_findKey hd f2, Result.andThen, f1]
theorem putM_none {k y : PV} : ∀ {es : List (PV × PV)} {i : Nat}, findM es k i = none → putM es k y = es ++ [(k, y)]
 | [], _, _ => rfl
 | e :: r, i, h => by
   rw [findM] at h
   rw [putM]
   split at h
   · cases h
   · rename_i hq
     rw [putM_none h]; rfl
theorem putM_some {k y v : PV} : ∀ {es : List (PV × PV)} {i j : Nat}, findM es k i = some (j, v) → i ≤ j ∧ j - i < es.length ∧ putM es k y = es.set (j - i) (k, y)
 | [], _, _, h => by cases h
 | e :: r, i, j, h => by
   rw [findM] at h
   rw [putM]
   split at h
   · rename_i hq
     simp only [Option.some.injEq, Prod.mk.injEq] at h
     obtain ⟨rfl, _⟩ := h
     simp
   · rename_i hq
     obtain ⟨h1, h2, h3⟩ := putM_some (y := y) h
     rw [h3, show j - i = (j - (i + 1)) + 1 by omega]
     exact ⟨by omega, by simp; omega, rfl⟩
theorem find_same {d : KD} {k : PV} {m : Mem} {kv : Value} (hk : isKeyP d k = true) (rk : RP m k kv) {es : List (PV × PV)} {ms : List MapEntry} (hb : keysB d es = true) (hl : ms.length = es.length)
   (h : ∀ (j : Nat) e x, es[j]? = some e → ms[j]? = some x → RP m e.1 x.key ∧ RP m e.2 x.val) :
   (findM es k 0 = none ∧ Instr.findNow d.desc kv ms 0 = some none) ∨ ∃ j y x, findM es k 0 = some (j, y) ∧ Instr.findNow d.desc kv ms 0 = some (some (j, x.val)) ∧ ms[j]? = some x ∧ x.key = kv := by
 have hks : ∀ x ∈ ms, IsKey d.desc x.key := by
   intro x hx
   obtain ⟨j, hj, rfl⟩ := List.getElem_of_mem hx
   have he : es[j]? = some (es[j]'(by omega)) := List.getElem?_eq_getElem _
   exact isKey_of (List.all_eq_true.1 hb _ (List.mem_of_getElem? he)) (h j _ _ he (List.getElem?_eq_getElem hj)).1
 rcases find_map hk rk es ms 0 hb hl h with ⟨f1, f2⟩ | ⟨j, y, v, f1, f2, _⟩
 · exact .inl ⟨f1, f2⟩
 · rcases findNow_spec (isKey_of hk rk) ms 0 hks with ⟨g1, _⟩ | ⟨j', x, g1, g2, g3⟩
   · rw [f2] at g1; cases g1
   · rw [f2] at g1
     simp only [Option.some.injEq, Prod.mk.injEq, Nat.zero_add] at g1
     obtain ⟨rfl, rfl⟩ := g1
     exact .inr ⟨j, y, x, f1, f2, g2, g3⟩
theorem mapUpdate_ok {P : Program} {B : Base} {G : Ghost} {H H' : List AObj} {w : World} (wr : WR B G H w) {id : Nat} {es : List (PV × PV)} {t kt et : TypeId} {d : KD} {k y : PV} {mv kv vv : Value} (hu : P.underlying t = some (.map kt et)) (hd : P.underlying kt = some d.desc)
   (rm : RV G (.mp id) mv) (hid : H[id]? = some (.map es)) (hup : Upd H H' id (.map (putM es k y))) (hb : keysB d es = true) (hk : isKeyP d k = true) (rk : RP G.mem k kv) (rv : RP G.mem y vv) :
   ∃ w', (Instr.mapUpdate t mv kv vv).run P w = .ok () w' ∧ WR B G H' w' := by
 obtain ⟨b, hbx, rfl⟩ := rm.mp_val
 obtain ⟨ms, clk, h2, h3, h4, h5⟩ := mapObj wr hbx hid
 have hkk := isKey_of hk rk
 rcases find_same hk rk (ms := ms.toList) hb (by simpa using h3) (fun j e x he hx => h4 j e x he (by simpa using hx)) with ⟨f1, f2⟩ | ⟨j, y0, x, f1, f2, f3, f4⟩
 · have e := putM_none (y := y) f1
   rw [e] at hup
   refine ⟨_, ?_, wr.putMap (clk' := clk + 1) (ms' := ms.push { key := kv, val := vv, born := clk }) hbx hup h2 h5 (by simp [h3]) (fun i e x he hx => ?_)⟩
   · simp [Instr.mapUpdate, run_underlying hu, Go.MapKept.run_getObj_map h2, run_checkKey hd hkk, run_findKey hd f2, run_setObj_map _ h2, Result.andThen]
   · rcases Nat.lt_or_ge i es.length with g | g
     · rw [List.getElem?_append_left g] at he
       rw [Array.getElem?_push, if_neg (by omega)] at hx
       exact h4 i e x he hx
     · rw [List.getElem?_append_right g] at he
       have hi : i = es.length := by
         rcases Nat.eq_or_lt_of_le g with q | q
         · exact q.symm
         · rw [show i - es.length = (i - es.length - 1) + 1 by omega] at he; simp at he
       subst hi
       rw [Array.getElem?_push, if_pos h3.symm] at hx
       simp at he hx
       subst he hx
       exact ⟨rk, rv⟩
 · obtain ⟨_, g2, g3⟩ := putM_some (y := y) f1
   rw [Nat.sub_zero] at g2 g3
   rw [g3] at hup
   have hj : ms[j]? = some x := by simpa using f3
   refine ⟨_, ?_, wr.putMap (clk' := clk) (ms' := ms.modify j fun e => { e with key := kv, val := vv }) hbx hup h2 h5 (by simp [h3]) (fun i e x' he hx => ?_)⟩
   · simp [Instr.mapUpdate, run_underlying hu, Go.MapKept.run_getObj_map h2, run_checkKey hd hkk, run_findKey hd f2, hj, f4, run_keyThatStays hkk, run_setObj_map _ h2, Result.andThen]
   · rw [Array.getElem?_modify] at hx
     by_cases q : j = i
     · subst q
       rw [if_pos rfl, hj] at hx
       rw [List.getElem?_set_self g2] at he
       simp at he hx
       subst he hx
       exact ⟨rk, rv⟩
     · rw [if_neg q] at hx
       rw [getElem?_set_ne' q] at he
       exact h4 i e x' he hx
theorem mapLen_ok {B : Base} {G : Ghost} {H : List AObj} {w : World} (wr : WR B G H w) {id : Nat} {es : List (PV × PV)} {mv : Value} (rm : RV G (.mp id) mv) (hid : H[id]? = some (.map es)) :
   ∃ b ms clk, mv = .map (some b) ∧ w.heap[b]? = some (.map ms clk) ∧ ms.size = es.length := by
 obtain ⟨b, hbx, rfl⟩ := rm.mp_val
 obtain ⟨ms, clk, h2, h3, _⟩ := mapObj wr hbx hid
 exact ⟨b, ms, clk, rfl, h2, h3⟩
end Go.Proofs.Ytcajncmjlmpkgaa
