/- The relation under stores and draws; operands; types; the operations that keep to the frame. Own work; no condition. -/
import Derived.Test.YtcajncmjlmpkgaaPcAbs1
import Derived.Laws.CopyOwn
import Derived.ChangeKeysEq
namespace Go.Proofs.Ytcajncmjlmpkgaa
open Go Go.RowKit
theorem WR.drew {B : Base} {G : Ghost} {H : List AObj} {w : World} (h : WR B G H w) : WR B G H w.drew :=
 ⟨h.below.drew, h.mem, h.news, h.olds, fun id x hx => (h.objs id x hx).keep (GExt.refl G) rfl (fun _ _ _ _ => rfl) (fun _ _ _ _ _ => rfl), h.sep, h.fresh, h.dom, h.keep, h.apart⟩
theorem getElem?_set_ne' {α : Type} {l : List α} {i j : Nat} {x : α} (h : i ≠ j) : (l.set i x)[j]? = l[j]? := by
 rw [List.getElem?_set]; simp [h]
theorem WR.store {B : Base} {G : Ghost} {H : List AObj} {w : World} (h : WR B G H w) {id b : Nat} {cs cs' : List AV} {old arr : Array Value} {t : TypeId}
   (hid : H[id]? = some (.cells cs)) (hb : G.obj id = some (.box b)) (hh : w.heap[b]? = some (.cells old t (0, 0))) (hm : ∀ o, G.mem b o = none)
   (hl : arr.size = cs'.length) (hr : ∀ (i : Nat) c v, cs'[i]? = some c → arr[i]? = some v → RV G c v) :
   WR B G (H.set id (.cells cs')) (w.setRow b arr) := by
 have hfr := h.fresh id _ b hb rfl
 have hidl : id < H.length := by
   rcases Nat.lt_or_ge id H.length with g | g
   · exact g
   · simp [List.getElem?_eq_none g] at hid
 refine ⟨below_setRow h.below hfr.1 _, fun x o v hv => ?_, h.news, h.olds, fun j x hx => ?_, h.sep, fun i x c hi hc => ?_, fun i hi => h.dom i (by simpa using hi), fun c x f hc => ?_, h.apart⟩
 · have : x ≠ b := fun e => by subst e; rw [hm o] at hv; cases hv
   rw [cell_setRow_other w b arr _ this]; exact h.mem x o v hv
 · by_cases e : id = j
   · subst e
     rw [List.getElem?_set_self hidl] at hx
     simp only [Option.some.injEq] at hx
     subst hx
     exact ⟨b, arr, t, hb, setRow_heap w b old arr t _ hh, hl, hr, hm⟩
   · rw [getElem?_set_ne' e] at hx
     refine (h.objs j x hx).keep (GExt.refl G) rfl (fun g c hg hc => ?_) (fun _ _ _ _ _ => rfl)
     refine setRow_other w b c arr (fun e' => ?_)
     subst e'
     exact e (h.sep id j _ _ c hb hg rfl hc)
 · have := h.fresh i x c hi hc
   exact ⟨this.1, by rw [setRow_size]; exact this.2⟩
 · obtain ⟨h1, h2⟩ := h.keep c x f hc
   refine ⟨?_, h2⟩
   rw [setRow_other w b c arr (fun e => by subst e; rw [h.apart id _ c hb rfl] at hc; cases hc)]; exact h1
def cst1 : Value → Option AV
 | .bool b => some (.p (.bool b))
 | .int k n => some (.p (.int k n))
 | .string s => some (.p (.str s))
 | .pointer none => some (.p .nilp)
 | .slice none 0 0 => some (.full [])
 | .nilFunc => some (.p .nilf)
 | .nilIface => some (.p .nili)
 | .map none => some (.p .nilm)
 | _ => none
theorem cst1_ok {G : Ghost} {v : Value} {x : AV} (h : cst1 v = some x) : RV G x v := by
 unfold cst1 at h
 split at h <;> simp only [Option.some.injEq, reduceCtorEq] at h <;> subst h <;> first | exact .full (.sl0 _ _ (by simp [maxLen])) | constructor <;> constructor
def cstL : List Value → Option (List AV)
 | [] => some []
 | v :: r => match cst1 v with
   | some x => match cstL r with
     | some l => some (x :: l)
     | none => none
   | none => none
theorem cstL_ok {G : Ghost} : ∀ {vs : List Value} {l : List AV}, cstL vs = some l → vs.length = l.length ∧ ∀ (i : Nat) c v, l[i]? = some c → vs[i]? = some v → RV G c v
 | [], l, h => by
   simp only [cstL, Option.some.injEq] at h; subst h
   exact ⟨rfl, fun i c v hc => by simp at hc⟩
 | v :: r, l, h => by
   simp only [cstL] at h
   split at h <;> try (cases h; done)
   rename_i x hx
   split at h <;> try (cases h; done)
   rename_i l' hl'
   simp only [Option.some.injEq] at h; subst h
   obtain ⟨h1, h2⟩ := cstL_ok hl'
   refine ⟨by simp [h1], fun i c u hc hu => ?_⟩
   cases i with
   | zero => simp at hc hu; subst hc hu; exact cst1_ok hx
   | succ i => exact h2 i c u (by simpa using hc) (by simpa using hu)
def cst : Value → Option AV
 | .agg cs => match cstL cs.toList with
   | some l => some (.agg l)
   | none => none
 | v => cst1 v
theorem cst_ok {G : Ghost} {v : Value} {x : AV} (h : cst v = some x) : RV G x v := by
 unfold cst at h
 split at h
 · rename_i cs
   split at h <;> try (cases h; done)
   rename_i l hl
   simp only [Option.some.injEq] at h; subst h
   obtain ⟨h1, h2⟩ := cstL_ok (G := G) hl
   exact .agg (by simpa using h1) fun i c v hc hv => h2 i c v hc (by simpa using hv)
 · exact cst1_ok h
def ev (T : List (Nat × AV)) : Operand → Option AV
 | .tmp t => look T t
 | .const v => cst v
 | .func f => some (.fn f [])
 | .global _ => none
theorem ev_ok {nt : NT} {G : Ghost} {T : List (Nat × AV)} {a : Act} (h : TR nt G T a) {x : Operand} {y : AV} (he : ev T x = some y) : RV G y (a.eval x) := by
 cases x with
 | tmp t =>
   obtain ⟨v, h1, h2⟩ := h.slots t y he
   have : a.eval (.tmp t) = v := by simp [Act.eval, h1]
   rw [this]; exact h2
 | const v => exact cst_ok he
 | func f => cases he; exact .fn rfl (fun i c v hc => by simp at hc)
 | global g => cases he
inductive TK where
 | one
 | fields (l : List (Nat × Nat × Bool))
 | array (n es : Nat) (ag : Bool)
 | slice (e es eb : Nat)
 | str
 | num (k : IntKind)
 | bool
 | map (k e : Nat)
 deriving Repr
structure TI where
 size : Nat
 bytes : Nat
 kind : TK
 zero : List AV
 eqs : Option (List (Nat × TK))
def TI.agg (i : TI) : Bool := match i.kind with | .fields _ | .array _ _ _ => true | _ => false
def isAggB (P : Program) (t : TypeId) : Bool := match P.underlying t with | some (.struct _) | some (.array _ _) | none => true | _ => false
def eqKind (P : Program) (f : Field) : Option (Nat × TK) :=
 if f.name = "_" then none else match P.underlying f.type with
   | some (.int k) => some (f.offset, .num k)
   | some .string => some (f.offset, .str)
   | some .bool => some (f.offset, .bool)
   | _ => none
def eqFs (P : Program) (t : TypeId) : TypeDesc → Option (List (Nat × TK))
 | .struct fs => if P.stoodInHeld t = false ∧ P.eqGuardType P.depth t = false then fs.toList.mapM (eqKind P) else none
 | _ => none
def tkind (P : Program) : TypeDesc → TK
 | .struct fs => .fields (fs.toList.map fun f => (f.offset, P.cellsOf f.type, isAggB P f.type))
 | .array n e => .array n (P.cellsOf e) (isAggB P e)
 | .slice e => .slice e (P.cellsOf e) (P.bytesOf e)
 | .string => .str
 | .int k => .num k
 | .bool => .bool
 | .map k e => .map k e
 | _ => .one
def aggV : Value → Bool
 | .agg _ => true
 | _ => false
def aggT : TypeDesc → Bool
 | .struct _ => true
 | .array _ _ => true
 | _ => false
def tinfo (P : Program) (t : TypeId) : Option TI :=
 match P.info? t, P.underlying t with
 | some i, some d => match i.zero with
   | some z => match z.cells.toList.mapM cst with
     | some zs => if zs.length = i.size ∧ aggV z = aggT d then some { size := i.size, bytes := i.bytes, kind := tkind P d, zero := zs, eqs := eqFs P t d } else none
     | none => none
   | none => none
 | _, _ => none
structure TOk (P : Program) (t : TypeId) (ti : TI) (i : TypeInfo) (d : TypeDesc) (z : Value) : Prop where
 info : P.info? t = some i
 und : P.underlying t = some d
 size : i.size = ti.size
 bytes : i.bytes = ti.bytes
 kind : tkind P d = ti.kind
 zero : i.zero = some z
 zs : z.cells.toList.mapM cst = some ti.zero
 zl : ti.zero.length = ti.size
 eqs : eqFs P t d = ti.eqs
 za : aggV z = aggT d
theorem tinfo_ok {P : Program} {t : TypeId} {ti : TI} (h : tinfo P t = some ti) : ∃ i d z, TOk P t ti i d z := by
 unfold tinfo at h
 split at h
 · rename_i i d h1 h2
   split at h
   · rename_i z h3
     split at h
     · rename_i zs h4
       split at h
       · rename_i h5
         simp only [Option.some.injEq] at h; subst h
         exact ⟨i, d, z, h1, h2, rfl, rfl, rfl, h3, h4, h5.1, rfl, h5.2⟩
       · cases h
     · cases h
   · cases h
 · cases h
section
variable {P : Program} {t : TypeId} {ti : TI} {i : TypeInfo} {d : TypeDesc} {z : Value} (k : TOk P t ti i d z) (w : World)
include k
theorem TOk.run_und : (underlying t).run P w = .ok d w := run_underlying k.und w
theorem TOk.run_size : (sizeOf t).run P w = .ok ti.size w := by
 rw [run_sizeOf w k.info]; simp [Program.cellsOf, k.info, k.size]
theorem TOk.run_zero : (zeroValue t).run P w = .ok z w := by
 simp [zeroValue, run_typeInfo w k.info, k.zero]
theorem TOk.run_agg : (isAgg t).run P w = .ok ti.agg w := by
 have : ti.agg = match d with | .struct _ | .array _ _ => true | _ => false := by
   rw [TI.agg, ← k.kind]; cases d <;> rfl
 rw [this]
 simp only [isAgg, Sem.run_bind, run_underlying k.und, Result.andThen_ok]
 cases d <;> rfl
end
theorem mapM_cst {l : List Value} {zs : List AV} (h : l.mapM cst = some zs) : l.length = zs.length ∧ ∀ (i : Nat) x v, zs[i]? = some x → l[i]? = some v → cst v = some x := by
 induction l generalizing zs with
 | nil => simp at h; subst h; simp
 | cons a l ih =>
   simp only [List.mapM_cons, Option.pure_def, Option.bind_eq_bind, Option.bind_eq_some_iff, Option.some.injEq] at h
   obtain ⟨x, hx, xs, hxs, rfl⟩ := h
   obtain ⟨h1, h2⟩ := ih hxs
   refine ⟨by simp [h1], fun i y v hy hv => ?_⟩
   cases i with
   | zero => simp at hy hv; subst hy hv; exact hx
   | succ i => exact h2 i y v (by simpa using hy) (by simpa using hv)
theorem TOk.zero_rv {P : Program} {t : TypeId} {ti : TI} {i : TypeInfo} {d : TypeDesc} {z : Value} (k : TOk P t ti i d z) {G : Ghost} :
   z.cells.size = ti.zero.length ∧ ∀ (i : Nat) c v, ti.zero[i]? = some c → z.cells[i]? = some v → RV G c v := by
 obtain ⟨h1, h2⟩ := mapM_cst k.zs
 exact ⟨by simpa using h1, fun i c v hc hv => cst_ok (h2 i c v hc (by simpa using hv))⟩
def PV.one : PV → Bool
 | .agg _ => false
 | _ => true
def AV.one : AV → Bool
 | .p x => x.one
 | .agg _ | .tup _ | .un => false
 | _ => true
theorem RV.one {G : Ghost} {x : AV} {v : Value} (r : RV G x v) (h : x.one = true) : v.oneCell' = true ∧ v.cells = #[v] := by
 cases r with
 | p hp => cases hp <;> first | exact ⟨rfl, rfl⟩ | simp [AV.one, PV.one] at h
 | agg => simp [AV.one] at h
 | tup => simp [AV.one] at h
 | un => simp [AV.one] at h
 | tok hp => cases hp <;> exact ⟨rfl, rfl⟩
 | vec ho hg hs hv => obtain ⟨_, _, rfl, _⟩ := hs; exact ⟨rfl, rfl⟩
 | vref ho hg hs hv => obtain ⟨_, rfl⟩ := hs; exact ⟨rfl, rfl⟩
 | rvec ho hg hs hv => obtain ⟨_, _, rfl⟩ := hs; exact ⟨rfl, rfl⟩
 | rref ho hg hs hv => obtain ⟨_, rfl⟩ := hs; exact ⟨rfl, rfl⟩
 | rtok hp => cases hp <;> exact ⟨rfl, rfl⟩
 | nils h => obtain ⟨_, rfl, _⟩ := h; exact ⟨rfl, rfl⟩
 | _ => exact ⟨rfl, rfl⟩
def AV.cells : AV → Option (List AV)
 | .p (.agg cs) => if cs.all PV.one then some (cs.map .p) else none
 | .agg cs => if cs.all AV.one then some cs else none
 | x => if x.one then some [x] else none
theorem cells_one {x : AV} (h : x.one = true) : x.cells = some [x] := by
 cases x with
 | p y => cases y <;> first | rfl | simp [AV.one, PV.one] at h
 | agg => simp [AV.one] at h
 | tup => simp [AV.one] at h
 | un => simp [AV.one] at h
 | _ => rfl
theorem cells_many {G : Ghost} {cs : List AV} {vs : Array Value} (ha : ∀ x, x ∈ cs → x.one = true) (hl : vs.size = cs.length) (hr : ∀ (i : Nat) c v, cs[i]? = some c → vs[i]? = some v → RV G c v) :
   ∀ u ∈ vs.toList, u.oneCell' = true := by
 intro u hu
 obtain ⟨i, hi, rfl⟩ := List.getElem_of_mem hu
 have hi' : i < cs.length := by simpa [hl] using hi
 exact ((hr i cs[i] _ (List.getElem?_eq_getElem hi') (by simp at hi; simp [hi])).one (ha _ (List.getElem_mem hi'))).1
theorem cells_ok {G : Ghost} {x : AV} {v : Value} {l : List AV} (r : RV G x v) (h : x.cells = some l) :
   v.cells.size = l.length ∧ (∀ (i : Nat) c u, l[i]? = some c → v.cells[i]? = some u → RV G c u) ∧ ∀ u ∈ v.cells.toList, u.oneCell' = true := by
 by_cases h1 : x.one = true
 · rw [cells_one h1] at h
   simp only [Option.some.injEq] at h; subst h
   obtain ⟨h2, h3⟩ := r.one h1
   rw [h3]
   refine ⟨rfl, fun i c u hc hu => ?_, fun u hu => by simp at hu; subst hu; exact h2⟩
   cases i with
   | zero => simp at hc hu; subst hc hu; exact r
   | succ i => simp at hc
 · cases r with
   | p hp =>
     cases hp with
     | agg cs vs hl hr =>
       simp only [AV.cells] at h
       split at h
       · rename_i ha
         simp only [Option.some.injEq] at h; subst h
         have hr' : ∀ (i : Nat) c v, (cs.map AV.p)[i]? = some c → vs[i]? = some v → RV G c v := by
           intro i c v hc hv
           rw [List.getElem?_map, Option.map_eq_some_iff] at hc
           obtain ⟨c', hc', rfl⟩ := hc
           exact .p (hr i c' v hc' hv)
         have ha' : ∀ x, x ∈ cs.map AV.p → x.one = true := by
           intro x hx
           obtain ⟨y, hy, rfl⟩ := List.mem_map.1 hx
           exact List.all_eq_true.1 ha y hy
         exact ⟨by rw [List.length_map]; exact hl, hr', cells_many (vs := vs) ha' (by rw [List.length_map]; exact hl) hr'⟩
       · cases h
     | _ => exact absurd rfl h1
   | agg hl hr =>
     simp only [AV.cells] at h
     split at h
     · rename_i ha
       simp only [Option.some.injEq] at h; subst h
       exact ⟨hl, hr, cells_many (fun x hx => List.all_eq_true.1 ha x hx) hl hr⟩
     · cases h
   | tup => simp [AV.cells, AV.one] at h
   | un => simp [AV.cells, AV.one] at h
   | _ => exact absurd rfl h1
end Go.Proofs.Ytcajncmjlmpkgaa
