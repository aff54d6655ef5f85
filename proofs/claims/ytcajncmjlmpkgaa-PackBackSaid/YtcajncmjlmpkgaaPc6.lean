/- Operations that only read: what they give on abstract values, and that the model gives the same; Reckoning operations, lengths, slices of strings and lists, and all operations that only read, under one name: 'vop'; Parts of texts and lists, parts of tuples and structs, comparing structs; all reading operations under one name: 'vop'; Structs and lists that are built out of parts; all operations that only read, under one name: 'vop'; All operations that only read, under one name; append: the rows of cells behind lists; the three ways that append takes; how the relation goes on; append on the relation: a list that the function owns, or that is full, with elements behind it; append: the operation; Every operation, with what follows it: 'wop'; calls by contract; Lists written out; calls; every operation holds; regions in the order of the text; Regions in the order of the text, code, loops; functions by their bodies; contracts. Own work; no condition. -/
import Derived.Test.YtcajncmjlmpkgaaPcAbs2
namespace Go.Proofs.Ytcajncmjlmpkgaa
open Go Go.RowKit
def ldV (H : List AObj) (ti : TI) : AV → Option AV
 | .ref id off => match H[id]? with
   | some (.cells cs) => if ti.agg then (if off + ti.size ≤ cs.length then some (.agg ((cs.drop off).take ti.size)) else none) else cs[off]?
   | _ => none
 | .p (.ip cs) => if ti.agg then (if ti.size ≤ cs.length then some (.p (.agg (cs.take ti.size))) else none) else (cs[0]?).map .p
 | _ => none
theorem run_loadVar_agg {P : Program} {t : TypeId} {ti : TI} {i : TypeInfo} {d : TypeDesc} {z : Value} (k : TOk P t ti i d z) (w : World) (ha : ti.agg = true) (b o : Nat) (vs : List Value) (hl : vs.length = ti.size)
   (h : ∀ (j : Nat) v, vs[j]? = some v → w.cell? ⟨b, o + j, none⟩ = some v) : (loadVar t ⟨b, o, none⟩).run P w = .ok (.agg vs.toArray) w := by
 have hc := run_loadCells_list (P := P) w ⟨b, o, none⟩ vs (fun j v hv => by rw [Addr.add_lit]; exact h j v hv)
 rw [hl] at hc
 simp only [loadVar, Sem.run_bind, k.run_agg, Result.andThen_ok, ha, if_true, k.run_size, hc, Sem.run_pure]
theorem run_loadVar_one {P : Program} {t : TypeId} {ti : TI} {i : TypeInfo} {d : TypeDesc} {z : Value} (k : TOk P t ti i d z) (w : World) (ha : ti.agg = false) (a : Addr) (v : Value) (h : w.cell? a = some v) :
   (loadVar t a).run P w = .ok v w := by
 simp [loadVar, k.run_agg, ha, h]
theorem ldV_ok {P : Program} {t : TypeId} {ti : TI} (k : tinfo P t = some ti) {B : Base} {G : Ghost} {H : List AObj} {w : World} (wr : WR B G H w) {p x : AV} {pv : Value} (rp : RV G p pv)
   (h : ldV H ti p = some x) : ∃ v, (Instr.loadAt t pv).run P w = .ok v w ∧ RV G x v := by
 obtain ⟨i, d, z, k⟩ := tinfo_ok k
 unfold ldV at h
 split at h
 · rename_i id off
   split at h
   · rename_i cs hcs
     obtain ⟨b, arr, ty, h1, h2, h3, h4, h5⟩ := wr.objs id _ hcs
     cases rp with
     | @ref _ b' _ hb =>
       rw [h1] at hb; simp only [Option.some.injEq, GO.box.injEq] at hb; subst hb
       split at h
       · rename_i ha
         split at h
         · rename_i hle
           simp only [Option.some.injEq] at h; subst h
           have hlen : ((arr.toList.drop off).take ti.size).length = ti.size := by simp [h3]; omega
           refine ⟨.agg ((arr.toList.drop off).take ti.size).toArray, ?_, ?_⟩
           · simp only [Instr.loadAt, Instr.sureAddr, Sem.run_bind, Sem.run_pure, Result.andThen_ok]
             refine run_loadVar_agg k w ha b off _ hlen (fun j v hv => ?_)
             rw [cell_of_row w b (off + j) arr ty (0, 0) h2]
             rw [List.getElem?_take] at hv
             split at hv
             · simpa [List.getElem?_drop] using hv
             · cases hv
           · refine .agg (by simp [h3]) (fun j c v hc hv => ?_)
             rw [List.getElem?_take] at hc
             split at hc
             · rw [List.getElem?_drop] at hc
               refine h4 (off + j) c v hc ?_
               rename_i hj
               simpa [hj, List.getElem?_drop, List.getElem?_take] using hv
             · cases hc
         · cases h
       · rename_i ha
         have ha' : ti.agg = false := by simpa using ha
         have hlt : off < arr.size := by
           rcases Nat.lt_or_ge off cs.length with g | g
           · omega
           · simp [List.getElem?_eq_none g] at h
         refine ⟨arr[off], ?_, h4 off x _ h (by simp [hlt])⟩
         simp only [Instr.loadAt, Instr.sureAddr, Sem.run_bind, Sem.run_pure, Result.andThen_ok]
         exact run_loadVar_one k w ha' _ _ (by rw [cell_of_row w b off arr ty (0, 0) h2]; simp [hlt])
   · cases h
 · rename_i cs
   cases rp with
   | p hp =>
     cases hp with
     | ip _ b o vs hm hr =>
       split at h
       · rename_i ha
         split at h
         · rename_i hle
           simp only [Option.some.injEq] at h; subst h
           refine ⟨.agg ((List.range ti.size).map vs).toArray, ?_, .p (.agg _ _ (by simp; omega) (fun j c v hc hv => ?_))⟩
           · simp only [Instr.loadAt, Instr.sureAddr, Sem.run_bind, Sem.run_pure, Result.andThen_ok]
             refine run_loadVar_agg k w ha b o _ (by simp) (fun j v hv => ?_)
             rw [List.getElem?_map, Option.map_eq_some_iff] at hv
             obtain ⟨j', hj', rfl⟩ := hv
             rw [List.getElem?_eq_some_iff] at hj'
             obtain ⟨hlt, hj'⟩ := hj'
             simp at hlt hj'
             subst hj'
             exact wr.mem b (o + j) _ (hm j (by omega))
           · rw [List.getElem?_take] at hc
             split at hc
             · rename_i hj
               have : v = vs j := by simp [hj] at hv; exact hv.symm
               subst this
               exact hr j c hc
             · cases hc
         · cases h
       · rename_i ha
         have ha' : ti.agg = false := by simpa using ha
         rw [Option.map_eq_some_iff] at h
         obtain ⟨c, hc, rfl⟩ := h
         have hlt : 0 < cs.length := by
           rcases Nat.eq_zero_or_pos cs.length with g | g
           · simp [List.eq_nil_of_length_eq_zero g] at hc
           · exact g
         refine ⟨vs 0, ?_, .p (hr 0 c hc)⟩
         simp only [Instr.loadAt, Instr.sureAddr, Sem.run_bind, Sem.run_pure, Result.andThen_ok]
         exact run_loadVar_one k w ha' _ _ (wr.mem b (o + 0) _ (hm 0 hlt))
 · cases h
def faV (ti : TI) (f : Nat) : AV → Option AV
 | .ref id off => match ti.kind with
   | .fields l => match l[f]? with
     | some (o, s, _) => if s = 0 then none else some (.ref id (off + o))
     | none => none
   | _ => none
 | .p (.ip cs) => match ti.kind with
   | .fields l => match l[f]? with
     | some (o, s, _) => if s = 0 then none else some (.p (.ip (cs.drop o)))
     | none => none
   | _ => none
 | _ => none
theorem RP.ip_drop {m : Mem} {cs : List PV} {b o : Nat} (n : Nat) (h : RP m (.ip cs) (.pointer (some ⟨b, o, none⟩))) : RP m (.ip (cs.drop n)) (.pointer (some ⟨b, o + n, none⟩)) := by
 cases h with
 | ip _ _ _ vs hm hr =>
   refine .ip _ b (o + n) (fun i => vs (n + i)) (fun i hi => ?_) (fun i c hc => ?_)
   · have := hm (n + i) (by simp at hi; omega)
     rw [Nat.add_assoc]; exact this
   · rw [List.getElem?_drop] at hc; exact hr _ _ hc
theorem info_of_cells {P : Program} {t : TypeId} (h : P.cellsOf t ≠ 0) : ∃ i, P.info? t = some i := by
 unfold Program.cellsOf at h
 cases hi : P.info? t with
 | none => simp [hi] at h
 | some i => exact ⟨i, rfl⟩
theorem run_sizeOf' {P : Program} {t : TypeId} (h : P.cellsOf t ≠ 0) (w : World) : (sizeOf t).run P w = .ok (P.cellsOf t) w := by
 obtain ⟨i, hi⟩ := info_of_cells h
 exact run_sizeOf w hi
theorem faV_ok {P : Program} {t : TypeId} {ti : TI} (k : tinfo P t = some ti) {G : Ghost} (w : World) {f : Nat} {p x : AV} {pv : Value} (rp : RV G p pv)
   (h : faV ti f p = some x) : ∃ v, (Instr.fieldAt t pv f).run P w = .ok v w ∧ RV G x v := by
 obtain ⟨i, d, z, k⟩ := tinfo_ok k
 have key : ∀ l o s g, ti.kind = .fields l → l[f]? = some (o, s, g) → s ≠ 0 → ∀ b off, (Instr.fieldAt t (.pointer (some ⟨b, off, none⟩)) f).run P w = .ok (.pointer (some ⟨b, off + o, none⟩)) w := by
   intro l o s g hk hl hs b off
   have hd := k.kind
   rw [hk] at hd
   cases d <;> simp only [tkind, reduceCtorEq, TK.fields.injEq] at hd
   rename_i fs
   subst hd
   rw [List.getElem?_map, Option.map_eq_some_iff] at hl
   obtain ⟨fd, hfd, he⟩ := hl
   simp only [Prod.mk.injEq] at he
   obtain ⟨rfl, rfl, rfl⟩ := he
   have hfd' : fs[f]? = some fd := by simpa using hfd
   simp [Instr.fieldAt, Instr.sureAddr, fieldPlace, k.run_und, hfd', run_sizeOf' hs, hs, Addr.add_lit]
 unfold faV at h
 split at h
 · split at h
   · rename_i l hk
     split at h
     · rename_i o s g hl
       split at h
       · cases h
       · rename_i hs
         simp only [Option.some.injEq] at h; subst h
         cases rp with
         | ref off ho => exact ⟨_, key l o s g hk hl hs _ _, .ref _ ho⟩
     · cases h
   · cases h
 · split at h
   · rename_i l hk
     split at h
     · rename_i o s g hl
       split at h
       · cases h
       · rename_i hs
         simp only [Option.some.injEq] at h; subst h
         cases rp with
         | p hp =>
           have hp' := hp
           cases hp with
           | ip _ b off vs hm hr => exact ⟨_, key l o s g hk hl hs _ _, .p (hp'.ip_drop o)⟩
     · cases h
   · cases h
 · cases h
def elemsV : AV → Option (List (List PV))
 | .p (.sl es) => some es
 | .tok _ es => some es
 | .full es => some es
 | .rtok _ _ _ l => some l
 | .nils n => some (List.replicate n [.sl []])
 | _ => none
theorem RP.ofNils {m : Mem} {n : Nat} {v : Value} (h : ∃ b, v = .slice (some ⟨b, 0, none⟩) n n ∧ n ≤ maxLen ∧ ∀ i, i < n → m b i = some (.slice none 0 0)) : RP m (.sl (List.replicate n [.sl []])) v := by
 obtain ⟨b, rfl, hn, hm⟩ := h
 have key : ∀ (i : Nat) e, (List.replicate n [PV.sl []])[i]? = some e → i < n ∧ e = [.sl []] := fun i e he => by
   rw [List.getElem?_replicate] at he
   split at he <;> simp at he
   exact ⟨by assumption, he.symm⟩
 refine .sl _ 1 b 0 n n (fun _ _ => .slice none 0 0) (by simp) (Nat.le_refl _) hn (fun e he => by rw [(List.mem_replicate.1 he).2]; rfl) (fun i e j he hj => ?_) (fun i e j c he hc => ?_)
 · obtain ⟨h1, rfl⟩ := key i e he
   simp at hj; subst hj
   simpa using hm i h1
 · obtain ⟨h1, rfl⟩ := key i e he
   cases j with
   | zero => simp at hc; subst hc; exact .sl0 _ _ (Nat.zero_le _)
   | succ j => simp at hc
theorem elemsV_ok {G : Ghost} {x : AV} {v : Value} {es : List (List PV)} (r : RV G x v) (h : elemsV x = some es) : RP G.mem (.sl es) v := by
 unfold elemsV at h
 split at h
 · simp only [Option.some.injEq] at h; subst h; cases r with | p hp => exact hp
 · simp only [Option.some.injEq] at h; subst h; cases r with | tok hp => exact hp
 · simp only [Option.some.injEq] at h; subst h; cases r with | full hp => exact hp
 · simp only [Option.some.injEq] at h; subst h; cases r with | rtok hp => exact hp
 · simp only [Option.some.injEq] at h; subst h; cases r with | nils hn => exact RP.ofNils hn
 · cases h
def iaV (ti : TI) (x : AV) (i : AV) : Option AV :=
 match ti.kind, i with
 | .slice _ es _, .p (.int _ n) => match x with
   | .ms id len => if 0 ≤ n ∧ n < len ∧ es ≠ 0 then some (.ref id (n.toNat * es)) else none
   | x => match elemsV x with
     | some l => match l[n.toNat]? with
       | some e => if 0 ≤ n ∧ e.length = es ∧ es ≠ 0 then some (.p (.ip e)) else none
       | none => none
     | none => none
 | .array len es _, .p (.int _ n) => match x with
   | .ref id off => if 0 ≤ n ∧ n < len ∧ es ≠ 0 then some (.ref id (off + n.toNat * es)) else none
   | .p (.ip cs) => if 0 ≤ n ∧ n < len ∧ es ≠ 0 then some (.p (.ip (cs.drop (n.toNat * es)))) else none
   | _ => none
 | _, _ => none
theorem RP.elem {m : Mem} {es : List (List PV)} {v : Value} (h : RP m (.sl es) v) {i : Nat} {e : List PV} (hi : es[i]? = some e) :
   ∃ b o len cap, v = .slice (some ⟨b, o, none⟩) len cap ∧ i < len ∧ len = es.length ∧ RP m (.ip e) (.pointer (some ⟨b, o + i * e.length, none⟩)) := by
 cases h with
 | sl0 => simp at hi
 | sl _ size b o len cap vs hlen hcap hmax hsz hm hr =>
   have hlt : i < es.length := (List.getElem?_eq_some_iff.1 hi).1
   have hs : e.length = size := hsz e (List.mem_of_getElem? hi)
   refine ⟨b, o, len, cap, rfl, by omega, hlen.symm, ?_⟩
   refine .ip e b _ (fun j => vs i j) (fun j hj => ?_) (fun j c hc => hr i e j c hi hc)
   rw [hs]; exact hm i e j hi hj
theorem iaV_ok {P : Program} {t : TypeId} {ti : TI} (k : tinfo P t = some ti) {G : Ghost} (w : World) {p i x : AV} {pv iv : Value} (rp : RV G p pv) (ri : RV G i iv)
   (h : iaV ti p i = some x) : ∃ v, (Instr.indexAt t pv iv).run P w = .ok v w ∧ RV G x v := by
 obtain ⟨i, d, z, k⟩ := tinfo_ok k
 unfold iaV at h
 split at h
 · rename_i e es eb ik n hk
   cases ri with
   | p hri =>
   cases hri
   have hd := k.kind
   rw [hk] at hd
   cases d <;> simp only [tkind, reduceCtorEq, TK.slice.injEq] at hd
   obtain ⟨rfl, rfl, _⟩ := hd
   have und := k.run_und w
   split at h
   · rename_i id len
     split at h
     · rename_i hc
       simp only [Option.some.injEq] at h; subst h
       cases rp with
       | ms ho hn =>
         refine ⟨_, ?_, .ref _ ho⟩
         simp [Instr.indexAt, asIntOf, und, hc.1, hc.2.1, run_sizeOf' hc.2.2, Addr.add_lit]
     · cases h
   · split at h
     · rename_i l hl
       split at h
       · rename_i e' he
         split at h
         · rename_i hc
           simp only [Option.some.injEq] at h; subst h
           obtain ⟨b, o, len, cap, rfl, hlt, hle, hr⟩ := (elemsV_ok rp hl).elem he
           have hlt' : n < (len : Int) := by omega
           refine ⟨_, ?_, .p hr⟩
           simp [Instr.indexAt, asIntOf, und, hc.1, hlt', run_sizeOf' hc.2.2, Addr.add_lit, hc.2.1]
         · cases h
       · cases h
     · cases h
 · rename_i len es ag ik n hk
   cases ri with
   | p hri =>
   cases hri
   have hd := k.kind
   rw [hk] at hd
   cases d <;> simp only [tkind, reduceCtorEq, TK.array.injEq] at hd
   obtain ⟨rfl, rfl, _⟩ := hd
   have und := k.run_und w
   split at h
   · split at h
     · rename_i hc
       simp only [Option.some.injEq] at h; subst h
       cases rp with
       | ref off ho =>
         refine ⟨_, ?_, .ref _ ho⟩
         simp [Instr.indexAt, Instr.sureAddr, asIntOf, und, hc.1, hc.2.1, run_sizeOf' hc.2.2, Addr.add_lit]
     · cases h
   · split at h
     · rename_i hc
       simp only [Option.some.injEq] at h; subst h
       cases rp with
       | p hp =>
         have hp' := hp
         cases hp with
         | ip _ b off vs hm hr =>
           refine ⟨_, ?_, .p (hp'.ip_drop _)⟩
           simp [Instr.indexAt, Instr.sureAddr, asIntOf, und, hc.1, hc.2.1, run_sizeOf' hc.2.2, Addr.add_lit]
     · cases h
   · cases h
 · cases h
end Go.Proofs.Ytcajncmjlmpkgaa

namespace Go.Proofs.Ytcajncmjlmpkgaa
open Go Go.RowKit
def sbeq (a b : ByteArray) : Bool := a.toList == b.toList
def sless (a b : ByteArray) : Bool := Op.bytesLess a.toList b.toList
def maxI : Int := IntKind.i64.max
theorem run_equal_bool {P : Program} {t : TypeId} (h : P.underlying t = some .bool) (w : World) (a b : Bool) : (Op.equal t (.bool a) (.bool b)).run P w = .ok (a == b) w := by
 have e : Op.maxDepth = 9999 + 1 := rfl
 rw [Op.equal, e, Op.equalIn]
 simp [run_underlying h]
theorem bopB {P : Program} {t : TypeId} (hu : P.underlying t = some .bool) (w : World) {xo yo : Operand} (a b : Bool) :
   (do eqGuard .eql t xo yo (.bool a) (.bool b); binOp .eql t (.bool a) (.bool b)).run P w = .ok (.bool (a == b)) w ∧
   (do eqGuard .neq t xo yo (.bool a) (.bool b); binOp .neq t (.bool a) (.bool b)).run P w = .ok (.bool (!(a == b))) w := by
 have h1 : ∀ op, (eqGuard op t xo yo (.bool a) (.bool b)).run P w = .ok () w := by intro op; cases op <;> simp [eqGuard]
 constructor
 · simp only [Sem.run_bind, h1, Result.andThen_ok]
   show (do pure (Value.bool (← Op.equal t (.bool a) (.bool b)))).run P w = _
   simp only [Sem.run_bind, run_equal_bool hu, Result.andThen_ok, Sem.run_pure]
 · simp only [Sem.run_bind, h1, Result.andThen_ok]
   show (do pure (Value.bool (!(← Op.equal t (.bool a) (.bool b))))).run P w = _
   simp only [Sem.run_bind, run_equal_bool hu, Result.andThen_ok, Sem.run_pure]
def bopI (op : BinOp) (k : IntKind) (a b : Int) : Option PV :=
 match op with
 | .shl => if b < 0 then none else some (.int k (k.wrap (a * 2 ^ (min b.toNat k.bits))))
 | .shr => if b < 0 then none else some (.int k (a.fdiv (2 ^ (min b.toNat k.bits))))
 | .add => some (.int k (k.wrap (a + b)))
 | .sub => some (.int k (k.wrap (a - b)))
 | .mul => some (.int k (k.wrap (a * b)))
 | .quo => if b = 0 then none else some (.int k (k.wrap (a.tdiv b)))
 | .rem => if b = 0 then none else some (.int k (a.tmod b))
 | .and => some (.int k (k.wrap (BitVec.ofInt k.bits a &&& BitVec.ofInt k.bits b).toNat))
 | .or => some (.int k (k.wrap (BitVec.ofInt k.bits a ||| BitVec.ofInt k.bits b).toNat))
 | .xor => some (.int k (k.wrap (BitVec.ofInt k.bits a ^^^ BitVec.ofInt k.bits b).toNat))
 | .andNot => some (.int k (k.wrap (BitVec.ofInt k.bits a &&& ~~~BitVec.ofInt k.bits b).toNat))
 | .eql => some (.bool (decide (a = b)))
 | .neq => some (.bool (!decide (a = b)))
 | .lss => some (.bool (decide (a < b)))
 | .leq => some (.bool (decide (a ≤ b)))
 | .gtr => some (.bool (decide (b < a)))
 | .geq => some (.bool (decide (b ≤ a)))
theorem bopI_ok {P : Program} {t : TypeId} {m : Mem} (w : World) {op : BinOp} {k k' : IntKind} (hk : k = k' ∨ op = .shl ∨ op = .shr) {a b : Int} {r : PV} (h : bopI op k a b = some r) :
   ∃ v, (binOp op t (.int k a) (.int k' b)).run P w = .ok v w ∧ RP m r v := by
 cases op <;> simp only [bopI] at h
 case shl => split at h <;> simp only [reduceCtorEq, Option.some.injEq] at h; rename_i hb; subst h; exact ⟨_, by simp only [binOp, Op.shift, hb, if_false]; rfl, .int _ _⟩
 case shr => split at h <;> simp only [reduceCtorEq, Option.some.injEq] at h; rename_i hb; subst h; exact ⟨_, by simp only [binOp, Op.shift, hb, if_false]; rfl, .int _ _⟩
 all_goals (have hk' : k = k' := by simpa using hk)
 all_goals subst hk'
 case quo => split at h <;> simp only [reduceCtorEq, Option.some.injEq] at h; rename_i hb; subst h; exact ⟨_, by simp only [binOp, ne_eq, not_true, if_false, Op.intDiv, hb]; rfl, .int _ _⟩
 case rem => split at h <;> simp only [reduceCtorEq, Option.some.injEq] at h; rename_i hb; subst h; exact ⟨_, by simp only [binOp, ne_eq, not_true, if_false, Op.intDiv, hb]; rfl, .int _ _⟩
 all_goals simp only [Option.some.injEq] at h
 all_goals subst h
 case eql => exact ⟨_, by simp only [binOp, ne_eq, not_true, if_false, Op.intCmp]; rfl, by rw [show (a == b) = decide (a = b) from rfl]; exact .bool _⟩
 case neq => exact ⟨_, by simp only [binOp, ne_eq, not_true, if_false, Op.intCmp]; rfl, by rw [show (a != b) = !decide (a = b) from rfl]; exact .bool _⟩
 case gtr => exact ⟨_, by simp only [binOp, ne_eq, not_true, if_false, Op.intCmp]; rfl, by rw [show (decide (a > b)) = decide (b < a) from rfl]; exact .bool _⟩
 case geq => exact ⟨_, by simp only [binOp, ne_eq, not_true, if_false, Op.intCmp]; rfl, by rw [show (decide (a ≥ b)) = decide (b ≤ a) from rfl]; exact .bool _⟩
 case lss => exact ⟨_, by simp only [binOp, ne_eq, not_true, if_false, Op.intCmp]; rfl, .bool _⟩
 case leq => exact ⟨_, by simp only [binOp, ne_eq, not_true, if_false, Op.intCmp]; rfl, .bool _⟩
 case add => exact ⟨_, by simp only [binOp, ne_eq, not_true, if_false, Op.intArith]; rfl, .int _ _⟩
 case sub => exact ⟨_, by simp only [binOp, ne_eq, not_true, if_false, Op.intArith]; rfl, .int _ _⟩
 case mul => exact ⟨_, by simp only [binOp, ne_eq, not_true, if_false, Op.intArith]; rfl, .int _ _⟩
 all_goals exact ⟨_, by simp only [binOp, ne_eq, not_true, if_false, Op.intBits]; rfl, .int _ _⟩
def bopS (op : BinOp) (a b : ByteArray) : Option PV :=
 match op with
 | .add => if maxI < ((a.size + b.size : Nat) : Int) then none else some (.str (a ++ b))
 | .eql => some (.bool (sbeq a b))
 | .neq => some (.bool (!sbeq a b))
 | .lss => some (.bool (sless a b))
 | .leq => some (.bool (sless a b || sbeq a b))
 | .gtr => some (.bool (!(sless a b || sbeq a b)))
 | .geq => some (.bool (!sless a b))
 | _ => none
theorem bopS_ok {P : Program} {t : TypeId} {m : Mem} (w : World) {op : BinOp} {a b : ByteArray} {r : PV} (h : bopS op a b = some r) :
   ∃ v, (binOp op t (.string a) (.string b)).run P w = .ok v w ∧ RP m r v := by
 cases op <;> simp only [bopS, reduceCtorEq] at h
 case add =>
   split at h <;> simp only [reduceCtorEq, Option.some.injEq] at h
   rename_i hb; subst h
   refine ⟨.string (a ++ b), ?_, .str _⟩
   simp only [maxI] at hb
   show (Op.stringOp .add a b).run P w = _
   simp only [Op.stringOp, gt_iff_lt, hb, if_false, Sem.run_pure]
 all_goals simp only [Option.some.injEq] at h
 all_goals subst h
 all_goals exact ⟨_, rfl, .bool _⟩
def bopV (tk : TK) (op : BinOp) : PV → PV → Option PV
 | .int k a, .int k' b => if k = k' ∨ op = .shl ∨ op = .shr then bopI op k a b else none
 | .str a, .str b => bopS op a b
 | .bool a, .bool b => match tk, op with
   | .bool, .eql => some (.bool (a == b))
   | .bool, .neq => some (.bool (!(a == b)))
   | _, _ => none
 | _, _ => none
theorem bopV_ok {P : Program} {t : TypeId} {ti : TI} (k : tinfo P t = some ti) {m : Mem} (w : World) {op : BinOp} {xo yo : Operand} {x y r : PV} {xv yv : Value} (rx : RP m x xv) (ry : RP m y yv)
   (h : bopV ti.kind op x y = some r) : ∃ v, (do eqGuard op t xo yo xv yv; binOp op t xv yv).run P w = .ok v w ∧ RP m r v := by
 obtain ⟨i, d, z, k⟩ := tinfo_ok k
 cases rx <;> cases ry <;> simp only [bopV, reduceCtorEq] at h
 case bool.bool a b =>
   have hd := k.kind
   split at h <;> simp only [reduceCtorEq, Option.some.injEq] at h
   all_goals
     rename_i hk
     subst h
     rw [hk] at hd
     cases d <;> simp only [tkind, reduceCtorEq] at hd
   · exact ⟨_, (bopB k.und w a b).1, .bool _⟩
   · exact ⟨_, (bopB k.und w a b).2, .bool _⟩
 case int.int k1 a k2 b =>
   have hg : (eqGuard op t xo yo (.int k1 a) (.int k2 b)).run P w = .ok () w := by
     cases op <;> simp [eqGuard]
   simp only [Sem.run_bind, hg, Result.andThen_ok]
   split at h
   · rename_i hk; exact bopI_ok w hk h
   · cases h
 case str.str a b =>
   have hg : (eqGuard op t xo yo (.string a) (.string b)).run P w = .ok () w := by
     cases op <;> simp [eqGuard]
   simp only [Sem.run_bind, hg, Result.andThen_ok]
   exact bopS_ok w h
def lenV (tk : TK) : AV → Option AV
 | .p (.str s) => match tk with | .str => some (.p (.int .i64 s.size)) | _ => none
 | .ms _ n => match tk with | .slice _ _ _ => some (.p (.int .i64 n)) | _ => none
 | .vec _ _ _ _ n => match tk with | .slice _ _ _ => some (.p (.int .i64 n)) | _ => none
 | .rvec _ _ n => match tk with | .slice _ _ _ => some (.p (.int .i64 n)) | _ => none
 | x => match tk, elemsV x with
   | .slice _ _ _, some l => some (.p (.int .i64 l.length))
   | _, _ => none
theorem RP.slice_len {m : Mem} {es : List (List PV)} {v : Value} (h : RP m (.sl es) v) : ∃ a cap, v = .slice a es.length cap := by
 cases h with
 | sl0 a cap => exact ⟨a, cap, rfl⟩
 | sl _ size b o len cap vs hlen => subst hlen; exact ⟨_, cap, rfl⟩
theorem lenV_ok {P : Program} {t ty : TypeId} {ti : TI} (k : tinfo P t = some ti) {G : Ghost} (w : World) {p x : AV} {pv : Value} (rp : RV G p pv)
   (h : lenV ti.kind p = some x) : ∃ v, (Builtin.len_ #[t] ty #[pv]).run P w = .ok v w ∧ RV G x v := by
 obtain ⟨i, d, z, k⟩ := tinfo_ok k
 have hd := k.kind
 unfold lenV at h
 split at h
 · split at h <;> simp only [reduceCtorEq, Option.some.injEq] at h
   rename_i hk; subst h
   rw [hk] at hd
   cases d <;> simp only [tkind, reduceCtorEq] at hd
   cases rp with | p hp => cases hp; exact ⟨_, by simp [Builtin.len_, k.run_und w]; rfl, .p (.int _ _)⟩
 · split at h <;> simp only [reduceCtorEq, Option.some.injEq] at h
   rename_i hk; subst h
   rw [hk] at hd
   cases d <;> simp only [tkind, reduceCtorEq] at hd
   cases rp with | ms ho hn hc => exact ⟨_, by simp [Builtin.len_, k.run_und w]; rfl, .p (.int _ _)⟩
 · split at h <;> simp only [reduceCtorEq, Option.some.injEq] at h
   rename_i hk; subst h
   rw [hk] at hd
   cases d <;> simp only [tkind, reduceCtorEq] at hd
   cases rp with | vec ho hg hs hv => obtain ⟨a, q, rfl, _⟩ := hs; exact ⟨_, by simp [Builtin.len_, k.run_und w]; rfl, .p (.int _ _)⟩
 · split at h <;> simp only [reduceCtorEq, Option.some.injEq] at h
   rename_i hk; subst h
   rw [hk] at hd
   cases d <;> simp only [tkind, reduceCtorEq] at hd
   cases rp with | rvec ho hg hs hv => obtain ⟨a, q, rfl⟩ := hs; exact ⟨_, by simp [Builtin.len_, k.run_und w]; rfl, .p (.int _ _)⟩
 · split at h <;> simp only [reduceCtorEq, Option.some.injEq] at h
   rename_i l hk hl; subst h
   rw [hk] at hd
   cases d <;> simp only [tkind, reduceCtorEq] at hd
   obtain ⟨a, cap, rfl⟩ := (elemsV_ok rp hl).slice_len
   exact ⟨_, by simp [Builtin.len_, k.run_und w]; rfl, .p (.int _ _)⟩
def ixV (ti : TI) : AV → AV → Option AV
 | .p (.str s), .p (.int _ n) => match ti.kind with
   | .str => if 0 ≤ n then (match s[n.toNat]? with | some b => some (.p (.int .u8 b.toNat)) | none => none) else none
   | _ => none
 | .agg cs, .p (.int _ n) => match ti.kind with
   | .array len es false => if 0 ≤ n ∧ n < len ∧ es = 1 then cs[n.toNat]? else none
   | _ => none
 | _, _ => none
theorem run_isAggB {P : Program} {t : TypeId} (h : isAggB P t = false) (w : World) : (isAgg t).run P w = .ok false w := by
 unfold isAggB at h
 cases hu : P.underlying t with
 | none => rw [hu] at h; cases h
 | some d =>
   rw [hu] at h
   simp only [isAgg, Sem.run_bind, run_underlying hu, Result.andThen_ok]
   cases d <;> first | rfl | cases h
theorem ixV_ok {P : Program} {t : TypeId} {ti : TI} (k : tinfo P t = some ti) {G : Ghost} (w : World) {p i x : AV} {pv iv : Value} (rp : RV G p pv) (ri : RV G i iv)
   (h : ixV ti p i = some x) : ∃ v, (Instr.index t pv iv).run P w = .ok v w ∧ RV G x v := by
 obtain ⟨i, d, z, k⟩ := tinfo_ok k
 have hd := k.kind
 unfold ixV at h
 split at h
 · rename_i s ik n
   split at h <;> try (cases h; done)
   rename_i hk
   rw [hk] at hd
   cases d <;> simp only [tkind, reduceCtorEq] at hd
   split at h <;> try (cases h; done)
   rename_i hn
   split at h <;> simp only [reduceCtorEq, Option.some.injEq] at h
   rename_i c hc; subst h
   cases rp with
   | p hp =>
   cases hp
   cases ri with
   | p hi =>
   cases hi
   refine ⟨_, ?_, .p (.int _ _)⟩
   simp [Instr.index, asIntOf, k.run_und w, hn, hc]
 · rename_i cs ik n
   split at h <;> try (cases h; done)
   rename_i len es hk
   rw [hk] at hd
   cases d <;> simp only [tkind, reduceCtorEq, TK.array.injEq] at hd
   obtain ⟨rfl, rfl, hag⟩ := hd
   split at h <;> try (cases h; done)
   rename_i hc
   cases rp with
   | @agg _ vs hl hr =>
   cases ri with
   | p hi =>
   cases hi
   have hlt := (List.getElem?_eq_some_iff.1 h).1
   refine ⟨vs[n.toNat]'(by omega), ?_, hr _ _ _ h (Array.getElem?_eq_getElem (by omega))⟩
   simp [Instr.index, asIntOf, k.run_und w, hc.1, hc.2.1, part, run_isAggB hag, run_sizeOf' (show P.cellsOf _ ≠ 0 by rw [hc.2.2]; decide), hc.2.2, Array.getElem?_eq_getElem (show n.toNat < vs.size by omega)]
 · cases h
end Go.Proofs.Ytcajncmjlmpkgaa

namespace Go.Proofs.Ytcajncmjlmpkgaa
open Go Go.RowKit
def intO : Option AV → Option (Option Int)
 | none => some none
 | some (.p (.int _ n)) => some (some n)
 | _ => none
def slV (ti : TI) (x : AV) (lo hi : Option Int) : Option AV :=
 match ti.kind with
 | .str => match x with
   | .p (.str s) => if 0 ≤ lo.getD 0 ∧ lo.getD 0 ≤ hi.getD s.size ∧ hi.getD s.size ≤ s.size then some (.p (.str (s.extract (lo.getD 0).toNat (hi.getD s.size).toNat))) else none
   | _ => none
 | .slice _ es _ => match elemsV x with
   | some l => if 0 ≤ lo.getD 0 ∧ lo.getD 0 ≤ hi.getD l.length ∧ hi.getD l.length ≤ l.length ∧ l.all (fun e => e.length == es) ∧ es ≠ 0 then
       some (.p (.sl ((l.drop (lo.getD 0).toNat).take ((hi.getD l.length).toNat - (lo.getD 0).toNat)))) else none
   | none => none
 | _ => none
theorem RP.sub {m : Mem} {l : List (List PV)} {a : Option Addr} {len cap es lo hi : Nat} (h : RP m (.sl l) (.slice a len cap)) (hes : ∀ e, e ∈ l → e.length = es) (h1 : lo ≤ hi) (h2 : hi ≤ l.length) :
   len = l.length ∧ len ≤ cap ∧ RP m (.sl ((l.drop lo).take (hi - lo))) (.slice (if cap = lo then a else a.map (·.add (lo * es))) (hi - lo) (cap - lo)) := by
 cases h with
 | sl0 a cap hc =>
   simp at h2
   have h3 : hi = 0 := by omega
   subst h3
   have h4 : lo = 0 := by omega
   subst h4
   exact ⟨rfl, by omega, by simpa using RP.sl0 _ _ (by omega)⟩
 | sl _ size b o len cap vs hlen hcap hmax hsz hm hr =>
   refine ⟨hlen.symm, hcap, ?_⟩
   by_cases hz : hi - lo = 0
   · rw [hz]; simpa using RP.sl0 _ _ (by omega)
   · have hne : ¬ cap = lo := by omega
     rw [if_neg hne]
     simp only [Option.map_some, Addr.add_lit]
     have hsize : size = es := by
       have hlt : lo < l.length := by omega
       rw [← hsz _ (List.getElem_mem hlt), hes _ (List.getElem_mem hlt)]
     subst hsize
     refine .sl _ size b (o + lo * size) (hi - lo) (cap - lo) (fun i j => vs (lo + i) j) (by simp; omega) (by omega) (by omega) (fun e he => hsz e (List.mem_of_mem_drop (List.mem_of_mem_take he))) (fun i e j hi' hj => ?_) (fun i e j c hi' hc => ?_)
     · rw [List.getElem?_take] at hi'
       split at hi'
       · rw [List.getElem?_drop] at hi'
         have := hm (lo + i) e j hi' hj
         rw [← this, Nat.add_mul]; congr 1; omega
       · cases hi'
     · rw [List.getElem?_take] at hi'
       split at hi'
       · rw [List.getElem?_drop] at hi'
         exact hr (lo + i) e j c hi' hc
       · cases hi'
theorem slV_ok {P : Program} {t : TypeId} {ti : TI} (k : tinfo P t = some ti) {G : Ghost} (w : World) {x y : AV} {xv : Value} {lo hi : Option Int} {lov hiv : Option Value} (rx : RV G x xv)
   (hlo : ∀ v, lov = some v → ∃ q n, v = .int q n ∧ lo = some n) (hlo' : lov = none → lo = none) (hhi : ∀ v, hiv = some v → ∃ q n, v = .int q n ∧ hi = some n) (hhi' : hiv = none → hi = none)
   (h : slV ti x lo hi = some y) : ∃ v, (Instr.sliceAt t xv lov hiv none).run P w = .ok v w ∧ RV G y v := by
 obtain ⟨i, d, z, k⟩ := tinfo_ok k
 have hd := k.kind
 have bound : ∀ (q : IntKind) (n : Int) (y : Nat) (code : BoundsCode), 0 ≤ n → n ≤ y → (Instr.sliceBound (.int q n) y code).run P w = .ok n.toNat w := by
   intro q n y code h1 h2
   simp [Instr.sliceBound, asIntOf, h1, h2]
 have bounds : ∀ (isS : Bool) (len cap : Nat), len ≤ cap → 0 ≤ lo.getD 0 → lo.getD 0 ≤ hi.getD len → hi.getD len ≤ len → (Instr.sliceBounds isS len cap lov hiv none).run P w = .ok ((lo.getD 0).toNat, (hi.getD len).toNat, cap) w := by
   intro isS len cap hc h1 h2 h3
   cases hiv with
   | none =>
     have e := hhi' rfl
     subst e
     cases lov with
     | none =>
       have e := hlo' rfl
       subst e
       simp [Instr.sliceBounds]
     | some v =>
       obtain ⟨q, n, rfl, rfl⟩ := hlo v rfl
       simp only [Option.getD_some, Option.getD_none] at h1 h2 h3
       simp [Instr.sliceBounds, bound q n len _ h1 h2]
   | some u =>
     obtain ⟨q', n', rfl, rfl⟩ := hhi u rfl
     simp only [Option.getD_some] at h2 h3
     cases lov with
     | none =>
       have e := hlo' rfl
       subst e
       simp only [Option.getD_none] at h1 h2
       simp [Instr.sliceBounds, bound q' n' cap _ h2 (by omega)]
     | some v =>
       obtain ⟨q, n, rfl, rfl⟩ := hlo v rfl
       simp only [Option.getD_some] at h1 h2
       simp [Instr.sliceBounds, bound q' n' cap _ (by omega) (by omega), bound q n n'.toNat _ h1 (by omega)]
 unfold slV at h
 split at h
 · rename_i hk
   rw [hk] at hd
   cases d <;> simp only [tkind, reduceCtorEq] at hd
   split at h <;> try (cases h; done)
   rename_i s
   split at h <;> try (cases h; done)
   rename_i hc
   simp only [Option.some.injEq] at h; subst h
   cases rx with
   | p hp =>
   cases hp
   refine ⟨_, ?_, .p (.str _)⟩
   simp only [Instr.sliceAt, Instr.slice, Sem.run_bind, k.run_und w, Result.andThen_ok, bounds false s.size s.size (Nat.le_refl _) hc.1 hc.2.1 hc.2.2, Option.isSome, Bool.false_eq_true, if_false, Sem.run_pure]
 · rename_i e es eb hk
   rw [hk] at hd
   cases d <;> simp only [tkind, reduceCtorEq, TK.slice.injEq] at hd
   obtain ⟨rfl, rfl, _⟩ := hd
   split at h <;> try (cases h; done)
   rename_i l hl
   split at h <;> try (cases h; done)
   rename_i hc
   simp only [Option.some.injEq] at h; subst h
   have rp := elemsV_ok rx hl
   obtain ⟨a, cap, rfl⟩ := rp.slice_len
   have hes : ∀ x, x ∈ l → x.length = P.cellsOf _ := fun x hx => by simpa using List.all_eq_true.1 hc.2.2.2.1 x hx
   obtain ⟨_, hcap, r⟩ := rp.sub (lo := (lo.getD 0).toNat) (hi := (hi.getD l.length).toNat) hes (by omega) (by omega)
   refine ⟨_, ?_, .p r⟩
   simp only [Instr.sliceAt, Instr.slice, Sem.run_bind, k.run_und w, Result.andThen_ok, bounds true l.length cap hcap hc.1 hc.2.1 hc.2.2.1, run_sizeOf' hc.2.2.2.2, Sem.run_pure]
 · cases h
def eqC : List (Nat × TK) → List PV → List PV → Option Bool
 | [], _, _ => some true
 | (o, tk) :: r, xs, ys => match tk, xs[o]?, ys[o]? with
   | .num _, some (.int k a), some (.int k' b) => if k = k' then (eqC r xs ys).map (decide (a = b) && ·) else none
   | .str, some (.str a), some (.str b) => (eqC r xs ys).map (sbeq a b && ·)
   | .bool, some (.bool a), some (.bool b) => (eqC r xs ys).map ((a == b) && ·)
   | _, _, _ => none
def isAg : TypeDesc → Bool
 | .struct _ | .array _ _ => true
 | _ => false
theorem run_part_one {P : Program} {t : TypeId} {d : TypeDesc} (h : P.underlying t = some d) (ha : isAg d = false) (w : World) (cs : Array Value) (o : Nat) (v : Value) (hv : cs[o]? = some v) :
   (part t cs o).run P w = .ok v w := by
 have : (isAgg t).run P w = .ok false w := by
   simp only [isAgg, Sem.run_bind, run_underlying h, Result.andThen_ok]
   cases d <;> first | rfl | simp [isAg] at ha
 simp only [part, Sem.run_bind, this, Result.andThen_ok, Bool.false_eq_true, if_false, hv, Sem.run_pure]
theorem RP.cell {m : Mem} {cs : List PV} {vs : Array Value} (h : RP m (.agg cs) (.agg vs)) {i : Nat} {c : PV} (hc : cs[i]? = some c) : ∃ v, vs[i]? = some v ∧ RP m c v := by
 cases h with
 | agg _ _ hl hr =>
   have hlt : i < cs.length := (List.getElem?_eq_some_iff.1 hc).1
   have : i < vs.size := by omega
   exact ⟨vs[i], by simp [this], hr i c _ hc (by simp [this])⟩
theorem eqC_ok {P : Program} {m : Mem} (w : World) (dp : Nat) {xs ys : List PV} {xv yv : Array Value} (rx : RP m (.agg xs) (.agg xv)) (ry : RP m (.agg ys) (.agg yv)) :
   ∀ (fs : List Field) (l : List (Nat × TK)) (b : Bool), fs.mapM (eqKind P) = some l → eqC l xs ys = some b → (Op.eqFields (dp + 1) xv yv fs).run P w = .ok b w := by
 intro fs
 induction fs with
 | nil =>
   intro l b hl h
   simp at hl; subst hl
   simp only [eqC, Option.some.injEq] at h; subst h
   simp [Op.eqFields]
 | cons f fs ih =>
   intro l b hl h
   simp only [List.mapM_cons, Option.pure_def, Option.bind_eq_bind, Option.bind_eq_some_iff, Option.some.injEq] at hl
   obtain ⟨x, hx, l', hl', rfl⟩ := hl
   unfold eqKind at hx
   split at hx
   · cases hx
   rename_i hname
   have step : ∀ (v u : Value) (r : Bool) (dd : TypeDesc), P.underlying f.type = some dd → isAg dd = false → xv[f.offset]? = some v → yv[f.offset]? = some u →
       (Op.equalIn (dp + 1) f.type v u).run P w = .ok r w → (∀ b', eqC l' xs ys = some b' → (r && b') = b) → (∃ b', eqC l' xs ys = some b') → (Op.eqFields (dp + 1) xv yv (f :: fs)).run P w = .ok b w := by
     intro v u r dd hu ha hv hu' hr hb hex
     obtain ⟨b', hb'⟩ := hex
     have hbb := hb b' hb'
     simp only [Op.eqFields, ne_eq, hname, not_false_eq_true, if_true, Sem.run_bind, run_part_one hu ha w xv _ v hv, run_part_one hu ha w yv _ u hu', Result.andThen_ok, hr]
     cases r
     · simp at hbb; subst hbb; simp
     · simp at hbb; subst hbb; simpa using ih l' b' hl' hb'
   split at hx
   · rename_i kk hu
     simp only [Option.some.injEq] at hx; subst hx
     simp only [eqC] at h
     split at h <;> try (cases h; done)
     · rename_i k1 a k2 c _ ha hc
       split at h <;> try (cases h; done)
       rename_i hk; subst hk
       rw [Option.map_eq_some_iff] at h
       obtain ⟨b', hb', rfl⟩ := h
       obtain ⟨v, hv, rv⟩ := rx.cell ha
       obtain ⟨u, hu', ru⟩ := ry.cell hc
       cases rv; cases ru
       exact step _ _ _ _ hu rfl hv hu' (run_equalIn_int w dp f.type k1 kk a c hu) (fun b1 h1 => by rw [hb'] at h1; simp at h1; subst h1; rfl) ⟨b', hb'⟩
     · rename_i he _ _; cases he
     · rename_i he _ _; cases he
   · rename_i hu
     simp only [Option.some.injEq] at hx; subst hx
     simp only [eqC] at h
     split at h <;> try (cases h; done)
     · rename_i he _ _; cases he
     · rename_i a c _ ha hc
       rw [Option.map_eq_some_iff] at h
       obtain ⟨b', hb', rfl⟩ := h
       obtain ⟨v, hv, rv⟩ := rx.cell ha
       obtain ⟨u, hu', ru⟩ := ry.cell hc
       cases rv; cases ru
       exact step _ _ _ _ hu rfl hv hu' (run_equalIn_string w dp f.type a c hu) (fun b1 h1 => by rw [hb'] at h1; simp at h1; subst h1; rfl) ⟨b', hb'⟩
     · rename_i he _ _; cases he
   · rename_i hu
     simp only [Option.some.injEq] at hx; subst hx
     simp only [eqC] at h
     split at h <;> try (cases h; done)
     · rename_i he _ _; cases he
     · rename_i he _ _; cases he
     · rename_i a c _ ha hc
       rw [Option.map_eq_some_iff] at h
       obtain ⟨b', hb', rfl⟩ := h
       obtain ⟨v, hv, rv⟩ := rx.cell ha
       obtain ⟨u, hu', ru⟩ := ry.cell hc
       cases rv; cases ru
       exact step _ _ _ _ hu rfl hv hu' (run_equalIn_bool' w dp f.type a c hu) (fun b1 h1 => by rw [hb'] at h1; simp at h1; subst h1; rfl) ⟨b', hb'⟩
   · cases hx
def eqA (ti : TI) (op : BinOp) (xs ys : List PV) : Option PV :=
 match ti.eqs with
 | some l => match eqC l xs ys with
   | some b => match op with
     | .eql => some (.bool b)
     | .neq => some (.bool (!b))
     | _ => none
   | none => none
 | none => none
theorem eqA_ok {P : Program} {t : TypeId} {ti : TI} (k : tinfo P t = some ti) {m : Mem} (w : World) {op : BinOp} {xo yo : Operand} {xs ys : List PV} {xv yv : Array Value} {r : PV}
   (rx : RP m (.agg xs) (.agg xv)) (ry : RP m (.agg ys) (.agg yv)) (h : eqA ti op xs ys = some r) : ∃ v, (do eqGuard op t xo yo (.agg xv) (.agg yv); binOp op t (.agg xv) (.agg yv)).run P w = .ok v w ∧ RP m r v := by
 obtain ⟨i, d, z, k⟩ := tinfo_ok k
 unfold eqA at h
 split at h <;> try (cases h; done)
 rename_i l hl
 split at h <;> try (cases h; done)
 rename_i b hb
 have he := k.eqs
 rw [hl] at he
 unfold eqFs at he
 split at he <;> try (cases he; done)
 rename_i fs
 split at he <;> try (cases he; done)
 rename_i hst
 have hf : P.fieldsOf t = fs := by simp [Program.fieldsOf, k.und]
 have hrun : (Op.equalIn 10000 t (.agg xv) (.agg yv)).run P w = .ok b w := by
   rw [show (10000 : Nat) = 9999 + 1 from rfl, run_equalIn_agg w 9999 t xv yv (by rw [hf]; exact k.und) hst.1, hf]
   exact eqC_ok w 9998 rx ry fs.toList l b he hb
 split at h <;> try (cases h; done)
 · simp only [Option.some.injEq] at h; subst h
   refine ⟨_, ?_, .bool _⟩
   simp only [Sem.run_bind, run_eqGuard_agg w _ t _ _ xv yv hst.2, Result.andThen_ok, run_eql_struct, hrun]
 · simp only [Option.some.injEq] at h; subst h
   refine ⟨_, ?_, .bool _⟩
   simp only [Sem.run_bind, run_eqGuard_agg w _ t _ _ xv yv hst.2, Result.andThen_ok, run_neq_struct, hrun]
end Go.Proofs.Ytcajncmjlmpkgaa

namespace Go.Proofs.Ytcajncmjlmpkgaa
open Go Go.RowKit
def splice {α : Type} (cs : List α) (off : Nat) (l : List α) : List α := cs.take off ++ l ++ cs.drop (off + l.length)
theorem splice_length {α : Type} (cs : List α) (off : Nat) (l : List α) (h : off + l.length ≤ cs.length) : (splice cs off l).length = cs.length := by
 simp [splice]; omega
theorem splice_get {α : Type} (cs : List α) (off : Nat) (l : List α) (h : off + l.length ≤ cs.length) (j : Nat) :
   (splice cs off l)[j]? = if off ≤ j ∧ j < off + l.length then l[j - off]? else cs[j]? := by
 unfold splice
 rw [List.append_assoc]
 by_cases h1 : j < off
 · rw [List.getElem?_append_left (by simp; omega), List.getElem?_take, if_pos h1, if_neg (by omega)]
 · rw [List.getElem?_append_right (by simp; omega)]
   simp only [List.length_take]
   rw [show min off cs.length = off by omega]
   by_cases h2 : j < off + l.length
   · rw [List.getElem?_append_left (by omega), if_pos ⟨by omega, h2⟩]
   · rw [List.getElem?_append_right (by omega), List.getElem?_drop, if_neg (by omega)]
     congr 1; omega
theorem fold_set (off : Nat) : ∀ (vs : List Value) (k : Nat) (cs : Array Value), off + k + vs.length ≤ cs.size →
   ((vs.zipIdx k).foldl (fun (cs : Array Value) (x : Value × Nat) => cs.setIfInBounds (off + x.2) x.1) cs).toList = splice cs.toList (off + k) vs := by
 intro vs
 induction vs with
 | nil => intro k cs h; simp [splice]
 | cons v vs ih =>
   intro k cs h
   simp only [List.length_cons] at h
   simp only [List.zipIdx_cons, List.foldl_cons]
   rw [ih (k + 1) _ (by simp; omega)]
   apply List.ext_getElem?
   intro j
   rw [splice_get _ _ _ (by simp; omega), splice_get _ _ _ (by simp; omega)]
   simp only [Array.toList_setIfInBounds, List.length_cons]
   by_cases e : j = off + k
   · subst e
     rw [if_neg (by omega), if_pos (by omega), List.getElem?_set_self (by simp; omega)]
     simp
   · by_cases g : off + k + 1 ≤ j ∧ j < off + k + 1 + vs.length
     · rw [if_pos (by omega), if_pos (by omega), show j - (off + k) = (j - (off + (k + 1))) + 1 by omega, List.getElem?_cons_succ]
     · rw [if_neg (by omega), if_neg (by omega), List.getElem?_set_ne (by omega)]
theorem fill_step (place : Nat → Option (Nat × Nat)) (cells : Array Value) (i off size : Nat) (v : Value) (rest : List (Nat × Value)) (h : place i = some (off, size)) (hs : v.cells.size = size) (hb : off + size ≤ cells.size) :
   Instr.fill place cells ((i, v) :: rest) = Instr.fill place (splice cells.toList off v.cells.toList).toArray rest := by
 rw [Instr.fill, h]
 simp only [hs, ne_eq, not_true, decide_false, Bool.false_or, decide_eq_true_eq, gt_iff_lt]
 rw [if_neg (by omega)]
 congr 1
 have := fold_set off v.cells.toList 0 cells (by simp [hs]; omega)
 rw [← Array.foldl_toList, Array.toList_zipIdx]
 apply Array.ext'
 simpa using this
def fillV (place : Nat → Option (Nat × Nat)) : List AV → List (Nat × AV) → Option (List AV)
 | cs, [] => some cs
 | cs, (i, x) :: r => match place i, x.cells with
   | some (o, s), some l => if l.length = s ∧ o + s ≤ cs.length then fillV place (splice cs o l) r else none
   | _, _ => none
theorem fillV_ok {G : Ghost} (place : Nat → Option (Nat × Nat)) : ∀ (ps : List (Nat × AV)) (vs : List (Nat × Value)) (cs r : List AV) (cells : Array Value), ps.length = vs.length →
   (∀ (j : Nat) p v, ps[j]? = some p → vs[j]? = some v → p.1 = v.1 ∧ RV G p.2 v.2) → cells.size = cs.length → (∀ (j : Nat) c v, cs[j]? = some c → cells[j]? = some v → RV G c v) → fillV place cs ps = some r →
   ∃ out, Instr.fill place cells vs = some out ∧ out.size = r.length ∧ ∀ (j : Nat) c v, r[j]? = some c → out[j]? = some v → RV G c v := by
 intro ps
 induction ps with
 | nil =>
   intro vs cs r cells hl _ h1 h2 h
   cases vs with
   | nil => simp only [fillV, Option.some.injEq] at h; subst h; exact ⟨cells, rfl, h1, h2⟩
   | cons => simp at hl
 | cons p ps ih =>
   intro vs cs r cells hl hp h1 h2 h
   cases vs with
   | nil => simp at hl
   | cons v vs =>
     obtain ⟨i, x⟩ := p
     obtain ⟨i', u⟩ := v
     obtain ⟨e, rx⟩ := hp 0 _ _ rfl rfl
     simp only at e rx; subst e
     simp only [fillV] at h
     split at h <;> try (cases h; done)
     rename_i o s l hpl hcl
     split at h <;> try (cases h; done)
     rename_i hc
     obtain ⟨c1, c2, _⟩ := cells_ok rx hcl
     rw [fill_step place cells i o s u vs hpl (by omega) (by omega)]
     refine ih vs _ r _ (by simpa using hl) (fun j p v hj hv => hp (j + 1) p v (by simpa using hj) (by simpa using hv)) ?_ ?_ h
     · simp only [List.size_toArray]
       rw [splice_length _ _ _ (by simp; omega), splice_length _ _ _ (by omega)]; simpa using h1
     · intro j c v hj hv
       rw [splice_get _ _ _ (by omega)] at hj
       simp only [List.getElem?_toArray] at hv
       rw [splice_get _ _ _ (by simp; omega)] at hv
       simp only [Array.length_toList] at hv
       by_cases g : o ≤ j ∧ j < o + l.length
       · rw [if_pos g] at hj; rw [if_pos (by omega)] at hv
         exact c2 _ c v hj (by simpa using hv)
       · rw [if_neg g] at hj; rw [if_neg (by omega)] at hv
         exact h2 j c v hj (by simpa using hv)
theorem run_places {P : Program} (w : World) : ∀ (fs : List Field), (∀ f, f ∈ fs → P.cellsOf f.type ≠ 0) →
   (fs.mapM (m := Sem) fun f => do pure (f.offset, ← sizeOf f.type)).run P w = .ok (fs.map fun f => (f.offset, P.cellsOf f.type)) w := by
 intro fs
 induction fs with
 | nil => intro _; simp
 | cons f fs ih =>
   intro h
   have h1 := run_sizeOf' (P := P) (h f (by simp)) w
   have h2 := ih (fun g hg => h g (by simp [hg]))
   simp only [List.mapM_cons, Sem.run_bind, h1, Result.andThen_ok, Sem.run_pure, h2, List.map_cons]
def buildV (ti : TI) (ps : List (Nat × AV)) : Option AV :=
 match ti.kind with
 | .fields l => if l.all (fun x => x.2.1 != 0) then (fillV (fun i => (l[i]?).map fun x => (x.1, x.2.1)) ti.zero ps).map .agg else none
 | .array _ es _ => if es ≠ 0 then (fillV (fun i => some (i * es, es)) ti.zero ps).map .agg else none
 | _ => none
theorem buildV_ok {P : Program} {t : TypeId} {ti : TI} (k : tinfo P t = some ti) {G : Ghost} (w : World) {ps : List (Nat × AV)} {vs : Array (Nat × Value)} {x : AV} (hl : ps.length = vs.size)
   (hp : ∀ (j : Nat) p v, ps[j]? = some p → vs[j]? = some v → p.1 = v.1 ∧ RV G p.2 v.2) (h : buildV ti ps = some x) : ∃ v, (Instr.build t vs).run P w = .ok v w ∧ RV G x v := by
 obtain ⟨i, d, z, k⟩ := tinfo_ok k
 unfold buildV at h
 split at h <;> try (cases h; done)
 rotate_left 1
 · rename_i n es ag hk
   split at h <;> try (cases h; done)
   rename_i hne
   rw [Option.map_eq_some_iff] at h
   obtain ⟨r, hr, rfl⟩ := h
   have hd := k.kind
   rw [hk] at hd
   cases d <;> simp only [tkind, reduceCtorEq, TK.array.injEq] at hd
   obtain ⟨rfl, rfl, _⟩ := hd
   have hz := k.zero_rv (G := G)
   obtain ⟨out, ho, hs, hv⟩ := fillV_ok _ ps vs.toList ti.zero r z.cells (by simpa using hl) (fun j p v h1 h2 => hp j p v h1 (by simpa using h2)) hz.1 hz.2 hr
   refine ⟨.agg out, ?_, .agg hs hv⟩
   simp only [Instr.build, Sem.run_bind, k.run_zero w, Result.andThen_ok, k.run_und w, run_sizeOf' hne, ho, Sem.run_pure]
 rename_i l hk
 split at h <;> try (cases h; done)
 rename_i hall
 rw [Option.map_eq_some_iff] at h
 obtain ⟨r, hr, rfl⟩ := h
 have hd := k.kind
 rw [hk] at hd
 cases d <;> simp only [tkind, reduceCtorEq, TK.fields.injEq] at hd
 rename_i fs
 subst hd
 have hne : ∀ f, f ∈ fs.toList → P.cellsOf f.type ≠ 0 := by
   intro f hf
   have := List.all_eq_true.1 hall (f.offset, P.cellsOf f.type, isAggB P f.type) (List.mem_map.2 ⟨f, hf, rfl⟩)
   simpa using this
 have hpl := run_places w fs.toList hne
 have hz := k.zero_rv (G := G)
 have hplace : (fun (i : Nat) => Option.map (fun (x : Nat × Nat × Bool) => (x.1, x.2.1)) ((fs.toList.map fun f => (f.offset, P.cellsOf f.type, isAggB P f.type))[i]?)) = fun (i : Nat) => ((fs.toList.map fun f => (f.offset, P.cellsOf f.type)).toArray)[i]? := by
   funext i
   simp only [List.getElem?_map, Option.map_map, List.getElem?_toArray]
   rfl
 rw [hplace] at hr
 obtain ⟨out, ho, hs, hv⟩ := fillV_ok _ ps vs.toList ti.zero r z.cells (by simpa using hl) (fun j p v h1 h2 => hp j p v h1 (by simpa using h2)) hz.1 hz.2 hr
 refine ⟨.agg out, ?_, .agg hs hv⟩
 have hm : (fs.mapM (m := Sem) fun f => do pure (f.offset, ← sizeOf f.type)).run P w = .ok (fs.toList.map fun f => (f.offset, P.cellsOf f.type)).toArray w := by
   rw [Array.mapM_eq_mapM_toList]
   simp only [Sem.run_map, hpl, Result.andThen_ok]
 simp only [Instr.build, Sem.run_bind, k.run_zero w, Result.andThen_ok, k.run_und w, hm, ho, Sem.run_pure]
end Go.Proofs.Ytcajncmjlmpkgaa

namespace Go.Proofs.Ytcajncmjlmpkgaa
open Go Go.RowKit
def AV.pure0 : AV → Option PV
 | .p x => some x
 | .tok _ es => some (.sl es)
 | .full es => some (.sl es)
 | .rtok _ _ _ l => some (.sl l)
 | .nils n => some (.sl (List.replicate n [.sl []]))
 | _ => none
def pure0L : List AV → Option (List PV)
 | [] => some []
 | x :: r => match x.pure0 with
   | some y => match pure0L r with
     | some ys => some (y :: ys)
     | none => none
   | none => none
def AV.pure1 : AV → Option PV
 | .p x => some x
 | .tok _ es => some (.sl es)
 | .full es => some (.sl es)
 | .fn f caps => match pure0L caps with
   | some cs => some (.fn f cs)
   | none => none
 | .rtok _ _ _ l => some (.sl l)
 | .nils n => some (.sl (List.replicate n [.sl []]))
 | _ => none
def AV.pure : AV → Option PV
 | .agg cs => (cs.mapM AV.pure1).map .agg
 | x => x.pure1
theorem pure0_ok {G : Ghost} {x : AV} {v : Value} {y : PV} (r : RV G x v) (h : x.pure0 = some y) : RP G.mem y v := by
 unfold AV.pure0 at h
 split at h <;> simp only [Option.some.injEq, reduceCtorEq] at h <;> subst h
 · cases r with | p hp => exact hp
 · cases r with | tok hp => exact hp
 · cases r with | full hp => exact hp
 · cases r with | rtok hp => exact hp
 · cases r with | nils hn => exact RP.ofNils hn
theorem pure0L_get : ∀ {l : List AV} {r : List PV}, pure0L l = some r → l.length = r.length ∧ ∀ (i : Nat) x y, l[i]? = some x → r[i]? = some y → x.pure0 = some y := by
 intro l
 induction l with
 | nil => intro r h; simp only [pure0L, Option.some.injEq] at h; subst h; simp
 | cons a l ih =>
   intro r h
   simp only [pure0L] at h
   split at h <;> try (cases h; done)
   rename_i y hy
   split at h <;> try (cases h; done)
   rename_i ys hys
   simp only [Option.some.injEq] at h; subst h
   obtain ⟨h1, h2⟩ := ih hys
   refine ⟨by simp [h1], fun i x z hx hz => ?_⟩
   cases i with
   | zero => simp at hx hz; subst hx hz; exact hy
   | succ i => exact h2 i x z (by simpa using hx) (by simpa using hz)
theorem pure1_ok {G : Ghost} {x : AV} {v : Value} {y : PV} (r : RV G x v) (h : x.pure1 = some y) : RP G.mem y v := by
 unfold AV.pure1 at h
 split at h
 · simp only [Option.some.injEq] at h; subst h; cases r with | p hp => exact hp
 · simp only [Option.some.injEq] at h; subst h; cases r with | tok hp => exact hp
 · simp only [Option.some.injEq] at h; subst h; cases r with | full hp => exact hp
 · split at h <;> try (cases h; done)
   rename_i cs hcs
   simp only [Option.some.injEq] at h; subst h
   obtain ⟨h1, h2⟩ := pure0L_get hcs
   cases r with
   | fn hl hr =>
     refine .fn _ _ _ (by omega) fun i c v hc hv => ?_
     have hlt := (List.getElem?_eq_some_iff.1 hc).1
     have hx := List.getElem?_eq_getElem (show i < _ from by rw [h1]; exact hlt)
     exact pure0_ok (hr i _ v hx hv) (h2 i _ c hx hc)
 · simp only [Option.some.injEq] at h; subst h; cases r with | rtok hp => exact hp
 · simp only [Option.some.injEq] at h; subst h; cases r with | nils hn => exact RP.ofNils hn
 · cases h
theorem mapM_get {α β : Type} {f : α → Option β} : ∀ {l : List α} {r : List β}, l.mapM f = some r → l.length = r.length ∧ ∀ (i : Nat) x y, l[i]? = some x → r[i]? = some y → f x = some y := by
 intro l
 induction l with
 | nil => intro r h; simp at h; subst h; simp
 | cons a l ih =>
   intro r h
   simp only [List.mapM_cons, Option.pure_def, Option.bind_eq_bind, Option.bind_eq_some_iff, Option.some.injEq] at h
   obtain ⟨x, hx, xs, hxs, rfl⟩ := h
   obtain ⟨h1, h2⟩ := ih hxs
   refine ⟨by simp [h1], fun i y v hy hv => ?_⟩
   cases i with
   | zero => simp at hy hv; subst hy hv; exact hx
   | succ i => exact h2 i y v (by simpa using hy) (by simpa using hv)
theorem pure_ok {G : Ghost} {x : AV} {v : Value} {y : PV} (r : RV G x v) (h : x.pure = some y) : RP G.mem y v := by
 cases x with
 | agg cs =>
   simp only [AV.pure, Option.map_eq_some_iff] at h
   obtain ⟨ps, hps, rfl⟩ := h
   obtain ⟨h1, h2⟩ := mapM_get hps
   cases r with
   | agg hl hr =>
     refine .agg _ _ (by omega) (fun i c v hc hv => ?_)
     have hlt : i < ps.length := (List.getElem?_eq_some_iff.1 hc).1
     have hx : cs[i]? = some (cs[i]'(by omega)) := List.getElem?_eq_getElem _
     exact pure1_ok (hr i _ v hx hv) (h2 i _ c hx hc)
 | _ => exact pure1_ok r h
def fieldV (ti : TI) (f : Nat) (cs : List AV) : Option AV :=
 match ti.kind with
 | .fields l => match l[f]? with
   | some (o, _, false) => cs[o]?
   | _ => none
 | _ => none
def unV (op : UnOp) : PV → Option PV
 | .bool b => match op with | .not => some (.bool (!b)) | _ => none
 | .int k n => match op with
   | .neg => some (.int k (k.wrap (0 - n)))
   | .xor => bopI .xor k (if k.signed then -1 else k.max) n
   | _ => none
 | _ => none
def cvV (sk dk : TK) : PV → Option PV
 | .int _ n => match dk with | .num k => some (.int k (k.wrap n)) | _ => none
 | .str s => match sk, dk with | .str, .str => some (.str s) | _, _ => none
 | _ => none
def vop (P : Program) (T : List (Nat × AV)) (H : List AObj) (op : Op) : Option AV :=
 match op with
 | .move x => ev T x
 | .assign x => ev T x
 | .pick c a b => match ev T c with
   | some (.p (.bool true)) => ev T a
   | some (.p (.bool false)) => ev T b
   | _ => none
 | .load t a => match tinfo P t, ev T a with | some ti, some p => ldV H ti p | _, _ => none
 | .fieldAddr t a f => match tinfo P t, ev T a with | some ti, some p => faV ti f p | _, _ => none
 | .indexAddr t a i => match tinfo P t, ev T a, ev T i with | some ti, some p, some i => iaV ti p i | _, _, _ => none
 | .index t a i => match tinfo P t, ev T a, ev T i with | some ti, some p, some i => ixV ti p i | _, _, _ => none
 | .field t x f => match tinfo P t, ev T x with
   | some ti, some (.agg cs) => fieldV ti f cs
   | some ti, some (.p (.agg cs)) => fieldV ti f (cs.map .p)
   | _, _ => none
 | .nilCheck x => match ev T x with
   | some (.ref i o) => some (.ref i o)
   | some (.p (.ip cs)) => some (.p (.ip cs))
   | _ => none
 | .binOp op t x y _ => match tinfo P t, (ev T x).bind AV.pure, (ev T y).bind AV.pure with
   | some ti, some (.agg xs), some (.agg ys) => (eqA ti op xs ys).map .p
   | some ti, some a, some b => (bopV ti.kind op a b).map .p
   | _, _, _ => none
 | .unOp op _ x => match ev T x with
   | some (.p a) => (unV op a).map .p
   | _ => none
 | .convert s d x => match tinfo P s, tinfo P d, ev T x with
   | some si, some di, some (.p a) => (cvV si.kind di.kind a).map .p
   | _, _, _ => none
 | .extract t i => match ev T t with
   | some (.tup vs) => vs[i]?
   | _ => none
 | .makeInterface t x => match tinfo P t, (ev T x).bind AV.pure with
   | some ti, some y => match ti.kind with
     | .fields _ => some (.ifc t y)
     | _ => none
   | _, _ => none
 | .makeFunc (.func f) first caps => if first.size = 0 then (caps.toList.mapM (ev T)).map (.fn f) else none
 | .slice t x lo hi none => match tinfo P t, ev T x, intO (lo.bind (ev T)), intO (hi.bind (ev T)) with
   | some ti, some v, some l, some h => if lo.isSome = l.isSome ∧ hi.isSome = h.isSome then slV ti v l h else none
   | _, _, _, _ => none
 | .build t ps => match tinfo P t, ps.toList.mapM (fun x => (ev T x.2).map fun v => (x.1, v)) with
   | some ti, some l => buildV ti l
   | _, _ => none
 | .call c => match c.callee, c.args.toList, c.argTypes.toList with
   | .builtin .len, [x], [t] => match tinfo P t, ev T x with | some ti, some v => lenV ti.kind v | _, _ => none
   | .builtin .max, [x, y], _ => match ev T x, ev T y with
     | some (.p (.int k a)), some (.p (.int _ b)) => some (.p (.int k (if a < b then b else a)))
     | _, _ => none
   | .builtin .min, [x, y], _ => match ev T x, ev T y with
     | some (.p (.int k a)), some (.p (.int _ b)) => some (.p (.int k (if b < a then b else a)))
     | _, _ => none
   | _, _, _ => none
 | _ => none
theorem arr1 {α : Type} {a : Array α} {x : α} (h : a.toList = [x]) : a = #[x] := by rw [← Array.toArray_toList (xs := a), h]
theorem arr2 {α : Type} {a : Array α} {x y : α} (h : a.toList = [x, y]) : a = #[x, y] := by rw [← Array.toArray_toList (xs := a), h]
theorem intO_ok {nt : NT} {G : Ghost} {T : List (Nat × AV)} {a : Act} (tr : TR nt G T a) {o : Option Operand} {l : Option Int} (h : intO (o.bind (ev T)) = some l) (hs : o.isSome = l.isSome) :
   (∀ v, o.map a.eval = some v → ∃ q n, v = .int q n ∧ l = some n) ∧ (o.map a.eval = none → l = none) := by
 cases o with
 | none => simp [intO] at h; subst h; simp
 | some x =>
   cases hx : ev T x with
   | none => simp [hx, intO] at h; subst h; simp at hs
   | some y =>
     have r := ev_ok tr hx
     simp only [Option.bind_some, hx] at h
     unfold intO at h
     split at h <;> try (cases h; done)
     · rename_i e; cases e
     · rename_i q n e
       simp only [Option.some.injEq] at e h; subst e h
       cases r with
       | p hp =>
         cases hv : a.eval x <;> rw [hv] at hp <;> cases hp
         exact ⟨fun v h' => by simp [hv] at h'; exact ⟨_, _, h'.symm, rfl⟩, fun h' => by simp at h'⟩
theorem p_int {G : Ghost} {k : IntKind} {n : Int} {v : Value} (r : RV G (.p (.int k n)) v) : v = .int k n := by cases r with | p h => cases h; rfl
theorem p_bool {G : Ghost} {b : Bool} {v : Value} (r : RV G (.p (.bool b)) v) : v = .bool b := by cases r with | p h => cases h; rfl
theorem p_str {G : Ghost} {s : ByteArray} {v : Value} (r : RV G (.p (.str s)) v) : v = .string s := by cases r with | p h => cases h; rfl
theorem p_ip {G : Ghost} {cs : List PV} {v : Value} (r : RV G (.p (.ip cs)) v) : ∃ a, v = .pointer (some a) := by cases r with | p h => cases h; exact ⟨_, rfl⟩
theorem ref_ptr {G : Ghost} {i o : Nat} {v : Value} (r : RV G (.ref i o) v) : ∃ a, v = .pointer (some a) := by cases r; exact ⟨_, rfl⟩
theorem p_agg {G : Ghost} {cs : List PV} {v : Value} (r : RV G (.p (.agg cs)) v) : ∃ vs, v = .agg vs ∧ vs.size = cs.length ∧ ∀ (i : Nat) c v, (cs.map AV.p)[i]? = some c → vs[i]? = some v → RV G c v := by
 cases r with
 | p h =>
   cases h with
   | agg _ vs hl hr =>
     refine ⟨vs, rfl, hl, fun i c v hc hv => ?_⟩
     rw [List.getElem?_map, Option.map_eq_some_iff] at hc
     obtain ⟨c', hc', rfl⟩ := hc
     exact .p (hr i c' v hc' hv)
theorem fieldV_ok {P : Program} {t : TypeId} {ti : TI} (k : tinfo P t = some ti) {G : Ghost} (w : World) {f : Nat} {cs : List AV} {vs : Array Value} {x : AV} (hl : vs.size = cs.length)
   (hr : ∀ (i : Nat) c v, cs[i]? = some c → vs[i]? = some v → RV G c v) (h : fieldV ti f cs = some x) : ∃ v, (Instr.field t (.agg vs) f).run P w = .ok v w ∧ RV G x v := by
 obtain ⟨i, d, z, k⟩ := tinfo_ok k
 have hd := k.kind
 unfold fieldV at h
 split at h <;> try (cases h; done)
 rename_i l hk
 split at h <;> try (cases h; done)
 rename_i o s hlf
 rw [hk] at hd
 cases d <;> simp only [tkind, reduceCtorEq, TK.fields.injEq] at hd
 rename_i fs
 subst hd
 rw [List.getElem?_map, Option.map_eq_some_iff] at hlf
 obtain ⟨fd, hfd, he⟩ := hlf
 simp only [Prod.mk.injEq] at he
 obtain ⟨rfl, _, hag⟩ := he
 have hlt : fd.offset < cs.length := (List.getElem?_eq_some_iff.1 h).1
 have hv : vs[fd.offset]? = some (vs[fd.offset]'(by omega)) := Array.getElem?_eq_getElem _
 refine ⟨_, ?_, hr _ _ _ h hv⟩
 have hfd' : fs[f]? = some fd := by simpa using hfd
 cases hu : P.underlying fd.type with
 | none =>
   simp [isAggB, hu] at hag
 | some dd =>
   have : isAg dd = false := by
     simp only [isAggB, hu] at hag
     cases dd <;> simp at hag <;> rfl
   simp only [Instr.field, Sem.run_bind, k.run_und w, Result.andThen_ok, hfd', asAgg, Sem.run_pure, run_part_one hu this w vs _ _ hv]
theorem vop_ok {P : Program} {nt : NT} {B : Base} {G : Ghost} {T : List (Nat × AV)} {H : List AObj} {a : Act} {w : World} (tr : TR nt G T a) (wr : WR B G H w) {o : Oper} {x : AV} (h : vop P T H o.op = some x) :
   ∃ v, (execOp a.eval o).run P w = .ok (.value v) w ∧ RV G x v := by
 have lift : ∀ {s : Sem Value} {v : Value}, s.run P w = .ok v w → (do pure (Next.value (← s)) : Sem Next).run P w = .ok (.value v) w := by
   intro s v hs; simp only [Sem.run_bind, hs, Result.andThen_ok, Sem.run_pure]
 obtain ⟨dst, op, type, pos, after, guard⟩ := o
 simp only at h
 unfold vop at h
 split at h
 · exact ⟨_, rfl, ev_ok tr h⟩
 · exact ⟨_, rfl, ev_ok tr h⟩
 · rename_i c x1 y1
   split at h <;> try (cases h; done)
   all_goals
     rename_i hc
     have hv := p_bool (ev_ok tr hc)
     refine ⟨_, ?_, ev_ok tr h⟩
     simp [execOp, hv, asBool]
 · split at h <;> try (cases h; done)
   rename_i ti p hti hp
   obtain ⟨v, h1, h2⟩ := ldV_ok hti wr (ev_ok tr hp) h
   exact ⟨v, lift h1, h2⟩
 · split at h <;> try (cases h; done)
   rename_i ti p hti hp
   obtain ⟨v, h1, h2⟩ := faV_ok hti w (ev_ok tr hp) h
   exact ⟨v, lift h1, h2⟩
 · split at h <;> try (cases h; done)
   rename_i ti p i hti hp hi
   obtain ⟨v, h1, h2⟩ := iaV_ok hti w (ev_ok tr hp) (ev_ok tr hi) h
   exact ⟨v, lift h1, h2⟩
 · split at h <;> try (cases h; done)
   rename_i ti p i hti hp hi
   obtain ⟨v, h1, h2⟩ := ixV_ok hti w (ev_ok tr hp) (ev_ok tr hi) h
   exact ⟨v, lift h1, h2⟩
 · split at h <;> try (cases h; done)
   · rename_i ti cs hti hx
     have r := ev_ok tr hx
     generalize hv : a.eval _ = v at r
     cases r with
     | agg hl hr =>
       obtain ⟨v, h1, h2⟩ := fieldV_ok hti w hl hr h
       exact ⟨v, lift (by rw [hv]; exact h1), h2⟩
   · rename_i ti cs hti hx
     obtain ⟨vs, hv, hl, hr⟩ := p_agg (ev_ok tr hx)
     obtain ⟨v, h1, h2⟩ := fieldV_ok hti w (cs := cs.map .p) (by simpa using hl) hr h
     exact ⟨v, lift (by rw [hv]; exact h1), h2⟩
 · rename_i x1
   split at h <;> try (cases h; done)
   · rename_i hc
     simp only [Option.some.injEq] at h; subst h
     have r := ev_ok tr hc
     obtain ⟨ad, hv⟩ := ref_ptr r
     rw [hv] at r
     exact ⟨_, by simp only [execOp, hv]; rfl, r⟩
   · rename_i hc
     simp only [Option.some.injEq] at h; subst h
     have r := ev_ok tr hc
     obtain ⟨ad, hv⟩ := p_ip r
     rw [hv] at r
     exact ⟨_, by simp only [execOp, hv]; rfl, r⟩
 · rename_i bo t x1 y1 yt
   split at h <;> try (cases h; done)
   · rename_i ti xs ys hti hx hy
     rw [Option.map_eq_some_iff] at h
     obtain ⟨r, hr, rfl⟩ := h
     rw [Option.bind_eq_some_iff] at hx hy
     obtain ⟨ax, hx1, hx2⟩ := hx
     obtain ⟨ay, hy1, hy2⟩ := hy
     have rx := pure_ok (ev_ok tr hx1) hx2
     have ry := pure_ok (ev_ok tr hy1) hy2
     obtain ⟨xv, hxv⟩ : ∃ xv, a.eval x1 = .agg xv := by generalize a.eval x1 = v at rx; cases rx; exact ⟨_, rfl⟩
     obtain ⟨yv, hyv⟩ : ∃ yv, a.eval y1 = .agg yv := by generalize a.eval y1 = v at ry; cases ry; exact ⟨_, rfl⟩
     rw [hxv] at rx; rw [hyv] at ry
     obtain ⟨v, h1, h2⟩ := eqA_ok hti w (xo := x1) (yo := y1) rx ry hr
     exact ⟨v, lift (by rw [hxv, hyv]; exact h1), .p h2⟩
   · rename_i ti xs ys _ hti hx hy
     rw [Option.map_eq_some_iff] at h
     obtain ⟨r, hr, rfl⟩ := h
     rw [Option.bind_eq_some_iff] at hx hy
     obtain ⟨ax, hx1, hx2⟩ := hx
     obtain ⟨ay, hy1, hy2⟩ := hy
     obtain ⟨v, h1, h2⟩ := bopV_ok hti w (xo := x1) (yo := y1) (pure_ok (ev_ok tr hx1) hx2) (pure_ok (ev_ok tr hy1) hy2) hr
     exact ⟨v, lift h1, .p h2⟩
 · rename_i uo t x1
   split at h <;> try (cases h; done)
   rename_i y hx
   rw [Option.map_eq_some_iff] at h
   obtain ⟨r, hr, rfl⟩ := h
   have rx := ev_ok tr hx
   unfold unV at hr
   split at hr
   · rename_i b
     split at hr <;> try (cases hr; done)
     simp only [Option.some.injEq] at hr; subst hr
     have hv := p_bool rx
     exact ⟨_, lift (by rw [hv]; rfl), .p (.bool _)⟩
   · rename_i k n
     have hv := p_int rx
     split at hr <;> try (cases hr; done)
     · simp only [Option.some.injEq] at hr; subst hr
       exact ⟨_, lift (by rw [hv]; rfl), .p (.int _ _)⟩
     · simp only [bopI, Option.some.injEq] at hr; subst hr
       exact ⟨_, lift (by rw [hv]; rfl), .p (.int _ _)⟩
   · cases hr
 · rename_i s d x1
   split at h <;> try (cases h; done)
   rename_i si di y hsi hdi hx
   rw [Option.map_eq_some_iff] at h
   obtain ⟨r, hr, rfl⟩ := h
   have rx := ev_ok tr hx
   obtain ⟨i1, d1, z1, k1⟩ := tinfo_ok hsi
   obtain ⟨i2, d2, z2, k2⟩ := tinfo_ok hdi
   have hd1 := k1.kind
   have hd2 := k2.kind
   unfold cvV at hr
   split at hr
   · rename_i q n
     have hv := p_int rx
     split at hr <;> try (cases hr; done)
     rename_i kk hkk
     simp only [Option.some.injEq] at hr; subst hr
     rw [hkk] at hd2
     cases d2 <;> simp only [tkind, reduceCtorEq, TK.num.injEq] at hd2
     subst hd2
     refine ⟨_, lift (v := .int _ _) ?_, .p (.int _ _)⟩
     rw [hv]
     simp only [convert, Sem.run_bind, k1.run_und w, k2.run_und w, Result.andThen_ok, Conv.intToInt, Sem.run_pure]
   · rename_i q
     have hv := p_str rx
     split at hr <;> try (cases hr; done)
     rename_i hk1 hk2
     simp only [Option.some.injEq] at hr; subst hr
     rw [hk1] at hd1; rw [hk2] at hd2
     cases d1 <;> simp only [tkind, reduceCtorEq] at hd1
     cases d2 <;> simp only [tkind, reduceCtorEq] at hd2
     refine ⟨_, lift (v := .string q) ?_, .p (.str _)⟩
     rw [hv]
     simp only [convert, Sem.run_bind, k1.run_und w, k2.run_und w, Result.andThen_ok, Sem.run_pure]
   · cases hr
 · rename_i t1 i
   split at h <;> try (cases h; done)
   rename_i vs hx
   have r := ev_ok tr hx
   generalize hv : a.eval t1 = v at r
   cases r with
   | @tup _ us hl hr =>
     have hlt : i < vs.length := (List.getElem?_eq_some_iff.1 h).1
     have hu : us[i]? = some (us[i]'(by omega)) := Array.getElem?_eq_getElem _
     refine ⟨_, lift ?_, hr i x _ h hu⟩
     rw [hv]
     simp only [Instr.extract, hu, Sem.run_pure]
 · rename_i t1 x1
   split at h <;> try (cases h; done)
   rename_i ti y hti hx
   split at h <;> try (cases h; done)
   rename_i l hk
   simp only [Option.some.injEq] at h
   subst h
   obtain ⟨i, d, z, k⟩ := tinfo_ok hti
   have hcon : P.concrete t1 = true := by
     have hd := k.kind
     have hu := k.und
     rw [hk] at hd
     cases d <;> simp only [tkind, reduceCtorEq] at hd
     simp [Program.concrete, hu]
   rw [Option.bind_eq_some_iff] at hx
   obtain ⟨u, hu, hy⟩ := hx
   exact ⟨_, lift (run_makeInterface w t1 _ hcon), .ifc (pure_ok (ev_ok tr hu) hy)⟩
 · rename_i f first caps
   split at h <;> try (cases h; done)
   rename_i hf
   rw [Option.map_eq_some_iff] at h
   obtain ⟨l, hl, rfl⟩ := h
   have hf' : first = #[] := by simpa using hf
   subst hf'
   obtain ⟨h1, h2⟩ := mapM_get hl
   refine ⟨.func (.func f) #[] (caps.map a.eval), by simp [execOp, Instr.makeFunc], .fn (vs := caps.map a.eval) (by simpa using h1) (fun i c v hc hv => ?_)⟩
   simp only [Array.getElem?_map, Option.map_eq_some_iff] at hv
   obtain ⟨o, ho, rfl⟩ := hv
   exact ev_ok tr (h2 i o c (by simpa using ho) hc)
 · rename_i t1 x1 lo hi
   split at h <;> try (cases h; done)
   rename_i ti v l hh hti hx hlo hhi
   split at h <;> try (cases h; done)
   rename_i hs
   obtain ⟨a1, a2⟩ := intO_ok tr hlo hs.1
   obtain ⟨b1, b2⟩ := intO_ok tr hhi hs.2
   obtain ⟨v, h1, h2⟩ := slV_ok hti w (ev_ok tr hx) a1 a2 b1 b2 h
   exact ⟨v, lift h1, h2⟩
 · rename_i t1 ps
   split at h <;> try (cases h; done)
   rename_i ti l hti hl
   obtain ⟨l1, l2⟩ := mapM_get hl
   obtain ⟨v, h1, h2⟩ := buildV_ok hti w (vs := ps.map fun (i, x) => (i, a.eval x)) (by simp; simpa using l1.symm) (fun j p v hp hv => by
     simp only [Array.getElem?_map, Option.map_eq_some_iff] at hv
     obtain ⟨q, hq, rfl⟩ := hv
     have := l2 j q p (by simpa using hq) hp
     rw [Option.map_eq_some_iff] at this
     obtain ⟨y, hy, rfl⟩ := this
     exact ⟨rfl, ev_ok tr hy⟩) h
   exact ⟨v, lift h1, h2⟩
 · rename_i c
   obtain ⟨callee, args, argTypes⟩ := c
   simp only at h
   split at h <;> try (cases h; done)
   · rename_i x1 t1 ha ht
     have ha := arr1 ha; have ht := arr1 ht; subst ha ht
     split at h <;> try (cases h; done)
     rename_i ti v hti hv
     obtain ⟨u, h1, h2⟩ := lenV_ok hti (ty := type) w (ev_ok tr hv) h
     refine ⟨u, ?_, h2⟩
     simp only [execOp, resolve, invoke, builtin, Sem.run_bind, Sem.run_pure, Result.andThen_ok, List.map_toArray, List.map_cons, List.map_nil, h1]
   · rename_i x1 y1 _ ha
     have ha := arr2 ha; subst ha
     split at h <;> try (cases h; done)
     rename_i k1 n1 k2 n2 hx hy
     simp only [Option.some.injEq] at h; subst h
     have e1 := p_int (ev_ok tr hx); have e2 := p_int (ev_ok tr hy)
     refine ⟨_, ?_, .p (.int _ _)⟩
     simp [execOp, resolve, invoke, builtin, Builtin.max_, Builtin.max2, e1, e2]
   · rename_i x1 y1 _ ha
     have ha := arr2 ha; subst ha
     split at h <;> try (cases h; done)
     rename_i k1 n1 k2 n2 hx hy
     simp only [Option.some.injEq] at h; subst h
     have e1 := p_int (ev_ok tr hx); have e2 := p_int (ev_ok tr hy)
     refine ⟨_, ?_, .p (.int _ _)⟩
     simp [execOp, resolve, invoke, builtin, Builtin.min_, Builtin.min2, e1, e2]
 · cases h
end Go.Proofs.Ytcajncmjlmpkgaa

namespace Go.Proofs.Ytcajncmjlmpkgaa
open Go Go.RowKit
def okEs (size : Nat) (es : List (List PV)) : Bool := es.all fun e => e.length == size && e.all PV.one
theorem okEs_mem {size : Nat} {es : List (List PV)} (h : okEs size es = true) {e : List PV} (he : e ∈ es) : e.length = size ∧ ∀ c, c ∈ e → c.one = true := by
 have := List.all_eq_true.1 h e he
 simp only [Bool.and_eq_true, beq_iff_eq, List.all_eq_true] at this
 exact this
theorem okEs_append {size : Nat} {a b : List (List PV)} : okEs size (a ++ b) = (okEs size a && okEs size b) := by simp [okEs]
structure Flat (m : Mem) (size : Nat) (es : List (List PV)) (vs : List Value) : Prop where
 len : vs.length = es.length * size
 get : ∀ (i : Nat) e j c, es[i]? = some e → e[j]? = some c → ∃ v, vs[i * size + j]? = some v ∧ RP m c v
 one : ∀ v, v ∈ vs → v.oneCell' = true
theorem RP.one {m : Mem} {x : PV} {v : Value} (r : RP m x v) (h : x.one = true) : v.oneCell' = true := by
 cases r <;> first | rfl | simp [PV.one] at h
theorem RP.flat {m : Mem} {size : Nat} {es : List (List PV)} {a : Option Addr} {n cap : Nat} (h : RP m (.sl es) (.slice a n cap)) (hok : okEs size es = true) :
   n = es.length ∧ n ≤ cap ∧ cap ≤ maxLen ∧ ∃ vs, Flat m size es vs ∧ (∀ (k : Nat) v, vs[k]? = some v → ∃ b o, a = some ⟨b, o, none⟩ ∧ m b (o + k) = some v) := by
 cases h with
 | sl0 a cap hc => exact ⟨rfl, Nat.zero_le _, hc, [], ⟨by simp, fun i e j c hi => by simp at hi, fun v hv => by simp at hv⟩, fun k v hv => by simp at hv⟩
 | sl _ sz b o len cap vs hlen hcap hmax hsz hm hr =>
   subst hlen
   refine ⟨rfl, hcap, hmax, ?_⟩
   by_cases hz : es = []
   · subst hz
     exact ⟨[], ⟨by simp, fun i e j c hi => by simp at hi, fun v hv => by simp at hv⟩, fun k v hv => by simp at hv⟩
   · obtain ⟨e0, he0⟩ := List.exists_mem_of_ne_nil es hz
     have hs : sz = size := by rw [← hsz e0 he0, (okEs_mem hok he0).1]
     subst hs
     have key : ∀ k, k < es.length * sz → ∃ i e j c, es[i]? = some e ∧ e[j]? = some c ∧ k = i * sz + j ∧ k / sz = i ∧ k % sz = j := by
       intro k hk
       have hpos : 0 < sz := by
         rcases Nat.eq_zero_or_pos sz with g | g
         · subst g; simp at hk
         · exact g
       have h1 : k / sz < es.length := (Nat.div_lt_iff_lt_mul hpos).2 hk
       have h2 := Nat.mod_lt k hpos
       have h3 : (es[k / sz]).length = sz := hsz _ (List.getElem_mem h1)
       exact ⟨k / sz, es[k / sz], k % sz, (es[k / sz])[k % sz]'(by omega), List.getElem?_eq_getElem _, List.getElem?_eq_getElem _, by rw [Nat.mul_comm]; exact (Nat.div_add_mod k sz).symm, rfl, rfl⟩
     have uniq : ∀ i e j c, es[i]? = some e → e[j]? = some c → (i * sz + j) < es.length * sz ∧ (i * sz + j) / sz = i ∧ (i * sz + j) % sz = j := by
       intro i e j c hi hj
       have h1 : i < es.length := (List.getElem?_eq_some_iff.1 hi).1
       have h2 : j < sz := by
         have := (List.getElem?_eq_some_iff.1 hj).1
         rw [hsz e (List.mem_of_getElem? hi)] at this; exact this
       refine ⟨?_, ?_, ?_⟩
       · have : (i + 1) * sz ≤ es.length * sz := Nat.mul_le_mul_right _ h1
         rw [Nat.add_mul] at this; omega
       · rw [Nat.mul_comm, Nat.mul_add_div (by omega), Nat.div_eq_of_lt h2]; omega
       · rw [Nat.mul_comm, Nat.mul_add_mod, Nat.mod_eq_of_lt h2]
     refine ⟨(List.range (es.length * sz)).map fun k => vs (k / sz) (k % sz), ⟨by simp, ?_, ?_⟩, ?_⟩
     · intro i e j c hi hj
       obtain ⟨u1, u2, u3⟩ := uniq i e j c hi hj
       exact ⟨vs i j, by simp [u1, u2, u3], hr i e j c hi hj⟩
     · intro v hv
       obtain ⟨k, hk, rfl⟩ := List.mem_map.1 hv
       obtain ⟨i, e, j, c, hi, hj, _, h1, h2⟩ := key k (by simpa using hk)
       simp only [h1, h2]
       exact (hr i e j c hi hj).one ((okEs_mem hok (List.mem_of_getElem? hi)).2 c (List.mem_of_getElem? hj))
     · intro k v hv
       rw [List.getElem?_map, Option.map_eq_some_iff] at hv
       obtain ⟨k', hk', rfl⟩ := hv
       rw [List.getElem?_eq_some_iff] at hk'
       obtain ⟨hlt, hk'⟩ := hk'
       simp at hlt hk'; subst hk'
       obtain ⟨i, e, j, c, hi, hj, hk, h1, h2⟩ := key k hlt
       refine ⟨b, o, rfl, ?_⟩
       simp only [h1, h2]
       rw [hk, ← Nat.add_assoc]
       exact hm i e j hi (List.getElem?_eq_some_iff.1 hj).1
theorem RP.ofFlat {m : Mem} {size : Nat} {es : List (List PV)} {vs : List Value} {b len cap : Nat} (f : Flat m size es vs) (hok : okEs size es = true) (hlen : es.length = len) (hcap : len ≤ cap) (hmax : cap ≤ maxLen)
   (hm : ∀ (k : Nat) v, vs[k]? = some v → m b k = some v) : RP m (.sl es) (.slice (some ⟨b, 0, none⟩) len cap) := by
 refine .sl es size b 0 len cap (fun i j => (m b (i * size + j)).getD undef) hlen hcap hmax (fun e he => (okEs_mem hok he).1) (fun i e j hi hj => ?_) (fun i e j c hi hj => ?_)
 · obtain ⟨v, h1, _⟩ := f.get i e j _ hi (List.getElem?_eq_getElem hj)
   have := hm _ v h1
   simp [this]
 · obtain ⟨v, h1, h2⟩ := f.get i e j c hi hj
   have := hm _ v h1
   simp [this]; exact h2
theorem Flat.append {m : Mem} {size : Nat} {a b : List (List PV)} {u v : List Value} (hu : Flat m size a u) (hv : Flat m size b v) : Flat m size (a ++ b) (u ++ v) := by
 refine ⟨by simp [hu.len, hv.len, Nat.add_mul], fun i e j c hi hj => ?_, fun x hx => ?_⟩
 · rcases Nat.lt_or_ge i a.length with g | g
   · rw [List.getElem?_append_left g] at hi
     obtain ⟨x, h1, h2⟩ := hu.get i e j c hi hj
     exact ⟨x, by rw [List.getElem?_append_left (List.getElem?_eq_some_iff.1 h1).1]; exact h1, h2⟩
   · rw [List.getElem?_append_right g] at hi
     obtain ⟨x, h1, h2⟩ := hv.get _ e j c hi hj
     refine ⟨x, ?_, h2⟩
     have e1 : i * size = a.length * size + (i - a.length) * size := by rw [← Nat.add_mul]; congr 1; omega
     rw [List.getElem?_append_right (by rw [hu.len]; omega), hu.len, ← h1]
     congr 1; omega
 · rcases List.mem_append.1 hx with h | h
   · exact hu.one x h
   · exact hv.one x h
theorem Flat.mono {m m' : Mem} {size : Nat} {es : List (List PV)} {vs : List Value} (f : Flat m size es vs) (h : ∀ b o v, m b o = some v → m' b o = some v) : Flat m' size es vs :=
 ⟨f.len, fun i e j c hi hj => let ⟨v, h1, h2⟩ := f.get i e j c hi hj; ⟨v, h1, h2.mono h⟩, f.one⟩
structure Src (P : Program) (w : World) (size n : Nat) (x : Value) (news : List Value) : Prop where
 cnt : (Builtin.lenOf x).run P w = .ok n w
 cells : (Builtin.firstCells size n x).run P w = .ok news.toArray w
 cells' : (Builtin.firstCells size n x).run P w.drew = .ok news.toArray w.drew
theorem firstCells_ok {P : Program} (w : World) {m : Mem} (hm : ∀ b o v, m b o = some v → w.cell? ⟨b, o, none⟩ = some v) {size n cap len : Nat} {a : Option Addr} {vs : List Value} (hl : vs.length = n * size)
   (h : ∀ (k : Nat) v, vs[k]? = some v → ∃ b o, a = some ⟨b, o, none⟩ ∧ m b (o + k) = some v) : (Builtin.firstCells size n (.slice a len cap)).run P w = .ok vs.toArray w := by
 cases a with
 | none =>
   have : vs = [] := by
     cases vs with
     | nil => rfl
     | cons v r => obtain ⟨_, _, e, _⟩ := h 0 v rfl; cases e
   subst this
   simp [Builtin.firstCells]
 | some ad =>
   refine run_firstCells_some w size n ad len cap vs hl (fun j v hv => ?_)
   obtain ⟨b, o, e, hb⟩ := h j v hv
   simp only [Option.some.injEq] at e; subst e
   rw [Addr.add_lit]; exact hm b (o + j) v hb
section
variable {P : Program} (w : World) (t xt ty e : TypeId) (i : TypeInfo) (z : Value) (ht : P.underlying t = some (.slice e)) (hx : ∃ d, P.underlying xt = some d ∧ ∀ k, d ≠ .int k) (hi : P.info? e = some i) (hz : i.zero = some z)
include ht hx hi
theorem run_append_room' {g n cap bt : Nat} {cur : Array Value} (hg : w.heap[g]? = some (.cells cur bt (0, 0))) {x : Value} {m : Nat} {news : List Value} (s : Src P w i.size m x news) (h1 : ∀ u ∈ news, u.oneCell' = true)
   (hroom : n + m ≤ cap) (hfit : n * i.size + news.length ≤ cur.size) :
   (Builtin.append_ #[t, xt] ty #[.slice (some ⟨g, 0, none⟩) n cap, x]).run P w = .ok (.slice (some ⟨g, 0, none⟩) (n + m) cap) (w.setRow g (splice cur.toList (n * i.size) news).toArray) := by
 obtain ⟨d, hd, hne⟩ := hx
 have hst := run_storeCells_at P g (n * i.size) bt news 0 cur w hg (by simpa using hfit) h1
 simp only [Nat.add_zero] at hst
 simp [Builtin.append_, run_underlying ht, run_underlying hd, sizeOf, typeInfo, hi, s.cnt, hroom, s.cells, Addr.add_lit, hst, splice]
theorem run_append_same {a : Option Addr} {n : Nat} {x : Value} (s : Src P w i.size 0 x []) :
   (Builtin.append_ #[t, xt] ty #[.slice a n n, x]).run P w = .ok (.slice a n n) w := by
 obtain ⟨d, hd, hne⟩ := hx
 cases a <;> simp [Builtin.append_, run_underlying ht, run_underlying hd, sizeOf, typeInfo, hi, s.cnt, s.cells, storeCells]
include hz
theorem run_append_grow' {a : Option Addr} {n cap : Nat} {x : Value} {m : Nat} {news olds : List Value} (s : Src P w i.size m x news) (ho : (Builtin.firstCells i.size n (.slice a n cap)).run P w.drew = .ok olds.toArray w.drew)
   (hg : cap < n + m) (h63 : ((n + m : Nat) : Int) ≤ 9223372036854775807) (hfit : Builtin.nextslicecap (n + m) cap * i.bytes ≤ 281474976710656) :
   (Builtin.append_ #[t, xt] ty #[.slice a n cap, x]).run P w = .ok (.slice (some ⟨w.heap.size, 0, none⟩) (n + m) (grownCap w (n + m) cap e))
       (w.drew.alloc (.cells (olds ++ (news ++ (Builtin.zeroCells z.cells (grownCap w (n + m) cap e - (n + m))).toList)).toArray e)) := by
 obtain ⟨d, hd, hne⟩ := hx
 have hn : ¬ (n + m ≤ cap) := by omega
 have h63' : ¬ (9223372036854775807 < ((n : Int) + (m : Int))) := by omega
 have h48' : ¬ (281474976710656 < Builtin.nextslicecap (n + m) cap * i.bytes) := by omega
 simp [Builtin.append_, run_underlying ht, run_underlying hd, sizeOf, typeInfo, zeroValue, hi, hz, s.cnt, hn, h63', h48', Question.forced, s.cells', ho, newRow, grownCap]
 congr 2
 apply Array.ext'
 simp
end
end Go.Proofs.Ytcajncmjlmpkgaa

namespace Go.Proofs.Ytcajncmjlmpkgaa
open Go Go.RowKit
structure Upd (H H' : List AObj) (id : Nat) (x : AObj) : Prop where
 at_ : H'[id]? = some x
 other : ∀ j, j ≠ id → H'[j]? = H[j]?
 dom : ∀ j, H'.length ≤ j → H.length ≤ j ∧ j ≠ id
theorem Upd.set {H : List AObj} {id : Nat} {y : AObj} (h : H[id]? = some y) (x : AObj) : Upd H (H.set id x) id x := by
 have hlt := (List.getElem?_eq_some_iff.1 h).1
 exact ⟨List.getElem?_set_self hlt, fun j hj => getElem?_set_ne' (fun e => hj e.symm), fun j hj => by simp at hj; omega⟩
theorem Upd.push (H : List AObj) (x : AObj) : Upd H (H ++ [x]) H.length x := by
 refine ⟨by simp, fun j hj => ?_, fun j hj => by simp at hj; omega⟩
 rcases Nat.lt_or_ge j H.length with g | g
 · rw [List.getElem?_append_left g]
 · rw [List.getElem?_append_right g, List.getElem?_eq_none (by simp; omega), List.getElem?_eq_none g]
def Ghost.tok (G : Ghost) (id c : Nat) (u : Value) (own : Option Nat) (mem : Mem) : Ghost :=
 { mem := mem, obj := fun i => if i = id then some (.tok c u own) else G.obj i }
theorem Ghost.tok_obj (G : Ghost) (id c : Nat) (u : Value) (own : Option Nat) (mem : Mem) : (G.tok id c u own mem).obj id = some (.tok c u own) := by simp [Ghost.tok]
def Older (G : Ghost) (id c : Nat) (u : Value) : Prop := G.obj id = none ∨ ∃ c' u' o', G.obj id = some (.tok c' u' o') ∧ c' ≤ c ∧ (c' = c → u' = u)
theorem Older.ext {G : Ghost} {id c : Nat} {u : Value} (h : Older G id c u) (own : Option Nat) {mem : Mem} (hm : ∀ b o v, G.mem b o = some v → mem b o = some v) : GExt G (G.tok id c u own mem) := by
 refine ⟨hm, fun j b hb => ?_, fun j c1 u1 o1 hj => ?_, fun j c1 u1 o1 k1 v1 s1 hj => ?_⟩
 · simp only [Ghost.tok]
   by_cases e : j = id
   · subst e
     rcases h with h | ⟨c', u', o', h, _⟩ <;> rw [h] at hb <;> cases hb
   · rw [if_neg e]; exact hb
 · simp only [Ghost.tok]
   by_cases e : j = id
   · subst e
     rcases h with h | ⟨c', u', o', h, h1, h2⟩
     · rw [h] at hj; cases hj
     · rw [h] at hj; simp only [Option.some.injEq, GO.tok.injEq] at hj
       obtain ⟨rfl, rfl, rfl⟩ := hj
       exact ⟨c, u, own, by simp, h1, fun e => (h2 e.symm).symm⟩
   · exact ⟨c1, u1, o1, by rw [if_neg e]; exact hj, Nat.le_refl _, fun _ => rfl⟩
 · simp only [Ghost.tok]
   by_cases e : j = id
   · subst e
     rcases h with h | ⟨c', u', o', h, _⟩ <;> rw [h] at hj <;> cases hj
   · exact ⟨c1, u1, o1, k1, v1, s1, by rw [if_neg e]; exact hj, Nat.le_refl _, fun _ => rfl, Nat.le_refl _, fun _ => rfl⟩
theorem WR.upd {B : Base} {G G' : Ghost} {H H' : List AObj} {w w' : World} {id c : Nat} {u : Value} {own : Option Nat} {x : AObj} (h : WR B G H w) (hup : Upd H H' id x) (ext : GExt G G') (hG : G'.obj = fun i => if i = id then some (.tok c u own) else G.obj i)
   (hbelow : Below B.w.heap.size B.w w') (hmem : ∀ b o v, G'.mem b o = some v → w'.cell? ⟨b, o, none⟩ = some v) (hnews : ∀ b o v, G'.mem b o = some v → B.m b o = some v ∨ B.w.heap.size ≤ b)
   (hx : ObjR G' w' id x) (hblk : ∀ i g b, i ≠ id → G.obj i = some g → g.has b → w'.heap[b]? = w.heap[b]? ∧ (∀ o, G'.mem b o = G.mem b o) ∧ own ≠ some b)
   (hsz : w.heap.size ≤ w'.heap.size) (hown : ∀ b, own = some b → B.w.heap.size ≤ b ∧ b < w'.heap.size) (hkeep : ∀ b y, B.pr b = some y → w'.heap[b]? = w.heap[b]? ∧ ∀ o, G'.mem b o = G.mem b o) (hap : ∀ b, own = some b → B.pr b = none) : WR B G' H' w' := by
 refine ⟨hbelow, hmem, hnews, fun b o v hv => ext.mem _ _ _ (h.olds b o v hv), fun j y hy => ?_, fun i j a b k hi hj ha hb => ?_, fun i a b hi ha => ?_, fun j hj => ?_, fun b y f hb => ?_, fun i a b hi ha => ?_⟩
 · by_cases e : j = id
   · subst e; rw [hup.at_] at hy; simp only [Option.some.injEq] at hy; subst hy; exact hx
   · rw [hup.other j e] at hy
     refine (h.objs j y hy).keep ext (by rw [hG]; simp [e]) (fun g b hg hb => (hblk j g b e hg hb).1) (fun g b o hg hb => (hblk j g b e hg hb).2.1 o)
 · rw [hG] at hi hj
   simp only at hi hj
   split at hi <;> split at hj
   · omega
   · rename_i e1 e2
     simp only [Option.some.injEq] at hi; subst hi
     exact absurd ha (hblk j b k e2 hj hb).2.2
   · rename_i e1 e2
     simp only [Option.some.injEq] at hj; subst hj
     exact absurd hb (hblk i a k e1 hi ha).2.2
   · exact h.sep i j a b k hi hj ha hb
 · rw [hG] at hi
   simp only at hi
   split at hi
   · simp only [Option.some.injEq] at hi; subst hi
     exact hown b ha
   · have := h.fresh i a b hi ha
     exact ⟨this.1, by omega⟩
 · obtain ⟨h1, h2⟩ := hup.dom j hj
   rw [hG]; simp only [h2, if_false]; exact h.dom j h1
 · obtain ⟨h1, h2⟩ := h.keep b y f hb
   obtain ⟨k1, k2⟩ := hkeep b _ hb
   exact ⟨by rw [k1]; exact h1, by rw [← h2]; funext o; exact k2 o⟩
 · rw [hG] at hi
   simp only at hi
   split at hi
   · simp only [Option.some.injEq] at hi; subst hi
     exact hap b ha
   · exact h.apart i a b hi ha
theorem WR.tokSame {B : Base} {G : Ghost} {H H' : List AObj} {w : World} (h : WR B G H w) {id n size : Nat} {a : Option Addr} (hup : Upd H H' id (.spare n size)) (hold : Older G id n (.slice a n n)) :
   WR B (G.tok id n (.slice a n n) none G.mem) H' w ∧ GExt G (G.tok id n (.slice a n n) none G.mem) := by
 have ext := hold.ext none (mem := G.mem) (fun _ _ _ h => h)
 exact ⟨h.upd hup ext rfl h.below h.mem h.news ⟨_, none, by simp [Ghost.tok], .inl ⟨rfl, a, rfl⟩⟩ (fun i g b hi hg hb => ⟨rfl, fun _ => rfl, by simp⟩) (Nat.le_refl _) (fun b hb => by cases hb) (fun _ _ _ => ⟨rfl, fun _ => rfl⟩) (fun b hb => by cases hb), ext⟩
theorem WR.tokGrow {B : Base} {G : Ghost} {H H' : List AObj} {w : World} (h : WR B G H w) {id n size cap : Nat} (hup : Upd H H' id (.spare n size)) {arr : Array Value} (e : TypeId) (hold : Older G id n (.slice (some ⟨w.heap.size, 0, none⟩) n cap))
   (hcap : n ≤ cap) (hmax : cap ≤ maxLen) (hsz : arr.size = cap * size) :
   let mem : Mem := fun b o => if b = w.heap.size then (if o < n * size then arr[o]? else none) else G.mem b o
   WR B (G.tok id n (.slice (some ⟨w.heap.size, 0, none⟩) n cap) (some w.heap.size) mem) H' (w.alloc (.cells arr e)) ∧ GExt G (G.tok id n (.slice (some ⟨w.heap.size, 0, none⟩) n cap) (some w.heap.size) mem) := by
 intro mem
 have hlt : ∀ b o v, G.mem b o = some v → b < w.heap.size := fun b o v hv => cell?_lt (h.mem b o v hv)
 have hm : ∀ b o v, G.mem b o = some v → mem b o = some v := by
   intro b o v hv
   have := hlt b o v hv
   simp only [mem]; rw [if_neg (by omega)]; exact hv
 have ext := hold.ext (some w.heap.size) hm
 have hle := h.below.size
 refine ⟨h.upd hup ext rfl (h.below.alloc hle _) (fun b o v hv => ?_) (fun b o v hv => ?_) ?_ (fun i g b hi hg hb => ?_) (by simp) (fun b hb => by simp only [Option.some.injEq] at hb; subst hb; exact ⟨hle, by simp⟩) (fun b y hb => ⟨Below.heap_alloc w _ b (h.pr_lt hb), fun o => by have := h.pr_lt hb; simp only [Ghost.tok, mem]; rw [if_neg (by omega)]⟩) (fun b hb => by simp only [Option.some.injEq] at hb; subst hb; exact h.pr_new), ext⟩
 · simp only [Ghost.tok, mem] at hv
   split at hv
   · rename_i e'; subst e'
     split at hv
     · rw [World.cell?_alloc_at _ _ _ _ rfl]; exact hv
     · cases hv
   · exact cell?_alloc (h.mem b o v hv)
 · simp only [Ghost.tok, mem] at hv
   split at hv
   · rename_i e'; subst e'; exact .inr hle
   · exact h.news b o v hv
 · refine ⟨_, some w.heap.size, by simp [Ghost.tok], .inr ⟨w.heap.size, arr, e, cap, rfl, rfl, heap_alloc_new w _, hcap, hmax, hsz, fun o ho => ?_⟩⟩
   simp only [Ghost.tok, mem, if_true]
   rw [if_neg (by omega)]
 · have := (h.fresh i g b hg hb).2
   refine ⟨Below.heap_alloc w _ b this, fun o => ?_, fun e' => by simp only [Option.some.injEq] at e'; omega⟩
   simp only [Ghost.tok, mem]; rw [if_neg (by omega)]
theorem WR.tokRoom {B : Base} {G : Ghost} {H H' : List AObj} {w : World} (h : WR B G H w) {id n n' size cap b : Nat} (hup : Upd H H' id (.spare n' size)) {old arr : Array Value} {e : TypeId} {u : Value} (hobj : G.obj id = some (.tok n u (some b)))
   (hh : w.heap[b]? = some (.cells old e (0, 0))) (hu : u = .slice (some ⟨b, 0, none⟩) n cap) (hn : n ≤ n') (hcap : n' ≤ cap) (hmax : cap ≤ maxLen) (hsz : arr.size = cap * size)
   (hno : ∀ o, n * size ≤ o → G.mem b o = none) (hsame : ∀ o, o < n * size → arr[o]? = old[o]?) :
   let mem : Mem := fun b' o => if b' = b ∧ n * size ≤ o then (if o < n' * size then arr[o]? else none) else G.mem b' o
   WR B (G.tok id n' (.slice (some ⟨b, 0, none⟩) n' cap) (some b) mem) H' (w.setRow b arr) ∧ GExt G (G.tok id n' (.slice (some ⟨b, 0, none⟩) n' cap) (some b) mem) := by
 intro mem
 have hfr := h.fresh id _ b hobj rfl
 have hm : ∀ b' o v, G.mem b' o = some v → mem b' o = some v := by
   intro b' o v hv
   simp only [mem]
   rw [if_neg]
   · exact hv
   · rintro ⟨rfl, ho⟩
     rw [hno o ho] at hv; cases hv
 have hold : Older G id n' (.slice (some ⟨b, 0, none⟩) n' cap) := .inr ⟨n, u, some b, hobj, hn, fun e => by subst e; exact hu⟩
 have ext := hold.ext (some b) hm
 refine ⟨h.upd hup ext rfl (below_setRow h.below hfr.1 _) (fun b' o v hv => ?_) (fun b' o v hv => ?_) ?_ (fun i g b' hi hg hb => ?_) (by simp) (fun b' hb => by simp only [Option.some.injEq] at hb; subst hb; exact ⟨hfr.1, by simpa using hfr.2⟩) (fun c y hc => by
   have hne : c ≠ b := fun e => by subst e; rw [h.apart id _ c hobj rfl] at hc; cases hc
   refine ⟨setRow_other w b c arr hne, fun o => ?_⟩
   simp only [Ghost.tok, mem]; rw [if_neg (fun hc => hne hc.1)]) (fun b' hb => by simp only [Option.some.injEq] at hb; subst hb; exact h.apart id _ _ hobj rfl), ext⟩
 · simp only [Ghost.tok, mem] at hv
   split at hv
   · rename_i hc; obtain ⟨rfl, ho⟩ := hc
     split at hv
     · rw [cell_setRow_same w b' o old arr e _ hh]; exact hv
     · cases hv
   · rename_i hc
     have h1 := h.mem b' o v hv
     by_cases e' : b' = b
     · subst e'
       have ho : o < n * size := by
         rcases Nat.lt_or_ge o (n * size) with g | g
         · exact g
         · exact absurd ⟨rfl, g⟩ hc
       rw [cell_setRow_same w b' o old arr e _ hh, hsame o ho]
       rw [cell_of_row w b' o old e _ hh] at h1; exact h1
     · rw [cell_setRow_other w b arr _ e']; exact h1
 · simp only [Ghost.tok, mem] at hv
   split at hv
   · rename_i hc; obtain ⟨rfl, ho⟩ := hc; exact .inr hfr.1
   · exact h.news b' o v hv
 · refine ⟨_, some b, by simp [Ghost.tok], .inr ⟨b, arr, e, cap, rfl, rfl, setRow_heap w b old arr e _ hh, hcap, hmax, hsz, fun o ho => ?_⟩⟩
   have : n * size ≤ n' * size := Nat.mul_le_mul_right _ hn
   simp only [Ghost.tok, mem]
   rw [if_pos (by refine ⟨?_, by omega⟩; first | rfl | trivial), if_neg (by omega)]
 · have hne : b' ≠ b := fun e' => by subst e'; exact hi (h.sep i id g _ b' hg hobj hb rfl)
   refine ⟨setRow_other w b b' arr hne, fun o => ?_, fun e' => hne (by simpa using e'.symm)⟩
   simp only [Ghost.tok, mem]; rw [if_neg (fun hc => hne hc.1)]
end Go.Proofs.Ytcajncmjlmpkgaa

namespace Go.Proofs.Ytcajncmjlmpkgaa
open Go Go.RowKit
def srcV (tk : TK) (x : AV) : Option (List (List PV)) :=
 match tk with
 | .slice _ _ _ => elemsV x
 | .str => match x with
   | .p (.str s) => some (s.data.toList.map fun c => [.int .u8 c.toNat])
   | _ => none
 | _ => none
theorem srcV_ok {P : Program} {B : Base} {G : Ghost} {H : List AObj} {w : World} (wr : WR B G H w) {tk : TK} {x : AV} {v : Value} (r : RV G x v) {size : Nat} {xs : List (List PV)} (h : srcV tk x = some xs) (hok : okEs size xs = true) :
   ∃ news, Src P w size xs.length v news ∧ Flat G.mem size xs news := by
 unfold srcV at h
 split at h <;> try (cases h; done)
 · have rp := elemsV_ok r h
   obtain ⟨a, cap, rfl⟩ := rp.slice_len
   obtain ⟨_, _, _, vs, f, hk⟩ := rp.flat hok
   exact ⟨vs, ⟨by simp [Builtin.lenOf], firstCells_ok w wr.mem f.len hk, firstCells_ok w.drew wr.mem f.len hk⟩, f⟩
 · split at h <;> try (cases h; done)
   rename_i s
   simp only [Option.some.injEq] at h; subst h
   have e := p_str r
   subst e
   have hlen : s.data.toList.length = s.size := by rw [Array.length_toList]; rfl
   have hcells : ∀ w' : World, (Builtin.firstCells size s.size (.string s)).run P w' = .ok (s.data.toList.map fun c => Value.int .u8 c.toNat).toArray w' := by
     intro w'
     have : (s.extract 0 s.size) = s := by simp
     simp only [Builtin.firstCells, this, Sem.run_pure]
     congr 1
     apply Array.ext'; simp
   refine ⟨s.data.toList.map fun c => Value.int .u8 c.toNat, ⟨by rw [List.length_map, hlen]; rfl, ?_, ?_⟩, ⟨?_, ?_, ?_⟩⟩
   · rw [List.length_map, hlen]; exact hcells w
   · rw [List.length_map, hlen]; exact hcells w.drew
   · rcases hl : s.data.toList with _ | ⟨c, cs⟩
     · simp
     · have := (okEs_mem hok (e := [.int .u8 c.toNat]) (by rw [hl]; simp)).1
       simp at this; simp [← this]
   · intro i e j c hi hj
     rw [List.getElem?_map, Option.map_eq_some_iff] at hi
     obtain ⟨b, hb, rfl⟩ := hi
     have hs : (1 : Nat) = size := (okEs_mem hok (e := [.int .u8 b.toNat]) (List.mem_map.2 ⟨b, List.mem_of_getElem? hb, rfl⟩)).1
     cases j with
     | zero =>
       simp at hj; subst hj; subst hs
       exact ⟨_, by simp [hb], .int _ _⟩
     | succ j => simp at hj
   · intro v hv
     obtain ⟨c, _, rfl⟩ := List.mem_map.1 hv
     rfl
theorem okInt_of_str {P : Program} {t : TypeId} {ti : TI} (k : tinfo P t = some ti) {xs : List (List PV)} {x : AV} (h : srcV ti.kind x = some xs) : ∃ d, P.underlying t = some d ∧ ∀ q, d ≠ .int q := by
 obtain ⟨i, d, z, k⟩ := tinfo_ok k
 refine ⟨d, k.und, fun q e => ?_⟩
 subst e
 have := k.kind
 simp only [tkind] at this
 rw [← this] at h
 simp [srcV] at h
theorem append_grow {P : Program} {B : Base} {G : Ghost} {H H' : List AObj} {w : World} (wr : WR B G H w) {t xt ty e es eb : Nat} {ti ei : TI} (kt : tinfo P t = some ti) (kk : ti.kind = .slice e es eb) (hx : ∃ d, P.underlying xt = some d ∧ ∀ q, d ≠ .int q) (ke : tinfo P e = some ei)
   {a : Option Addr} {cap id : Nat} {l xs : List (List PV)} {xv : Value} (rl : RP G.mem (.sl l) (.slice a l.length cap)) {news : List Value} (src : Src P w es xs.length xv news) (fx : Flat G.mem es xs news)
   (okl : okEs es l = true) (okx : okEs es xs = true) (hmax : l.length + xs.length ≤ maxLen) (hb : (l.length + xs.length) * eb ≤ 140737488355328) (hgt : cap < l.length + xs.length)
   (hup : Upd H H' id (.spare (l.length + xs.length) es)) (hold : ∀ u, Older G id (l.length + xs.length) u) :
   ∃ v w' G', (Builtin.append_ #[t, xt] ty #[.slice a l.length cap, xv]).run P w = .ok v w' ∧ GExt G G' ∧ WR B G' H' w' ∧ RV G' (.tok id (l ++ xs)) v ∧ ∃ c u o m, G' = G.tok id c u o m := by
 obtain ⟨i, d, z, k⟩ := tinfo_ok kt
 obtain ⟨i', d', z', k'⟩ := tinfo_ok ke
 have hd := k.kind
 rw [kk] at hd
 cases d <;> simp only [tkind, reduceCtorEq, TK.slice.injEq] at hd
 rename_i et
 obtain ⟨he, hes, heb⟩ := hd
 subst he
 have hsize : i'.size = es := by rw [← hes]; simp [Program.cellsOf, k'.info]
 have hbytes : i'.bytes = eb := by rw [← heb]; simp [Program.bytesOf, k'.info]
 obtain ⟨_, _, _, olds, fl, hk⟩ := rl.flat okl
 have ho := firstCells_ok (P := P) w.drew wr.mem fl.len hk (len := l.length) (cap := cap)
 have hrun := run_append_grow' w t xt ty et i' z' k.und hx k'.info k'.zero (hsize ▸ src) (hsize ▸ ho) hgt (by simp only [maxLen] at hmax; omega) (by rw [hbytes]; exact growslice_fits hgt hb)
 have hge := grownCap_ge w (l.length + xs.length) cap et
 have hcm := grownCap_le_maxLen w (l.length + xs.length) cap et hmax
 have hzs : z'.cells.size = es := by rw [k'.zero_rv (G := G) |>.1, k'.zl, ← k'.size, hsize]
 have hasz : (olds ++ (news ++ (Builtin.zeroCells z'.cells (grownCap w (l.length + xs.length) cap et - (l.length + xs.length))).toList)).toArray.size = grownCap w (l.length + xs.length) cap et * es := by
   simp only [List.size_toArray, List.length_append, Array.length_toList, size_zeroCells, hzs, fl.len, fx.len, ← Nat.add_mul]
   congr 1; omega
 have wr' := wr.drew
 have g := wr'.tokGrow hup et (hold _) hge hcm hasz
 refine ⟨_, _, _, hrun, g.2, g.1, ?_, _, _, _, _, rfl⟩
 have fa := (fl.append fx).mono g.2.mem
 refine .tok (own := some w.heap.size) (RP.ofFlat fa (by rw [okEs_append, okl, okx]; rfl) (by simp) hge hcm (fun k v hv => ?_)) (Ghost.tok_obj _ _ _ _ _ _) (by rw [List.length_append]; exact Nat.le_refl _) (fun _ => rfl)
 have hlt := (List.getElem?_eq_some_iff.1 hv).1
 simp only [List.length_append, fl.len, fx.len, ← Nat.add_mul] at hlt
 simp only [Ghost.tok]
 rw [if_pos (by rfl), if_pos hlt]
 rw [List.getElem?_toArray, ← List.append_assoc, List.getElem?_append_left (by simp [fl.len, fx.len, ← Nat.add_mul]; exact hlt)]
 exact hv
theorem append_same {P : Program} {B : Base} {G : Ghost} {H H' : List AObj} {w : World} (wr : WR B G H w) {t xt ty e es eb : Nat} {ti ei : TI} (kt : tinfo P t = some ti) (kk : ti.kind = .slice e es eb) (hx : ∃ d, P.underlying xt = some d ∧ ∀ q, d ≠ .int q) (ke : tinfo P e = some ei)
   {a : Option Addr} {id : Nat} {l : List (List PV)} {xv : Value} (rl : RP G.mem (.sl l) (.slice a l.length l.length)) {news : List Value} (src : Src P w es 0 xv news) (fx : Flat G.mem es [] news)
   (hup : Upd H H' id (.spare l.length es)) (hold : Older G id l.length (.slice a l.length l.length)) :
   ∃ v w' G', (Builtin.append_ #[t, xt] ty #[.slice a l.length l.length, xv]).run P w = .ok v w' ∧ GExt G G' ∧ WR B G' H' w' ∧ RV G' (.tok id l) v ∧ ∃ c u o m, G' = G.tok id c u o m := by
 obtain ⟨i, d, z, k⟩ := tinfo_ok kt
 obtain ⟨i', d', z', k'⟩ := tinfo_ok ke
 have hd := k.kind
 rw [kk] at hd
 cases d <;> simp only [tkind, reduceCtorEq, TK.slice.injEq] at hd
 rename_i et
 obtain ⟨he, hes, heb⟩ := hd
 subst he
 have hsize : i'.size = es := by rw [← hes]; simp [Program.cellsOf, k'.info]
 subst hsize
 have hn : news = [] := List.eq_nil_of_length_eq_zero (by simpa using fx.len)
 subst hn
 have hrun := run_append_same w t xt ty et i' k.und hx k'.info (a := a) (n := l.length) src
 have g := wr.tokSame hup hold
 exact ⟨_, _, _, hrun, g.2, g.1, .tok (own := none) (rl.mono g.2.mem) (Ghost.tok_obj _ _ _ _ _ _) (Nat.le_refl _) (fun _ => rfl), _, _, _, _, rfl⟩
theorem append_room {P : Program} {B : Base} {G : Ghost} {H H' : List AObj} {w : World} (wr : WR B G H w) {t xt ty e es eb : Nat} {ti ei : TI} (kt : tinfo P t = some ti) (kk : ti.kind = .slice e es eb) (hx : ∃ d, P.underlying xt = some d ∧ ∀ q, d ≠ .int q) (ke : tinfo P e = some ei)
   {cap id b : Nat} {l xs : List (List PV)} {xv : Value} {old : Array Value} {u : Value} (rl : RP G.mem (.sl l) (.slice (some ⟨b, 0, none⟩) l.length cap)) {news : List Value} (src : Src P w es xs.length xv news) (fx : Flat G.mem es xs news)
   (okl : okEs es l = true) (okx : okEs es xs = true) (hroom : l.length + xs.length ≤ cap) (hmax : cap ≤ maxLen)
   (hup : Upd H H' id (.spare (l.length + xs.length) es)) (hobj : G.obj id = some (.tok l.length u (some b))) (hu : u = .slice (some ⟨b, 0, none⟩) l.length cap)
   (bt : TypeId) (hh : w.heap[b]? = some (.cells old bt (0, 0))) (hosz : old.size = cap * es) (hno : ∀ o, l.length * es ≤ o → G.mem b o = none) :
   ∃ v w' G', (Builtin.append_ #[t, xt] ty #[.slice (some ⟨b, 0, none⟩) l.length cap, xv]).run P w = .ok v w' ∧ GExt G G' ∧ WR B G' H' w' ∧ RV G' (.tok id (l ++ xs)) v ∧ ∃ c u o m, G' = G.tok id c u o m := by
 obtain ⟨i, d, z, k⟩ := tinfo_ok kt
 obtain ⟨i', d', z', k'⟩ := tinfo_ok ke
 have hd := k.kind
 rw [kk] at hd
 cases d <;> simp only [tkind, reduceCtorEq, TK.slice.injEq] at hd
 rename_i et
 obtain ⟨he, hes, heb⟩ := hd
 subst he
 have hsize : i'.size = es := by rw [← hes]; simp [Program.cellsOf, k'.info]
 subst hsize
 obtain ⟨_, _, _, olds, fl, hk⟩ := rl.flat okl
 have hle : (l.length + xs.length) * i'.size ≤ cap * i'.size := Nat.mul_le_mul_right _ hroom
 have hfit : l.length * i'.size + news.length ≤ old.size := by rw [fx.len, ← Nat.add_mul, hosz]; exact hle
 have hrun := run_append_room' w t xt ty et i' k.und hx k'.info hh src fx.one hroom hfit
 have g := wr.tokRoom hup (arr := (splice old.toList (l.length * i'.size) news).toArray) hobj hh hu (Nat.le_add_right _ _) hroom hmax
   (by rw [List.size_toArray, splice_length _ _ _ (by simpa using hfit), Array.length_toList]; exact hosz) hno
   (fun o ho => by rw [List.getElem?_toArray, splice_get _ _ _ (by simpa using hfit), if_neg (by omega)]; simp)
 refine ⟨_, _, _, hrun, g.2, g.1, ?_, _, _, _, _, rfl⟩
 have fa := (fl.append fx).mono g.2.mem
 refine .tok (own := some b) (RP.ofFlat fa (by rw [okEs_append, okl, okx]; rfl) (by simp) hroom hmax (fun k v hv => ?_)) (Ghost.tok_obj _ _ _ _ _ _) (by rw [List.length_append]; exact Nat.le_refl _) (fun _ => rfl)
 simp only [Ghost.tok]
 rcases Nat.lt_or_ge k olds.length with g1 | g1
 · rw [List.getElem?_append_left g1] at hv
   obtain ⟨b', o', e1, e2⟩ := hk k v hv
   simp only [Option.some.injEq, Addr.mk.injEq] at e1
   obtain ⟨rfl, rfl, _⟩ := e1
   rw [if_neg (by rw [fl.len] at g1; omega)]
   simpa using e2
 · have hlt := (List.getElem?_eq_some_iff.1 hv).1
   simp only [List.length_append, fl.len, fx.len] at hlt
   rw [fl.len] at g1
   rw [if_pos ⟨by first | rfl | trivial, g1⟩, if_pos (by rw [Nat.add_mul]; omega)]
   rw [List.getElem?_toArray, splice_get _ _ _ (by simpa using hfit), if_pos (by rw [fx.len]; omega), ← hv, List.getElem?_append_right (by rw [fl.len]; exact g1), fl.len]
end Go.Proofs.Ytcajncmjlmpkgaa

namespace Go.Proofs.Ytcajncmjlmpkgaa
open Go Go.RowKit
def need {α : Type} (x : Option α) (k : α → Prop) : Prop := match x with | some v => k v | none => False
theorem need_iff {α : Type} {x : Option α} {k : α → Prop} : need x k ↔ ∃ v, x = some v ∧ k v := by cases x <;> simp [need]
def callable (P : Program) (f : FuncId) : Bool := match P.funcs[f]? with | some fn => !(fn.name == "runtime.NumGoroutine") && fn.body.isSome | none => false
def RVL (G : Ghost) (xs : List AV) (vs : List Value) : Prop := vs.length = xs.length ∧ ∀ (i : Nat) x v, xs[i]? = some x → vs[i]? = some v → RV G x v
def Runs (P : Program) (f : FuncId) (vals : Array Value) (w : World) (Q : Ending → World → Prop) : Prop :=
 if callable P f = true then Calls P f vals w Q else ∃ v w', (callFunc f vals).run P w = .ok (.value v) w' ∧ Q (.returned v) w'
theorem Runs.mono {P : Program} {f : FuncId} {vals : Array Value} {w : World} {Q Q' : Ending → World → Prop} (h : Runs P f vals w Q) (hq : ∀ e w', Q e w' → Q' e w') : Runs P f vals w Q' := by
 unfold Runs at h ⊢
 split at h
 · rename_i hc; rw [if_pos hc]; exact h.mono hq
 · rename_i hc; rw [if_neg hc]; obtain ⟨v, w', h1, h2⟩ := h; exact ⟨v, w', h1, hq _ _ h2⟩
theorem Runs.of_calls {P : Program} {f : FuncId} {vals : Array Value} {w : World} {Q : Ending → World → Prop} (hc : callable P f = true) (h : Calls P f vals w Q) : Runs P f vals w Q := by unfold Runs; rw [if_pos hc]; exact h
theorem Runs.calls {P : Program} {f : FuncId} {vals : Array Value} {w : World} {Q : Ending → World → Prop} (hc : callable P f = true) (h : Runs P f vals w Q) : Calls P f vals w Q := by unfold Runs at h; rw [if_pos hc] at h; exact h
structure ACall (P : Program) (f : FuncId) (args : List AV) (H : List AObj) (Q : AV → List AObj → Prop) : Prop where
 run : ∀ B G w (vals : List Value), WR B G H w → RVL G args vals → Runs P f vals.toArray w fun e w' =>
   ∃ r G' H', Ends G' r e ∧ GExt G G' ∧ WR B G' H' w' ∧ Q r H'
theorem ACall.mono {P : Program} {f : FuncId} {args : List AV} {H : List AObj} {Q Q' : AV → List AObj → Prop} (h : ACall P f args H Q) (hq : ∀ r H', Q r H' → Q' r H') : ACall P f args H Q' :=
 ⟨fun B G w vals wr rv => (h.run B G w vals wr rv).mono fun _ _ ⟨r, G', H', h1, h3, h4, h5⟩ => ⟨r, G', H', h1, h3, h4, hq _ _ h5⟩⟩
def stV (H : List AObj) (ti : TI) (p : AV) (l : List AV) : Option (List AObj) :=
 match p with
 | .ref id off => match H[id]? with
   | some (.cells cs) => if l.length = ti.size ∧ off + l.length ≤ cs.length then some (H.set id (.cells (splice cs off l))) else none
   | _ => none
 | _ => none
def chunk (size : Nat) : Nat → List PV → List (List PV)
 | 0, _ => []
 | n + 1, cs => cs.take size :: chunk size n (cs.drop size)
def Nx (B : Base) (nt : NT) (G : Ghost) (K : AS → Prop) (a : Act) (w : World) : Prop := ∃ G' A', GExt G G' ∧ TR nt G' A'.T a ∧ WR B G' A'.H w ∧ K A'
def dieT (t : TypeId) (x : PV) (T : List (Nat × AV)) : List (Nat × AV) := (999998, .die t x) :: T
def Dx (B : Base) (nt : NT) (G : Ghost) (K : AS → Prop) (Q : Exit → Act → World → Prop) : Prop :=
 ∀ G' T H' t x v a w, GExt G G' → TR nt G' T a → WR B G' H' w → RP G'.mem x v → K ⟨dieT t x T, H'⟩ → Q (.panic (dieE t v)) a w
theorem Dx.ext {B : Base} {nt : NT} {G G' : Ghost} {K : AS → Prop} {Q : Exit → Act → World → Prop} (h : Dx B nt G K Q) (e : GExt G G') : Dx B nt G' K Q :=
 fun G2 T H' t x v a w e2 => h G2 T H' t x v a w (e.trans e2)
def putR (T : List (Nat × AV)) (dst : Option Nat) (r : AV) (H : List AObj) : AS :=
 match r.dead with
 | true => ⟨(999998, r) :: T, H⟩
 | false => ⟨match dst with | some d => (d, r) :: T | none => T, H⟩
def dieS (A : AS) : Bool :=
 match A.T with
 | (_, v) :: _ => v.dead
 | [] => false
theorem TR.alive {nt : NT} {G : Ghost} {A : AS} {a : Act} (h : TR nt G A.T a) : dieS A = false := by
 unfold dieS
 split
 · rename_i k v r e
   obtain ⟨u, _, hr⟩ := h.slots k v (by rw [e]; simp [look])
   exact hr.alive
 · rfl
theorem Nx.of_value {P : Program} {B : Base} {nt : NT} {G G' : Ghost} {K : AS → Prop} {T : List (Nat × AV)} {H' : List AObj} {a : Act} {w w' : World} {o : Oper} {v : Value} {x : AV} {Q : Exit → Act → World → Prop}
   (hrun : (execOp a.eval o).run P w = .ok (.value v) w') (hd : ∀ d, o.dst = some d → d < nt) (tr : TR nt G T a) (ext : GExt G G') (wr : WR B G' H' w') (rx : RV G' x v) (hk : K ⟨putT T o.dst x, H'⟩) : o.wp P a w (Nx B nt G K) Q := by
 unfold Oper.wp
 rw [hrun]
 exact ⟨G', _, ext, (tr.mono ext).put o.dst x v hd rx, wr, hk⟩
def Ghost.box (G : Ghost) (id b : Nat) : Ghost := { G with obj := fun i => if i = id then some (.box b) else G.obj i }
theorem WR.newBox' {B : Base} {G : Ghost} {H H' : List AObj} {w : World} (h : WR B G H w) {id : Nat} (arr : Array Value) (t : TypeId) (cs : List AV) (hid : G.obj id = none) (hup : Upd H H' id (.cells cs)) (hl : arr.size = cs.length)
   (hr : ∀ (i : Nat) c v, cs[i]? = some c → arr[i]? = some v → RV G c v) : WR B (G.box id w.heap.size) H' (w.alloc (.cells arr t)) ∧ GExt G (G.box id w.heap.size) ∧ ∀ j, j ≠ id → G.obj j = none → (G.box id w.heap.size).obj j = none := by
 have hne : ∀ i x, G.obj i = some x → i ≠ id := fun i x hx e => by subst e; rw [hid] at hx; cases hx
 have hext : GExt G (G.box id w.heap.size) :=
   ⟨fun _ _ _ h => h, fun i b hb => by simp only [Ghost.box]; rw [if_neg (hne _ _ hb)]; exact hb,
     fun i c u o hc => ⟨c, u, o, by simp only [Ghost.box]; rw [if_neg (hne _ _ hc)]; exact hc, Nat.le_refl _, fun _ => rfl⟩, fun i c u o k cv s hc => ⟨c, u, o, k, cv, s, by simp only [Ghost.box]; rw [if_neg (hne _ _ hc)]; exact hc, Nat.le_refl _, fun _ => rfl, Nat.le_refl _, fun _ => rfl⟩⟩
 have hle := h.below.size
 refine ⟨⟨h.below.alloc hle _, fun b o v hv => cell?_alloc (h.mem b o v hv), h.news, h.olds, fun j x hx => ?_, fun i j x y b hi hj hx hy => ?_, fun i x b hi hb => ?_, fun j hj => ?_, fun b x f hb => ?_, fun i x b hi hb => ?_⟩, hext, fun j h1 h2 => by simp [Ghost.box, h1, h2]⟩
 · by_cases e : j = id
   · subst e
     rw [hup.at_] at hx; simp only [Option.some.injEq] at hx; subst hx
     refine ⟨w.heap.size, arr, t, by simp [Ghost.box], heap_alloc_new w _, hl, fun i c v hc hv => (hr i c v hc hv).mono hext, fun o => ?_⟩
     cases hv : G.mem w.heap.size o with
     | none => exact hv
     | some v => have := cell?_lt (h.mem _ _ _ hv); simp at this
   · rw [hup.other j e] at hx
     refine (h.objs j x hx).keep hext (by simp [Ghost.box, e]) (fun g b hg hb => ?_) (fun _ _ _ _ _ => rfl)
     exact Below.heap_alloc w _ b (h.fresh j g b hg hb).2
 · simp only [Ghost.box] at hi hj
   split at hi <;> split at hj
   · omega
   · simp at hi; subst hi; simp [GO.has] at hx; subst hx
     have := (h.fresh j y _ hj hy).2; omega
   · simp at hj; subst hj; simp [GO.has] at hy; subst hy
     have := (h.fresh i x _ hi hx).2; omega
   · exact h.sep i j x y b hi hj hx hy
 · simp only [Ghost.box] at hi
   split at hi
   · simp at hi; subst hi; simp [GO.has] at hb; subst hb
     exact ⟨hle, by simp⟩
   · have := h.fresh i x b hi hb
     exact ⟨this.1, by simp; omega⟩
 · obtain ⟨h1, h2⟩ := hup.dom j hj
   simp only [Ghost.box, h2, if_false]; exact h.dom j h1
 · obtain ⟨h1, h2⟩ := h.keep b x f hb
   exact ⟨by rw [Below.heap_alloc w _ b (h.pr_lt hb)]; exact h1, h2⟩
 · simp only [Ghost.box] at hi
   split at hi
   · simp at hi; subst hi; simp [GO.has] at hb; subst hb
     exact h.pr_new
   · exact h.apart i x b hi hb
theorem alloc_ok' {P : Program} {B : Base} {G : Ghost} {H H' : List AObj} {w : World} (wr : WR B G H w) {id : Nat} {t : TypeId} {ti : TI} (k : tinfo P t = some ti) (hid : G.obj id = none) (hup : Upd H H' id (.cells ti.zero)) :
   ∃ v w' G', (Instr.alloc t true (.tuple #[])).run P w = .ok v w' ∧ GExt G G' ∧ WR B G' H' w' ∧ RV G' (.ref id 0) v ∧ ∀ j, j ≠ id → G.obj j = none → G'.obj j = none := by
 obtain ⟨i, d, z, k⟩ := tinfo_ok k
 have hz := k.zero_rv (G := G)
 have g := wr.newBox' z.cells t ti.zero hid hup hz.1 hz.2
 refine ⟨_, _, _, ?_, g.2.1, g.1, .ref (b := w.heap.size) 0 (by simp [Ghost.box]), g.2.2⟩
 simp only [Instr.alloc, Sem.run_bind, k.run_zero w, Result.andThen_ok, newVar, newRow, Sem.run_pure]
 rfl
theorem box_ok' {P : Program} {B : Base} {G : Ghost} {H H' : List AObj} {w : World} (wr : WR B G H w) {id : Nat} {t : TypeId} {x : AV} {v : Value} {l : List AV} (r : RV G x v) (h : x.cells = some l) (hid : G.obj id = none) (hup : Upd H H' id (.cells l)) :
   ∃ u w' G', (Instr.box t v).run P w = .ok u w' ∧ GExt G G' ∧ WR B G' H' w' ∧ RV G' (.ref id 0) u ∧ ∀ j, j ≠ id → G.obj j = none → G'.obj j = none := by
 obtain ⟨h1, h2, _⟩ := cells_ok r h
 have g := wr.newBox' v.cells t l hid hup h1 h2
 exact ⟨_, _, _, rfl, g.2.1, g.1, .ref (b := w.heap.size) 0 (by simp [Ghost.box]), g.2.2⟩
theorem store_ok {P : Program} {B : Base} {G : Ghost} {H H' : List AObj} {w : World} (wr : WR B G H w) {t : TypeId} {ti : TI} (k : tinfo P t = some ti) {p x : AV} {pv v : Value} {l : List AV} (rp : RV G p pv) (r : RV G x v) (h : x.cells = some l) (hs : stV H ti p l = some H') :
   ∃ w', (Instr.storeAt t pv v).run P w = .ok () w' ∧ WR B G H' w' := by
 obtain ⟨i, d, z, k⟩ := tinfo_ok k
 obtain ⟨h1, h2, h3⟩ := cells_ok r h
 unfold stV at hs
 split at hs <;> try (cases hs; done)
 rename_i id off
 split at hs <;> try (cases hs; done)
 rename_i cs hcs
 split at hs <;> try (cases hs; done)
 rename_i hc
 simp only [Option.some.injEq] at hs; subst hs
 obtain ⟨b, arr, ty, o1, o2, o3, o4, o5⟩ := wr.objs id _ hcs
 cases rp with
 | @ref _ b' _ hb =>
   rw [o1] at hb; simp only [Option.some.injEq, GO.box.injEq] at hb; subst hb
   have hlen : v.cells.toList.length = l.length := by simpa using h1
   have hfit : off + v.cells.toList.length ≤ arr.toList.length := by
     have e1 : arr.toList.length = cs.length := by simpa using o3
     rw [hlen, e1]; exact hc.2
   have hst := run_storeCells_at P b off ty v.cells.toList 0 arr w o2 (by simpa using hfit) h3
   refine ⟨_, ?_, wr.store (cs' := splice cs off l) (arr := (splice arr.toList off v.cells.toList).toArray) hcs o1 o2 o5 ?_ ?_⟩
   · simp only [Instr.storeAt, Instr.sureAddr, Sem.run_bind, Sem.run_pure, Result.andThen_ok, storeVar, k.run_size w]
     rw [if_neg (by rw [h1, hc.1]; simp)]
     simp only [Nat.add_zero] at hst
     exact hst
   · rw [List.size_toArray, splice_length _ _ _ hfit, splice_length _ _ _ hc.2, Array.length_toList, o3]
   · intro j c u hj hu
     rw [splice_get _ _ _ hc.2] at hj
     rw [List.getElem?_toArray, splice_get _ _ _ hfit, hlen] at hu
     by_cases g : off ≤ j ∧ j < off + l.length
     · rw [if_pos g] at hj hu
       exact h2 _ c u hj (by simpa using hu)
     · rw [if_neg g] at hj hu
       exact o4 j c u hj (by simpa using hu)
theorem append_tokS {P : Program} {B : Base} {G : Ghost} {H : List AObj} {w : World} (wr : WR B G H w) {t xt ty e es eb : Nat} {ti ei : TI} (kt : tinfo P t = some ti) (kk : ti.kind = .slice e es eb) (hx : ∃ d, P.underlying xt = some d ∧ ∀ q, d ≠ .int q) (ke : tinfo P e = some ei)
   {id : Nat} {l xs : List (List PV)} {sv xv : Value} (rs : RV G (.tok id l) sv) {news : List Value} (src : Src P w es xs.length xv news) (fx : Flat G.mem es xs news) (hH : H[id]? = some (.spare l.length es)) (okl : okEs es l = true) (okx : okEs es xs = true) (hmax : l.length + xs.length ≤ maxLen) (hb : (l.length + xs.length) * eb ≤ 140737488355328) :
   ∃ v w' G', (Builtin.append_ #[t, xt] ty #[sv, xv]).run P w = .ok v w' ∧ GExt G G' ∧ WR B G' (H.set id (.spare (l.length + xs.length) es)) w' ∧ RV G' (.tok id (l ++ xs)) v ∧ ∀ j, G.obj j = none → G'.obj j = none := by
 cases rs with
 | @tok _ c _ u _ own hp ho hle he =>
   obtain ⟨u', own', o1, o2⟩ := wr.objs id _ hH
   have keep : ∀ (c : Nat) (u : Value) (o : Option Nat) (m : Mem) (j : Nat), G.obj j = none → (G.tok id c u o m).obj j = none := by
     intro c u o m j hj
     have : j ≠ id := fun e => by subst e; rw [o1] at hj; cases hj
     simp [Ghost.tok, this, hj]
   rw [o1] at ho; simp only [Option.some.injEq, GO.tok.injEq] at ho
   obtain ⟨rfl, rfl, rfl⟩ := ho
   have hu := he rfl
   subst hu
   have hup := Upd.set hH (.spare (l.length + xs.length) es)
   rcases o2 with ⟨rfl, ad, rfl⟩ | ⟨b, arr, bt, cap, rfl, rfl, o3, o4, o5, o6, o7⟩
   · by_cases hz : xs = []
     · subst hz
       obtain ⟨v, w', G', r1, r2, r3, r4, r5⟩ := append_same (ty := ty) wr kt kk hx ke hp src fx (by simpa using hup) (.inr ⟨_, _, _, o1, Nat.le_refl _, fun _ => rfl⟩)
       exact ⟨v, w', G', r1, r2, by simpa using r3, by simpa using r4, fun j hj => by obtain ⟨c, u, o, m, rfl⟩ := r5; exact keep _ _ _ _ j hj⟩
     · have : 0 < xs.length := List.length_pos_iff.2 hz
       obtain ⟨v, w', G', r1, r2, r3, r4, r5⟩ := append_grow (ty := ty) wr kt kk hx ke hp src fx okl okx hmax hb (by omega) hup (fun u => .inr ⟨_, _, _, o1, by omega, fun e => by omega⟩)
       exact ⟨v, w', G', r1, r2, r3, r4, fun j hj => by obtain ⟨c, u, o, m, rfl⟩ := r5; exact keep _ _ _ _ j hj⟩
   · by_cases hroom : l.length + xs.length ≤ cap
     · obtain ⟨v, w', G', r1, r2, r3, r4, r5⟩ := append_room (ty := ty) wr kt kk hx ke hp src fx okl okx hroom o5 hup o1 rfl bt o3 o6 o7
       exact ⟨v, w', G', r1, r2, r3, r4, fun j hj => by obtain ⟨c, u, o, m, rfl⟩ := r5; exact keep _ _ _ _ j hj⟩
     · have hne : xs ≠ [] := fun e => by subst e; simp at hroom; omega
       have : 0 < xs.length := List.length_pos_iff.2 hne
       obtain ⟨v, w', G', r1, r2, r3, r4, r5⟩ := append_grow (ty := ty) wr kt kk hx ke hp src fx okl okx hmax hb (by omega) hup (fun u => .inr ⟨_, _, _, o1, by omega, fun e => by omega⟩)
       exact ⟨v, w', G', r1, r2, r3, r4, fun j hj => by obtain ⟨c, u, o, m, rfl⟩ := r5; exact keep _ _ _ _ j hj⟩
theorem append_fullS {P : Program} {B : Base} {G : Ghost} {H H' : List AObj} {w : World} (wr : WR B G H w) {t xt ty e es eb : Nat} {ti ei : TI} (kt : tinfo P t = some ti) (kk : ti.kind = .slice e es eb) (hx : ∃ d, P.underlying xt = some d ∧ ∀ q, d ≠ .int q) (ke : tinfo P e = some ei)
   {id : Nat} {l xs : List (List PV)} {sv xv : Value} (rs : RV G (.full l) sv) {news : List Value} (src : Src P w es xs.length xv news) (fx : Flat G.mem es xs news) (hid : G.obj id = none) (hup : Upd H H' id (.spare (l.length + xs.length) es)) (okl : okEs es l = true) (okx : okEs es xs = true) (hmax : l.length + xs.length ≤ maxLen) (hb : (l.length + xs.length) * eb ≤ 140737488355328) :
   ∃ v w' G', (Builtin.append_ #[t, xt] ty #[sv, xv]).run P w = .ok v w' ∧ GExt G G' ∧ WR B G' H' w' ∧ RV G' (.tok id (l ++ xs)) v ∧ ∀ j, j ≠ id → G.obj j = none → G'.obj j = none := by
 have keep : ∀ (c : Nat) (u : Value) (o : Option Nat) (m : Mem) (j : Nat), j ≠ id → G.obj j = none → (G.tok id c u o m).obj j = none := by
   intro c u o m j h hj
   simp [Ghost.tok, h, hj]
 cases rs with
 | @full _ ad n hp =>
   have hn : n = l.length := by obtain ⟨a', cap', e'⟩ := hp.slice_len; simp only [Value.slice.injEq] at e'; exact e'.2.1
   subst hn
   by_cases hz : xs = []
   · subst hz
     obtain ⟨v, w', G', r1, r2, r3, r4, r5⟩ := append_same (ty := ty) wr kt kk hx ke hp src fx (by simpa using hup) (.inl hid)
     exact ⟨v, w', G', r1, r2, r3, by simpa using r4, fun j h hj => by obtain ⟨c, u, o, m, rfl⟩ := r5; exact keep _ _ _ _ j h hj⟩
   · have : 0 < xs.length := List.length_pos_iff.2 hz
     obtain ⟨v, w', G', r1, r2, r3, r4, r5⟩ := append_grow (ty := ty) wr kt kk hx ke hp src fx okl okx hmax hb (by omega) hup (fun u => .inl hid)
     exact ⟨v, w', G', r1, r2, r3, r4, fun j h hj => by obtain ⟨c, u, o, m, rfl⟩ := r5; exact keep _ _ _ _ j h hj⟩
theorem append_tok_ok {P : Program} {B : Base} {G : Ghost} {H : List AObj} {w : World} (wr : WR B G H w) {t xt ty e es eb : Nat} {ti xi ei : TI} (kt : tinfo P t = some ti) (kk : ti.kind = .slice e es eb) (kx : tinfo P xt = some xi) (ke : tinfo P e = some ei)
   {id : Nat} {l xs : List (List PV)} {x : AV} {sv xv : Value} (rs : RV G (.tok id l) sv) (rx : RV G x xv) (hsrc : srcV xi.kind x = some xs) (hH : H[id]? = some (.spare l.length es)) (okl : okEs es l = true) (okx : okEs es xs = true) (hmax : l.length + xs.length ≤ maxLen) (hb : (l.length + xs.length) * eb ≤ 140737488355328) :
   ∃ v w' G', (Builtin.append_ #[t, xt] ty #[sv, xv]).run P w = .ok v w' ∧ GExt G G' ∧ WR B G' (H.set id (.spare (l.length + xs.length) es)) w' ∧ RV G' (.tok id (l ++ xs)) v ∧ ∀ j, G.obj j = none → G'.obj j = none :=
 let ⟨_, src, fx⟩ := srcV_ok (P := P) wr rx hsrc okx
 append_tokS wr kt kk (okInt_of_str kx hsrc) ke rs src fx hH okl okx hmax hb
theorem append_full_ok {P : Program} {B : Base} {G : Ghost} {H H' : List AObj} {w : World} (wr : WR B G H w) {t xt ty e es eb : Nat} {ti xi ei : TI} (kt : tinfo P t = some ti) (kk : ti.kind = .slice e es eb) (kx : tinfo P xt = some xi) (ke : tinfo P e = some ei)
   {id : Nat} {l xs : List (List PV)} {x : AV} {sv xv : Value} (rs : RV G (.full l) sv) (rx : RV G x xv) (hsrc : srcV xi.kind x = some xs) (hid : G.obj id = none) (hup : Upd H H' id (.spare (l.length + xs.length) es)) (okl : okEs es l = true) (okx : okEs es xs = true) (hmax : l.length + xs.length ≤ maxLen) (hb : (l.length + xs.length) * eb ≤ 140737488355328) :
   ∃ v w' G', (Builtin.append_ #[t, xt] ty #[sv, xv]).run P w = .ok v w' ∧ GExt G G' ∧ WR B G' H' w' ∧ RV G' (.tok id (l ++ xs)) v ∧ ∀ j, j ≠ id → G.obj j = none → G'.obj j = none :=
 let ⟨_, src, fx⟩ := srcV_ok (P := P) wr rx hsrc okx
 append_fullS wr kt kk (okInt_of_str kx hsrc) ke rs src fx hid hup okl okx hmax hb
end Go.Proofs.Ytcajncmjlmpkgaa

namespace Go.Proofs.Ytcajncmjlmpkgaa
open Go Go.RowKit
theorem flatten_rep {α : Type} (zs : List α) : ∀ (n j : Nat), j < n * zs.length → (List.replicate n zs).flatten[j]? = zs[j % zs.length]? := by
 intro n
 induction n with
 | zero => intro j h; simp at h
 | succ n ih =>
   intro j h
   rw [List.replicate_succ, List.flatten_cons]
   by_cases g : j < zs.length
   · rw [List.getElem?_append_left g, Nat.mod_eq_of_lt g]
   · rw [List.getElem?_append_right (by omega), ih _ (by rw [Nat.add_mul] at h; omega)]
     congr 1
     exact (Nat.mod_eq_sub_mod (by omega)).symm
theorem chunk_get {size : Nat} : ∀ (n : Nat) (ps : List PV) (i : Nat) (e : List PV), (chunk size n ps)[i]? = some e → i < n ∧ e = (ps.drop (i * size)).take size := by
 intro n
 induction n with
 | zero => intro ps i e h; simp [chunk] at h
 | succ n ih =>
   intro ps i e h
   simp only [chunk] at h
   cases i with
   | zero => simp at h; subst h; simp
   | succ i =>
     simp only [List.getElem?_cons_succ] at h
     obtain ⟨h1, h2⟩ := ih _ i e h
     refine ⟨by omega, ?_⟩
     rw [h2, List.drop_drop]; congr 2; rw [Nat.add_mul]; omega
theorem chunk_length {size : Nat} : ∀ (n : Nat) (ps : List PV), (chunk size n ps).length = n := by
 intro n
 induction n with
 | zero => intro ps; rfl
 | succ n ih => intro ps; simp [chunk, ih]
theorem buildSlice_ok {P : Program} {B : Base} {G : Ghost} {H : List AObj} {w : World} (wr : WR B G H w) {t e es eb n : Nat} {ti ei : TI} (kt : tinfo P t = some ti) (kk : ti.kind = .slice e es eb) (ke : tinfo P e = some ei) {l : List (Nat × AV)} {vs : Array (Nat × Value)} {cs : List AV} {ps : List PV}
   (hl : l.length = vs.size) (hp : ∀ (j : Nat) p v, l[j]? = some p → vs[j]? = some v → p.1 = v.1 ∧ RV G p.2 v.2) (hf : fillV (fun i => some (i * es, es)) (List.replicate n ei.zero).flatten l = some cs) (hpure : cs.mapM AV.pure1 = some ps)
   (h24 : n * es ≤ 16777216) (hes : es ≠ 0) (hsz : ei.size = es) (hmax : n ≤ maxLen) :
   ∃ v w' G', (Instr.buildSlice t n vs).run P w = .ok v w' ∧ GExt G G' ∧ WR B G' H w' ∧ RV G' (.full (chunk es n ps)) v ∧ G'.obj = G.obj := by
 obtain ⟨i, d, z, k⟩ := tinfo_ok kt
 obtain ⟨i', d', z', k'⟩ := tinfo_ok ke
 have hd := k.kind
 rw [kk] at hd
 cases d <;> simp only [tkind, reduceCtorEq, TK.slice.injEq] at hd
 rename_i et
 obtain ⟨he, hes', heb⟩ := hd
 subst he
 have hz := k'.zero_rv (G := G)
 have hzl : ei.zero.length = es := by rw [k'.zl, hsz]
 have hzs : z'.cells.size = es := by rw [hz.1, hzl]
 let cells0 : Array Value := (Array.range (n * es)).map (fun j => (if n * es = 0 then (#[] : Array Value) else z'.cells)[j % (if n * es = 0 then (#[] : Array Value) else z'.cells).size]!)
 have hflen : (List.replicate n ei.zero).flatten.length = n * es := by simp [hzl]
 obtain ⟨out, ho, hos, hor⟩ := fillV_ok (G := G) (fun i => some (i * es, es)) l vs.toList _ cs cells0 (by simpa using hl) (fun j p v h1 h2 => hp j p v h1 (by simpa using h2)) (by rw [hflen]; simp [cells0]) (fun j c v hc hv => by
   have hlt : j < n * es := by rw [← hflen]; exact (List.getElem?_eq_some_iff.1 hc).1
   rw [flatten_rep _ _ _ (by rw [hzl]; exact hlt), hzl] at hc
   have hne : ¬ n * es = 0 := by omega
   have hm : j % es < z'.cells.size := by rw [hzs]; exact Nat.mod_lt _ (by omega)
   have hv' : v = z'.cells[j % es] := by
     simp only [cells0, if_neg hne, hzs] at hv
     simp [hlt] at hv
     rw [← hv]; simp [getElem!_pos, hm]
   subst hv'
   exact hz.2 _ c _ hc (by simp [hm])) hf
 have g := wr.newMem out et
 obtain ⟨p1, p2⟩ := mapM_get hpure
 have hcl : cs.length = n * es := by
   have : ∀ (l : List (Nat × AV)) (c r : List AV), fillV (fun i => some (i * es, es)) c l = some r → r.length = c.length := by
     intro l
     induction l with
     | nil => intro c r h; simp only [fillV, Option.some.injEq] at h; subst h; rfl
     | cons x l ih =>
       intro c r h
       obtain ⟨i, x⟩ := x
       simp only [fillV] at h
       split at h <;> try (cases h; done)
       rename_i h1 h2
       split at h <;> try (cases h; done)
       rename_i hc
       simp only [Option.some.injEq, Prod.mk.injEq] at h1
       rw [ih _ _ h, splice_length _ _ _ (by omega)]
   rw [this _ _ _ hf, hflen]
 refine ⟨.slice (some ⟨w.heap.size, 0, none⟩) n n, _, _, ?_, g.2, g.1, .full ?_, rfl⟩
 · have hsize : (sizeOf et).run P w = .ok es w := by rw [k'.run_size w, hsz]
   simp only [Instr.buildSlice, Sem.run_bind, k.run_und w, Result.andThen_ok, hsize]
   rw [if_neg (by omega)]
   split
   · rename_i h0
     have ho' := ho
     simp only [cells0, h0, if_true] at ho'
     simp only [h0, Sem.run_bind, Sem.run_pure, Result.andThen_ok, ho', newRow]
     rfl
   · rename_i h0
     have ho' := ho
     simp only [cells0, h0, if_false] at ho'
     simp only [Sem.run_bind, k'.run_zero w, Sem.run_pure, Result.andThen_ok, ho', newRow]
     rfl
 · refine .sl _ es w.heap.size 0 n n (fun i j => (out[i * es + j]?).getD undef) (chunk_length _ _) (Nat.le_refl _) hmax (fun x hx => ?_) (fun i x j hi hj => ?_) (fun i x j c hi hj => ?_)
   · obtain ⟨i, hi⟩ := List.getElem?_of_mem hx
     obtain ⟨h1, rfl⟩ := chunk_get n ps i x hi
     have : (i + 1) * es ≤ n * es := Nat.mul_le_mul_right _ h1
     rw [Nat.add_mul] at this
     simp; omega
   · obtain ⟨h1, rfl⟩ := chunk_get n ps i x hi
     have : (i + 1) * es ≤ n * es := Nat.mul_le_mul_right _ h1
     rw [Nat.add_mul] at this
     simp at hj
     have hlt : i * es + j < out.size := by rw [hos, hcl]; omega
     simp [hlt]
   · obtain ⟨h1, rfl⟩ := chunk_get n ps i x hi
     rw [List.getElem?_take] at hj
     split at hj <;> try (cases hj; done)
     rename_i hje
     rw [List.getElem?_drop] at hj
     have hlt : i * es + j < ps.length := (List.getElem?_eq_some_iff.1 hj).1
     have hlt' : i * es + j < cs.length := by omega
     have hlo : i * es + j < out.size := by omega
     have hcs : cs[i * es + j]? = some (cs[i * es + j]) := List.getElem?_eq_getElem hlt'
     have r := hor _ _ _ hcs (Array.getElem?_eq_getElem hlo)
     have := pure1_ok r (p2 _ _ _ hcs hj)
     simp only [Array.getElem?_eq_getElem hlo, Option.getD_some]
     exact this.mono g.2.mem
def FnR (G : Ghost) (k : FuncId) (caps : List AV) (v : Value) : Prop := ∃ cvs : Array Value, v = .func (.func k) #[] cvs ∧ cvs.size = caps.length ∧ ∀ (i : Nat) c u, caps[i]? = some c → cvs[i]? = some u → RV G c u
theorem FnR.of_fn {G : Ghost} {k : FuncId} {caps : List AV} {v : Value} (h : RV G (.fn k caps) v) : FnR G k caps v := by cases h with | fn hl hr => exact ⟨_, rfl, hl, hr⟩
theorem FnR.of_p {G : Ghost} {k : FuncId} {cs : List PV} {v : Value} (h : RV G (.p (.fn k cs)) v) : FnR G k (cs.map .p) v := by
 cases h with
 | p hp =>
   cases hp with
   | fn _ _ vs hl hr =>
     refine ⟨vs, rfl, by rw [List.length_map]; exact hl, fun i c u hc hu => ?_⟩
     rw [List.getElem?_map, Option.map_eq_some_iff] at hc
     obtain ⟨y, hy, rfl⟩ := hc
     exact .p (hr i y u hy hu)
theorem wp_call {P : Program} {a : Act} {w : World} {o : Oper} {f : Operand} {args : Array Operand} {ats : Array TypeId} {k : FuncId} {cvs : Array Value} (ho : o.op = .call { callee := .value f, args := args, argTypes := ats }) (hfv : a.eval f = .func (.func k) #[] cvs)
   {R : Ending → World → Prop} (h : Runs P k (args.map a.eval ++ cvs) w R) {N : Act → World → Prop} {Q : Exit → Act → World → Prop} (hq : ∀ e w', R e w' → (∃ v, e = .returned v ∧ N (a.put o.dst v) w') ∨ ∃ c, e = .panicked c ∧ Q (.panic c) a w') : o.wp P a w N Q := by
 unfold Oper.wp
 by_cases hcal : callable P k = true
 · have hc := h.calls hcal
   unfold callable at hcal
   split at hcal <;> try (cases hcal; done)
   rename_i fn hfn
   simp only [Bool.and_eq_true, Bool.not_eq_true', Option.isSome_iff_exists] at hcal
   obtain ⟨hname, body, hbody⟩ := hcal
   have hrun : (execOp a.eval o).run P w = .ok (.enter k (args.map a.eval ++ cvs)) w := by
     simp only [execOp, ho, resolve, hfv, Deferred.ofValue, Sem.run_bind, Sem.run_pure, Result.andThen_ok, invoke, callFunc, program, Sem.run, hfn, hname, Bool.false_eq_true, if_false, hbody, Option.isNone]
     simp
   rw [hrun]
   show Calls P k (args.map a.eval ++ cvs) w _
   refine hc.mono fun en w' hr => ?_
   rcases hq _ _ hr with ⟨v, rfl, h2⟩ | ⟨c, rfl, h2⟩
   · exact h2
   · exact h2
 · unfold Runs at h
   rw [if_neg hcal] at h
   obtain ⟨v, w', hr, h2⟩ := h
   have hrun : (execOp a.eval o).run P w = .ok (.value v) w' := by
     rw [← hr]
     simp only [execOp, ho, resolve, hfv, Deferred.ofValue, Sem.run_bind, Sem.run_pure, Result.andThen_ok, invoke]
     simp
   rw [hrun]
   rcases hq _ _ h2 with ⟨v', e, h3⟩ | ⟨c, e, _⟩
   · simp only [Ending.returned.injEq] at e; subst e
     exact h3
   · cases e
theorem call_ok {P : Program} {nt : NT} {B : Base} {G : Ghost} {T : List (Nat × AV)} {H : List AObj} {a : Act} {w : World} (tr : TR nt G T a) (wr : WR B G H w) {o : Oper} {f : Operand} {args : Array Operand} {ats : Array TypeId} (ho : o.op = .call { callee := .value f, args := args, argTypes := ats })
   (hd : ∀ d, o.dst = some d → d < nt) {k : FuncId} {caps vs : List AV} (rf : FnR G k caps (a.eval f)) (hv : args.toList.mapM (ev T) = some vs) {K : AS → Prop} (h : ACall P k (vs ++ caps) H fun r H' => K (putR T o.dst r H')) (Q : Exit → Act → World → Prop) (hx : Dx B nt G K Q) : o.wp P a w (Nx B nt G K) Q := by
 obtain ⟨cvs, hfv, hl, hr⟩ := rf
 · obtain ⟨h1, h2⟩ := mapM_get hv
   have h1' : args.size = vs.length := by simpa using h1
   have hargs : RVL G (vs ++ caps) ((args.map a.eval).toList ++ cvs.toList) := by
     refine ⟨by simp; omega, fun i x v hx hv => ?_⟩
     rcases Nat.lt_or_ge i vs.length with g | g
     · rw [List.getElem?_append_left g] at hx
       rw [List.getElem?_append_left (by simp; omega)] at hv
       simp only [Array.toList_map, List.getElem?_map, Option.map_eq_some_iff] at hv
       obtain ⟨q, hq, rfl⟩ := hv
       exact ev_ok tr (h2 i q x hq hx)
     · rw [List.getElem?_append_right g] at hx
       rw [List.getElem?_append_right (by simp; omega)] at hv
       refine hr _ x v hx ?_
       rw [← hv]; simp; congr 1; omega
   have hc := h.run B G w _ wr hargs
   have e : (args.map a.eval ++ cvs) = ((args.map a.eval).toList ++ cvs.toList).toArray := by apply Array.ext'; simp
   rw [← e] at hc
   refine wp_call ho hfv hc fun en w' ⟨r, G', H', e1, e3, e4, e5⟩ => ?_
   cases e1 with
   | @ret _ v hr =>
     have e6 : putR T o.dst r H' = ⟨putT T o.dst r, H'⟩ := by unfold putR; rw [hr.alive]; cases o.dst <;> rfl
     rw [e6] at e5
     exact .inl ⟨v, rfl, G', _, e3, (tr.mono e3).put o.dst r v hd hr, e4, e5⟩
   | die hp => exact .inr ⟨_, rfl, hx G' T H' _ _ _ a w' e3 (tr.mono e3) e4 hp e5⟩
theorem call_alive {P : Program} {nt : NT} {B : Base} {G : Ghost} {T : List (Nat × AV)} {H : List AObj} {a : Act} {w : World} (tr : TR nt G T a) (wr : WR B G H w) {o : Oper} {f : Operand} {args : Array Operand} {ats : Array TypeId} (ho : o.op = .call { callee := .value f, args := args, argTypes := ats })
   (hd : ∀ d, o.dst = some d → d < nt) {k : FuncId} {caps vs : List AV} (rf : FnR G k caps (a.eval f)) (hv : args.toList.mapM (ev T) = some vs) {K : AS → Prop} (h : ACall P k (vs ++ caps) H fun r H' => r.dead = false ∧ K ⟨putT T o.dst r, H'⟩) (Q : Exit → Act → World → Prop) : o.wp P a w (Nx B nt G K) Q := by
 refine Oper.wp_mono (fun a' w' ⟨G', A', e1, e2, e3, e4⟩ => ⟨G', A', e1, e2, e3, e4.2⟩) (call_ok (K := fun A => dieS A = false ∧ K A) tr wr ho hd rf hv (h.mono fun r H' ⟨h1, h2⟩ => ?_) Q (fun G' T H' t x v a w _ _ _ _ hk => absurd hk.1 nofun))
 have e : putR T o.dst r H' = ⟨putT T o.dst r, H'⟩ := by unfold putR; rw [h1]; cases o.dst <;> rfl
 rw [e]
 refine ⟨?_, h2⟩
 cases hdd : o.dst with
 | none => exact TR.alive (A := ⟨T, H'⟩) tr
 | some d =>
   exact h1
end Go.Proofs.Ytcajncmjlmpkgaa

namespace Go.Proofs.Ytcajncmjlmpkgaa
open Go Go.RowKit
def guardV (ops : List Oper) (T : List (Nat × AV)) (j : Nat) : Option Bool :=
 match ((ops[j]?).bind (·.dst)).bind (look T) with
 | some (.p (.bool b)) => some b
 | _ => none
def dstOf (ops : List Oper) (j : Nat) : Option Nat := (ops[j]?).bind (·.dst)
def br (b want : Bool) (X Y : Prop) : Prop := (b = want → X) ∧ (b = (!want) → Y)
theorem br_congr {b b' want : Bool} {X Y : Prop} (h : b = b') : br b want X Y = br b' want X Y := by rw [h]
attribute [congr] br_congr
def dstOk (nt : NT) (ops : List Oper) : Bool := ops.all fun o => match o.dst with | some d => decide (d < nt) | none => true
theorem guard_ok {nt : NT} {G : Ghost} {T : List (Nat × AV)} {a : Act} (tr : TR nt G T a) {ops : Array Oper} {j : Nat} {b : Bool} (h : guardV ops.toList T j = some b) : yielded ops a.tmps j = some b := by
 unfold guardV at h
 split at h <;> try (cases h; done)
 rename_i b' hb
 simp only [Option.some.injEq] at h; subst h
 rw [Option.bind_eq_some_iff] at hb
 obtain ⟨t, ht, hl⟩ := hb
 obtain ⟨v, h1, h2⟩ := tr.slots t _ hl
 have := p_bool h2
 subst this
 have ht' : (ops[j]?).bind (·.dst) = some t := by simpa using ht
 unfold yielded
 rw [ht']
 simp only [Option.bind_some, h1]
inductive ExR (nt : NT) (G : Ghost) : AS → Exit → Exit → Act → Prop
 | go {A : AS} {e : Exit} {a : Act} (he : ∀ c, e ≠ .panic c) (tr : TR nt G A.T a) : ExR nt G A e e a
 | die {T : List (Nat × AV)} {H : List AObj} {t : TypeId} {x : PV} {v : Value} {a : Act} (tr : TR nt G T a) (rp : RP G.mem x v) : ExR nt G ⟨dieT t x T, H⟩ (.panic []) (.panic (dieE t v)) a
def Po (B : Base) (nt : NT) (G : Ghost) (Q : Exit → AS → Prop) (e : Exit) (a : Act) (w : World) : Prop := ∃ G' A' e', GExt G G' ∧ ExR nt G' A' e' e a ∧ WR B G' A'.H w ∧ Q e' A'
theorem Po.go {B : Base} {nt : NT} {G G' : Ghost} {Q : Exit → AS → Prop} {e : Exit} {a : Act} {w : World} {A : AS} (he : ∀ c, e ≠ .panic c) (h1 : GExt G G') (h2 : TR nt G' A.T a) (h3 : WR B G' A.H w) (h4 : Q e A) : Po B nt G Q e a w := ⟨G', A, e, h1, .go he h2, h3, h4⟩
theorem Po.pre {B : Base} {nt : NT} {G G' : Ghost} {Q : Exit → AS → Prop} {e : Exit} {a : Act} {w : World} (h : GExt G G') (p : Po B nt G' Q e a w) : Po B nt G Q e a w :=
 let ⟨G2, A, e', h1, h2, h3, h4⟩ := p; ⟨G2, A, e', h.trans h1, h2, h3, h4⟩
theorem Po.mono {B : Base} {nt : NT} {G : Ghost} {Q Q' : Exit → AS → Prop} {e : Exit} {a : Act} {w : World} (p : Po B nt G Q e a w) (hq : ∀ e A, Q e A → Q' e A) : Po B nt G Q' e a w :=
 let ⟨G2, A, e', h1, h2, h3, h4⟩ := p; ⟨G2, A, e', h1, h2, h3, hq _ _ h4⟩
def Wp (P : Program) (nt : NT) (c : Code) (Q : Exit → AS → Prop) (A : AS) : Prop :=
 ∀ B G a w, TR nt G A.T a → WR B G A.H w → c.wp P (Po B nt G Q) a w
def Th (K : AS → Prop) (Q : Exit → AS → Prop) : Exit → AS → Prop
 | .normal, A => K A
 | e, A => Q e A
def Bl (id : Nat) (Q : Exit → AS → Prop) : Exit → AS → Prop
 | .exit i, A => if i = id then Q .normal A else Q (.exit i) A
 | e, A => Q e A
section
variable {P : Program} {nt : NT} {Q : Exit → AS → Prop} {A : AS}
theorem Wp.mono {c : Code} {Q' : Exit → AS → Prop} (h : Wp P nt c Q A) (hq : ∀ e A', Q e A' → Q' e A') : Wp P nt c Q' A :=
 fun B G a w tr wr => wp_mono (h B G a w tr wr) fun _ _ _ p => p.mono hq
theorem Wp.skip (h : Q .normal A) : Wp P nt .skip Q A := fun _ G _ _ tr wr => wp_skip (Po.go (fun _ => nofun) (GExt.refl G) tr wr h)
theorem Wp.ret (h : Q .ret A) : Wp P nt .ret Q A := fun _ G _ _ tr wr => wp_ret (Po.go (fun _ => nofun) (GExt.refl G) tr wr h)
theorem Wp.exit {id : Nat} (h : Q (.exit id) A) : Wp P nt (.exit id) Q A := fun _ G _ _ tr wr => wp_exit (Po.go (fun _ => nofun) (GExt.refl G) tr wr h)
theorem Wp.seq {x y : Code} (h : ∀ K : AS → Prop, (∀ A', Wp P nt y Q A' → K A') → Wp P nt x (Th K Q) A) : Wp P nt (.seq x y) Q A := by
 intro B G a w tr wr
 refine wp_seq (wp_mono (h (fun A' => Wp P nt y Q A') (fun _ h => h) B G a w tr wr) ?_)
 rintro e a' w' ⟨G', A', e', h1, h2, h3, h4⟩
 cases h2 with
 | go he tr =>
   cases e with
   | normal => exact wp_mono (h4 B G' a' w' tr h3) fun _ _ _ p => p.pre h1
   | panic c => exact absurd rfl (he c)
   | _ => exact Po.go (fun _ => nofun) h1 tr h3 h4
 | die tr rp => exact ⟨G', _, _, h1, .die tr rp, h3, h4⟩
theorem Wp.seq' {x y : Code} (h : Wp P nt x (Th (fun A' => Wp P nt y Q A') Q) A) : Wp P nt (.seq x y) Q A :=
 Wp.seq fun _ hK => h.mono fun e A' hq => by cases e <;> first | exact hK _ hq | exact hq
theorem Wp.congr {c : Code} {A A' : AS} (h : A = A') : Wp P nt c Q A = Wp P nt c Q A' := by rw [h]
attribute [congr] Wp.congr
theorem Wp.cond {c : Operand} {x y : Code} {b : Bool} (hc : ev A.T c = some (.p (.bool b))) (ht : b = true → Wp P nt x Q A) (hf : b = false → Wp P nt y Q A) : Wp P nt (.cond c x y) Q A := by
 intro B G a w tr wr
 exact wp_cond_split (p_bool (ev_ok tr hc)) (fun e => ht e B G a w tr wr) (fun e => hf e B G a w tr wr)
theorem Wp.block {id : Nat} {c : Code} (h : Wp P nt c (Bl id Q) A) : Wp P nt (.block id c) Q A := by
 intro B G a w tr wr
 refine wp_block (wp_mono (h B G a w tr wr) ?_)
 rintro e a' w' ⟨G', A', e', h1, h2, h3, h4⟩
 cases h2 with
 | go he tr =>
   cases e with
   | exit i =>
     simp only [Bl] at h4
     simp only [Exit.inBlock]
     split at h4
     · rename_i e; rw [if_pos e]; exact Po.go (fun _ => nofun) h1 tr h3 h4
     · rename_i e; rw [if_neg e]; exact Po.go (fun _ => nofun) h1 tr h3 h4
   | panic c => exact absurd rfl (he c)
   | _ => exact Po.go (fun _ => nofun) h1 tr h3 h4
 | die tr rp => exact ⟨G', _, _, h1, .die tr rp, h3, h4⟩
def subT (T T' : List (Nat × AV)) : Prop := ∀ t x, look T' t = some x → look T t = some x
theorem Wp.sub {c : Code} {T : List (Nat × AV)} (hs : subT A.T T) (h : Wp P nt c Q ⟨T, A.H⟩) : Wp P nt c Q A :=
 fun B G a w tr wr => h B G a w ⟨tr.size, tr.defers, fun t x hx => tr.slots t x (hs t x hx)⟩ wr
theorem Wp.loop {ι : Type} {c : Code} (inv : ι → AS) (ok : ι → Prop) (μ : ι → Nat) (i₀ : ι) (h0 : ok i₀) (hT : subT A.T (inv i₀).T) (hH : A.H = (inv i₀).H)
   (round : ∀ i, ok i → Wp P nt c (Th (fun A' => ∃ i', ok i' ∧ μ i' < μ i ∧ subT A'.T (inv i').T ∧ A'.H = (inv i').H) Q) (inv i)) : Wp P nt (.loop c) Q A := by
 intro B G a w tr wr
 have start : TR nt G (inv i₀).T a := ⟨tr.size, tr.defers, fun t x hx => tr.slots t x (hT t x hx)⟩
 refine wp_loop_ghost (fun n a w => ∃ i G', ok i ∧ μ i = n ∧ GExt G G' ∧ TR nt G' (inv i).T a ∧ WR B G' (inv i).H w) (μ i₀) ⟨i₀, G, h0, rfl, GExt.refl G, start, hH ▸ wr⟩ ?_
 rintro n a w ⟨i, G', hi, rfl, ext, tr', wr'⟩
 refine wp_mono (round i hi B G' a w tr' wr') ?_
 rintro e a' w' ⟨G2, A2, e', k1, k2, k3, k4⟩
 cases k2 with
 | go he k2 =>
   cases e with
   | normal =>
     obtain ⟨i', o1, o2, o3, o4⟩ := k4
     exact ⟨μ i', o2, i', G2, o1, rfl, ext.trans k1, ⟨k2.size, k2.defers, fun t x hx => k2.slots t x (o3 t x hx)⟩, o4 ▸ k3⟩
   | panic c => exact absurd rfl (he c)
   | _ => exact Po.go (fun _ => nofun) (ext.trans k1) k2 k3 k4
 | die tr rp => exact ⟨G2, _, _, ext.trans k1, .die tr rp, k3, k4⟩
end
def mkT : Nat → List AV → List (Nat × AV)
 | _, [] => []
 | n, x :: r => (n, x) :: mkT (n + 1) r
theorem look_mkT : ∀ (xs : List AV) (n t : Nat) (x : AV), look (mkT n xs) t = some x → n ≤ t ∧ xs[t - n]? = some x := by
 intro xs
 induction xs with
 | nil => intro n t x h; simp [mkT, look] at h
 | cons y xs ih =>
   intro n t x h
   simp only [mkT, look] at h
   split at h
   · rename_i e; subst e
     simp only [Option.some.injEq] at h; subst h
     exact ⟨Nat.le_refl _, by simp⟩
   · rename_i e
     obtain ⟨h1, h2⟩ := ih (n + 1) t x h
     refine ⟨by omega, ?_⟩
     rw [show t - n = (t - (n + 1)) + 1 by omega, List.getElem?_cons_succ]; exact h2
def resV (P : Program) (A : AS) : ResultVar → Option AV
 | .tmp t => look A.T t
 | .cell t ty => match tinfo P ty, look A.T t with
   | some ti, some p => ldV A.H ti p
   | _, _ => none
def packV : List AV → AV
 | [x] => x
 | xs => .tup xs
theorem asAddr_ok {G : Ghost} {p : AV} {pv : Value} {H : List AObj} {ti : TI} {x : AV} (rp : RV G p pv) (h : ldV H ti p = some x) : ∃ a, pv = .pointer (some a) := by
 unfold ldV at h
 split at h
 · exact ref_ptr rp
 · exact p_ip rp
 · cases h
def resOne (tmps : Array Value) : ResultVar → Sem Value
 | .tmp t => pure (tmps.getD t undef)
 | .cell q t => do loadVar t (← asAddr (tmps.getD q undef))
theorem results_eq (fn : Func) (tmps : Array Value) : results fn tmps = (do let vs ← fn.results.mapM (resOne tmps); pure (if h : vs.size = 1 then vs[0] else .tuple vs)) := rfl
theorem results_ok {P : Program} {nt : NT} {B : Base} {G : Ghost} {A : AS} {a : Act} {w : World} (tr : TR nt G A.T a) (wr : WR B G A.H w) {fn : Func} {rs : List AV} (h : fn.results.toList.mapM (resV P A) = some rs) :
   ∃ v, (results fn a.tmps).run P w = .ok v w ∧ RV G (packV rs) v := by
 have one : ∀ (r : ResultVar) x, resV P A r = some x → ∃ v, (resOne a.tmps r).run P w = .ok v w ∧ RV G x v := by
   intro r x hr
   cases r with
   | tmp t =>
     obtain ⟨v, h1, h2⟩ := tr.slots t x hr
     exact ⟨v, by simp [resOne, h1], h2⟩
   | cell t ty =>
     simp only [resV] at hr
     split at hr <;> try (cases hr; done)
     rename_i ti p hti hp
     obtain ⟨pv, h1, h2⟩ := tr.slots t p hp
     obtain ⟨ad, rfl⟩ := asAddr_ok h2 hr
     obtain ⟨v, r1, r2⟩ := ldV_ok hti wr h2 hr
     refine ⟨v, ?_, r2⟩
     have e : a.tmps.getD t undef = .pointer (some ad) := by simp [h1]
     simp only [resOne, e, asAddr, Sem.run_bind, Sem.run_pure, Result.andThen_ok]
     simpa [Instr.loadAt, Instr.sureAddr] using r1
 have all : ∀ (l : List ResultVar) (rs : List AV), l.mapM (resV P A) = some rs → ∃ vs : List Value, (l.mapM (resOne a.tmps)).run P w = .ok vs w ∧ RVL G rs vs := by
   intro l
   induction l with
   | nil => intro rs h; simp at h; subst h; exact ⟨[], by simp, rfl, fun i x v h => by simp at h⟩
   | cons r l ih =>
     intro rs h
     simp only [List.mapM_cons, Option.pure_def, Option.bind_eq_bind, Option.bind_eq_some_iff, Option.some.injEq] at h
     obtain ⟨x, hx, xs, hxs, rfl⟩ := h
     obtain ⟨v, h1, h2⟩ := one r x hx
     obtain ⟨vs, h3, h4, h5⟩ := ih xs hxs
     refine ⟨v :: vs, ?_, by simp [h4], fun i y u hy hu => ?_⟩
     · simp only [List.mapM_cons, Sem.run_bind, h1, Result.andThen_ok, h3, Sem.run_pure]
     · cases i with
       | zero => simp at hy hu; subst hy hu; exact h2
       | succ i => exact h5 i y u (by simpa using hy) (by simpa using hu)
 obtain ⟨vs, h1, h2, h3⟩ := all _ _ h
 have hm : (fn.results.mapM (resOne a.tmps)).run P w = .ok vs.toArray w := by
   rw [Array.mapM_eq_mapM_toList]
   simp only [Sem.run_map, h1, Result.andThen_ok]
 cases rs with
 | nil =>
   have : vs = [] := List.eq_nil_of_length_eq_zero (by simpa using h2)
   subst this
   refine ⟨.tuple #[], ?_, .tup rfl (fun i c v hc => by simp at hc)⟩
   simp only [results_eq, Sem.run_bind, hm, Result.andThen_ok]; simp
 | cons r1 rr =>
   cases rr with
   | nil =>
     obtain ⟨v, rfl⟩ : ∃ v, vs = [v] := by
       match vs, h2 with
       | [v], _ => exact ⟨v, rfl⟩
     · refine ⟨v, ?_, h3 0 r1 v rfl rfl⟩
       simp only [results_eq, Sem.run_bind, hm, Result.andThen_ok]; simp
   | cons r2 rr =>
     refine ⟨.tuple vs.toArray, ?_, .tup (by simpa using h2) (fun i c v hc hv => h3 i c v hc (by simpa using hv))⟩
     simp only [results_eq, Sem.run_bind, hm, Result.andThen_ok]
     have : ¬ vs.length = 1 := by rw [h2]; simp
     simp [this]
def Fin (P : Program) (res : List ResultVar) (Q : AV → List AObj → Prop) : Exit → AS → Prop
 | .normal, A | .ret, A => need (res.mapM (resV P A)) fun rs => Q (packV rs) A.H
 | .panic _, A => ∃ k r T, A.T = (k, r) :: T ∧ Q r A.H
 | _, _ => False
theorem ACall.body {P : Program} {f : FuncId} {fn : Func} {c : Code} {nt : NT} {res : List ResultVar} {args : List AV} {H : List AObj} {Q : AV → List AObj → Prop} (hf : P.funcs[f]? = some fn) (hb : fn.body = some c) (hnt : (⟨fn.ntmps, []⟩ : NT) = nt) (hres : fn.results.toList = res) (hcal : callable P f = true) (hn : args.length ≤ nt)
   (h : Wp P nt c (Fin P res Q) ⟨mkT 0 args, H⟩) : ACall P f args H Q := by
 subst hnt hres
 refine ⟨fun B G w vals wr rv => Runs.of_calls hcal (calls_of_wp hf hb ?_)⟩
 have tr : TR ⟨fn.ntmps, []⟩ G (mkT 0 args) { tmps := vals.toArray ++ Array.replicate (fn.ntmps - vals.toArray.size) undef, defers := [] } := by
   have hn' : args.length ≤ fn.ntmps := hn
   refine ⟨by show _ = fn.ntmps; simp; have := rv.1; omega, rfl, fun t x hx => ?_⟩
   obtain ⟨_, h2⟩ := look_mkT _ _ _ _ hx
   simp only [Nat.sub_zero] at h2
   have hlt : t < args.length := (List.getElem?_eq_some_iff.1 h2).1
   have hlt' : t < vals.length := by rw [rv.1]; exact hlt
   refine ⟨vals[t], ?_, rv.2 t x _ h2 (List.getElem?_eq_getElem hlt')⟩
   rw [Array.getElem?_append_left (by simpa using hlt')]
   simp [hlt']
 refine wp_mono (h B G _ w tr wr) ?_
 rintro e a' w' ⟨G', A', e', h1, h2, h3, h4⟩
 cases h2 with
 | go he h2 =>
   have fin : need (fn.results.toList.mapM (resV P A')) (fun rs => Q (packV rs) A'.H) → a'.defers = [] ∧ ∃ v, (results fn a'.tmps).run P w' = .ok v w' ∧ ∃ r G'' H', Ends G'' r (Ending.returned v) ∧ GExt G G'' ∧ WR B G'' H' w' ∧ Q r H' := by
     intro hq
     obtain ⟨rs, hrs, hq⟩ := need_iff.1 hq
     obtain ⟨v, r1, r2⟩ := results_ok h2 h3 hrs
     exact ⟨h2.defers, v, r1, _, G', A'.H, .ret r2, h1, h3, hq⟩
   cases e with
   | normal => exact fin h4
   | ret => exact fin h4
   | panic c => exact absurd rfl (he c)
   | _ => exact h4.elim
 | die tr rp =>
   obtain ⟨k, r, T, e1, hq⟩ := h4
   simp only [dieT, List.cons.injEq, Prod.mk.injEq] at e1
   obtain ⟨⟨_, rfl⟩, _⟩ := e1
   exact ⟨tr.defers, _, G', _, .die rp, h1, h3, hq⟩
theorem packV_alive {rs : List AV} {ps : List PV} (h : rs.mapM AV.pure = some ps) : (packV rs).dead = false := by
 match rs, h with
 | [], _ => rfl
 | [x], h =>
   cases x <;> first | rfl | (simp [AV.pure, AV.pure1] at h)
 | _ :: _ :: _, _ => rfl
structure PCall (P : Program) (f : FuncId) (args : List PV) (Q : List PV → Prop) : Prop where
 run : ∀ (m : Mem) (w : World) (vals : List Value), (∀ b o v, m b o = some v → w.cell? ⟨b, o, none⟩ = some v) → (vals.length = args.length ∧ ∀ (i : Nat) x v, args[i]? = some x → vals[i]? = some v → RP m x v) →
   Runs P f vals.toArray w fun e w' => ∃ v rs m', e = .returned v ∧ RV ⟨m', fun _ => none⟩ (packV (rs.map .p)) v ∧ (∀ b o v, m b o = some v → m' b o = some v) ∧ (∀ b o v, m' b o = some v → w'.cell? ⟨b, o, none⟩ = some v) ∧
     (∀ b o v, m' b o = some v → m b o = some v ∨ w.heap.size ≤ b) ∧ Below w.heap.size w w' ∧ Q rs
theorem PCall.mono {P : Program} {f : FuncId} {args : List PV} {Q Q' : List PV → Prop} (h : PCall P f args Q) (hq : ∀ r, Q r → Q' r) : PCall P f args Q' :=
 ⟨fun m w vals h1 h2 => (h.run m w vals h1 h2).mono fun _ _ ⟨v, rs, m', e1, e2, e3, e4, e5, e6, e7⟩ => ⟨v, rs, m', e1, e2, e3, e4, e5, e6, hq _ e7⟩⟩
def FinP (P : Program) (res : List ResultVar) (Q : List PV → Prop) : Exit → AS → Prop
 | .normal, A | .ret, A => need (res.mapM (resV P A)) fun rs => need (rs.mapM AV.pure) Q
 | _, _ => False
theorem packV_pure {G : Ghost} {rs : List AV} {ps : List PV} {v : Value} (h : rs.mapM AV.pure = some ps) (r : RV G (packV rs) v) : RV ⟨G.mem, fun _ => none⟩ (packV (ps.map .p)) v := by
 obtain ⟨h1, h2⟩ := mapM_get h
 match rs, ps, h1 with
 | [], [], _ => cases r with | tup hl hr => exact .tup hl (fun i c v hc => by simp at hc)
 | [x], [y], _ => exact .p (pure_ok (G := G) r (h2 0 x y rfl rfl))
 | x :: x2 :: xs, y :: y2 :: ys, h1 =>
   cases r with
   | tup hl hr =>
     refine .tup (by simp at h1 hl ⊢; omega) (fun i c v hc hv => ?_)
     rw [← List.map_cons] at hc
     rw [List.getElem?_map, Option.map_eq_some_iff] at hc
     obtain ⟨c', hc', rfl⟩ := hc
     have hlt : i < (x :: x2 :: xs).length := by rw [h1]; exact (List.getElem?_eq_some_iff.1 hc').1
     have hx := List.getElem?_eq_getElem hlt
     exact .p (pure_ok (G := G) (hr i _ v hx hv) (h2 i _ c' hx hc'))
theorem PCall.body {P : Program} {f : FuncId} {fn : Func} {c : Code} {nt : NT} {res : List ResultVar} {args : List PV} {Q : List PV → Prop} (hf : P.funcs[f]? = some fn) (hb : fn.body = some c) (hnt : (⟨fn.ntmps, []⟩ : NT) = nt) (hres : fn.results.toList = res) (hcal : callable P f = true) (hn : args.length ≤ nt)
   (h : Wp P nt c (FinP P res Q) ⟨mkT 0 (args.map .p), []⟩) : PCall P f args Q := by
 subst hnt hres
 refine ⟨fun m w vals hm hv => ?_⟩
 have wr : WR ⟨w, m, fun _ => none⟩ ⟨m, fun _ => none⟩ [] w := ⟨Below.refl _ _, hm, fun _ _ _ h => .inl h, fun _ _ _ h => h, fun id x h => by simp at h, fun i j x y b h => (by cases h), fun i x b h => (by cases h), fun _ _ => rfl, fun b x f h => (by cases h), fun i x b h => (by cases h)⟩
 have rv : RVL ⟨m, fun _ => none⟩ (args.map .p) vals := ⟨by simpa using hv.1, fun i x v hx hv' => by
   rw [List.getElem?_map, Option.map_eq_some_iff] at hx
   obtain ⟨y, hy, rfl⟩ := hx
   exact .p (hv.2 i y v hy hv')⟩
 have h' : Wp P ⟨fn.ntmps, []⟩ c (Fin P fn.results.toList fun r _ => ∃ rs ps, r = packV rs ∧ rs.mapM AV.pure = some ps ∧ Q ps) ⟨mkT 0 (args.map .p), []⟩ := by
   refine h.mono fun e A' hq => ?_
   have key : need (fn.results.toList.mapM (resV P A')) (fun rs => need (rs.mapM AV.pure) Q) → need (fn.results.toList.mapM (resV P A')) (fun rs => ∃ rs' ps, packV rs = packV rs' ∧ rs'.mapM AV.pure = some ps ∧ Q ps) := by
     intro hq
     obtain ⟨rs, h1, h2⟩ := need_iff.1 hq
     obtain ⟨ps, h3, h4⟩ := need_iff.1 h2
     exact need_iff.2 ⟨rs, h1, rs, ps, rfl, h3, h4⟩
   cases e <;> first | exact key hq | exact hq.elim
 have hc := (ACall.body hf hb rfl rfl hcal (by simpa using hn) h').run ⟨w, m, fun _ => none⟩ ⟨m, fun _ => none⟩ w vals wr rv
 refine hc.mono fun e w' ⟨r, G', H', e1, e3, e4, rs, ps, e5, e6, e7⟩ => ?_
 subst e5
 obtain ⟨v, e1, e2⟩ := e1.alive (packV_alive e6)
 exact ⟨v, ps, G'.mem, e1, packV_pure e6 e2, e3.mem, e4.mem, e4.news, e4.below, e7⟩
theorem ACall.congr {P : Program} {f : FuncId} {args args' : List AV} {H H' : List AObj} {Q : AV → List AObj → Prop} (h : args = args') (h' : H = H') : ACall P f args H Q = ACall P f args' H' Q := by rw [h, h']
attribute [congr] ACall.congr
theorem PCall.at_ {P : Program} {f : FuncId} {pargs : List PV} {Q : List PV → Prop} (h : PCall P f pargs Q) {B : Base} {G : Ghost} {H : List AObj} {w : World} (wr : WR B G H w) {vals : List Value} (hv : vals.length = pargs.length ∧ ∀ (i : Nat) x v, pargs[i]? = some x → vals[i]? = some v → RP G.mem x v) :
   Runs P f vals.toArray w fun e w' => ∃ v rs G', e = .returned v ∧ RV G' (packV (rs.map .p)) v ∧ GExt G G' ∧ WR B G' H w' ∧ G'.obj = G.obj ∧ Q rs := by
 refine (h.run G.mem w vals wr.mem hv).mono ?_
 rintro e w' ⟨v, rs, m', e1, e2, e3, e4, e5, e6, e7⟩
 have ext : GExt G ⟨m', G.obj⟩ := ⟨e3, fun _ _ h => h, fun _ c u o h => ⟨c, u, o, h, Nat.le_refl _, fun _ => rfl⟩, fun _ c u o k cv s h => ⟨c, u, o, k, cv, s, h, Nat.le_refl _, fun _ => rfl, Nat.le_refl _, fun _ => rfl⟩⟩
 have ext2 : GExt ⟨m', fun _ => none⟩ ⟨m', G.obj⟩ := ⟨fun _ _ _ h => h, fun _ _ h => (by cases h), fun _ _ _ _ h => (by cases h), fun _ _ _ _ _ _ _ h => (by cases h)⟩
 have hle := wr.below.size
 refine ⟨v, rs, ⟨m', G.obj⟩, e1, e2.mono ext2, ext, ⟨wr.below.trans (e6.mono hle), e4, fun b o v hv => ?_, fun b o v hv => e3 _ _ _ (wr.olds b o v hv), fun id x hx => ?_, wr.sep, fun i x b hi hb => ?_, wr.dom, fun b x f hb => ?_, wr.apart⟩, rfl, e7⟩
 · rcases e5 b o v hv with h1 | h1
   · exact wr.news b o v h1
   · exact .inr (by omega)
 · refine (wr.objs id x hx).keep ext rfl (fun g b hg hb => e6.block b (wr.fresh id g b hg hb).2) (fun g b o hg hb => ?_)
   have hlt := (wr.fresh id g b hg hb).2
   cases hv : G.mem b o with
   | some v => exact e3 _ _ _ hv
   | none =>
     cases hv' : m' b o with
     | none => exact hv'
     | some v =>
       rcases e5 b o v hv' with h1 | h1
       · rw [hv] at h1; cases h1
       · omega
 · have := wr.fresh i x b hi hb
   exact ⟨this.1, Nat.lt_of_lt_of_le this.2 e6.size⟩
 · have hlt := wr.pr_lt hb
   obtain ⟨h1, h2⟩ := wr.keep b x f hb
   refine ⟨by rw [e6.block b hlt]; exact h1, ?_⟩
   rw [← h2]; funext o
   show m' b o = G.mem b o
   cases hv : G.mem b o with
   | some v => exact e3 _ _ _ hv
   | none =>
     cases hv' : m' b o with
     | none => rfl
     | some v =>
       rcases e5 b o v hv' with h1 | h1
       · rw [hv] at h1; cases h1
       · omega
theorem pures_ok {G : Ghost} {args : List AV} {pargs : List PV} {vals : List Value} (ha : args.mapM AV.pure = some pargs) (rv : RVL G args vals) : vals.length = pargs.length ∧ ∀ (i : Nat) x v, pargs[i]? = some x → vals[i]? = some v → RP G.mem x v := by
 obtain ⟨a1, a2⟩ := mapM_get ha
 refine ⟨by rw [rv.1, a1], fun i x v hx hv => ?_⟩
 have hlt : i < args.length := by rw [a1]; exact (List.getElem?_eq_some_iff.1 hx).1
 have hy := List.getElem?_eq_getElem hlt
 exact pure_ok (rv.2 i _ v hy hv) (a2 i _ x hy hx)
theorem ACall.pure {P : Program} {f : FuncId} {args : List AV} {pargs : List PV} {H : List AObj} {Q : List PV → Prop} {Q' : AV → List AObj → Prop} (ha : args.mapM AV.pure = some pargs) (h : PCall P f pargs Q) (hq : ∀ rs, Q rs → Q' (packV (rs.map .p)) H) : ACall P f args H Q' :=
 ⟨fun _ _ _ _ wr rv => (h.at_ wr (pures_ok ha rv)).mono fun _ _ ⟨_, rs, G', e1, e2, e3, e4, _, e6⟩ => ⟨_, G', _, e1 ▸ .ret e2, e3, e4, hq rs e6⟩⟩
theorem ACall.eq {P : Program} {f : FuncId} {args : List AV} {pargs : List PV} {H : List AObj} {X : List PV} {Q' : AV → List AObj → Prop} (ha : args.mapM AV.pure = some pargs) (h : PCall P f pargs fun r => r = X) (hq : Q' (packV (X.map .p)) H) : ACall P f args H Q' :=
 ACall.pure ha h fun _ e => e ▸ hq
def Owns (w : World) (m' : Mem) (w' : World) (n es : Nat) (v : Value) (own : Option Nat) : Prop :=
 (own = none ∧ ∃ a, v = .slice a n n) ∨ ∃ b arr t cap, own = some b ∧ w.heap.size ≤ b ∧ v = .slice (some ⟨b, 0, none⟩) n cap ∧ w'.heap[b]? = some (.cells arr t (0, 0)) ∧ n ≤ cap ∧ cap ≤ maxLen ∧ arr.size = cap * es ∧ ∀ o, n * es ≤ o → m' b o = none
structure TCall (P : Program) (f : FuncId) (args : List PV) (Q : List (List PV) → Prop) (es : Nat) : Prop where
 run : ∀ (m : Mem) (w : World) (vals : List Value), (∀ b o v, m b o = some v → w.cell? ⟨b, o, none⟩ = some v) → (vals.length = args.length ∧ ∀ (i : Nat) x v, args[i]? = some x → vals[i]? = some v → RP m x v) →
   Runs P f vals.toArray w fun e w' => ∃ v L own m', e = .returned v ∧ RP m' (.sl L) v ∧ (∀ b o v, m b o = some v → m' b o = some v) ∧ (∀ b o v, m' b o = some v → w'.cell? ⟨b, o, none⟩ = some v) ∧
     (∀ b o v, m' b o = some v → m b o = some v ∨ w.heap.size ≤ b) ∧ Below w.heap.size w w' ∧ Owns w m' w' L.length es v own ∧ Q L
theorem TCall.mono {P : Program} {f : FuncId} {args : List PV} {Q Q' : List (List PV) → Prop} {es : Nat} (h : TCall P f args Q es) (hq : ∀ r, Q r → Q' r) : TCall P f args Q' es :=
 ⟨fun m w vals h1 h2 => (h.run m w vals h1 h2).mono fun _ _ ⟨v, L, own, m', e1, e2, e3, e4, e5, e6, e7, e8⟩ => ⟨v, L, own, m', e1, e2, e3, e4, e5, e6, e7, hq _ e8⟩⟩
theorem TCall.pure {P : Program} {f : FuncId} {args : List PV} {Q : List (List PV) → Prop} {es : Nat} (h : TCall P f args Q es) : PCall P f args fun r => ∃ L, r = [.sl L] ∧ Q L :=
 ⟨fun m w vals h1 h2 => (h.run m w vals h1 h2).mono fun _ _ ⟨v, L, _, m', e1, e2, e3, e4, e5, e6, _, e8⟩ => ⟨v, [.sl L], m', e1, .p e2, e3, e4, e5, e6, L, rfl, e8⟩⟩
def FinT (P : Program) (res : List ResultVar) (es : Nat) (Q : List (List PV) → Prop) : Exit → AS → Prop
 | .normal, A | .ret, A => need (res.mapM (resV P A)) fun rs => (∃ id l, rs = [.tok id l] ∧ A.H[id]? = some (.spare l.length es) ∧ Q l) ∨ (∃ l, rs = [.full l] ∧ Q l)
 | _, _ => False
theorem TCall.body {P : Program} {f : FuncId} {fn : Func} {c : Code} {nt : NT} {res : List ResultVar} {args : List PV} {es : Nat} {Q : List (List PV) → Prop} (hf : P.funcs[f]? = some fn) (hb : fn.body = some c) (hnt : (⟨fn.ntmps, []⟩ : NT) = nt) (hres : fn.results.toList = res) (hcal : callable P f = true) (hn : args.length ≤ nt)
   (h : Wp P nt c (FinT P res es Q) ⟨mkT 0 (args.map .p), []⟩) : TCall P f args Q es := by
 subst hnt hres
 refine ⟨fun m w vals hm hv => ?_⟩
 have wr : WR ⟨w, m, fun _ => none⟩ ⟨m, fun _ => none⟩ [] w := ⟨Below.refl _ _, hm, fun _ _ _ h => .inl h, fun _ _ _ h => h, fun id x h => by simp at h, fun i j x y b h => (by cases h), fun i x b h => (by cases h), fun _ _ => rfl, fun b x f h => (by cases h), fun i x b h => (by cases h)⟩
 have rv : RVL ⟨m, fun _ => none⟩ (args.map .p) vals := ⟨by simpa using hv.1, fun i x v hx hv' => by
   rw [List.getElem?_map, Option.map_eq_some_iff] at hx
   obtain ⟨y, hy, rfl⟩ := hx
   exact .p (hv.2 i y v hy hv')⟩
 have h' : Wp P ⟨fn.ntmps, []⟩ c (Fin P fn.results.toList fun r H' => (∃ id l, r = .tok id l ∧ H'[id]? = some (.spare l.length es) ∧ Q l) ∨ (∃ l, r = .full l ∧ Q l)) ⟨mkT 0 (args.map .p), []⟩ := by
   refine h.mono fun e A' hq => ?_
   have key : need (fn.results.toList.mapM (resV P A')) (fun rs => (∃ id l, rs = [.tok id l] ∧ A'.H[id]? = some (.spare l.length es) ∧ Q l) ∨ (∃ l, rs = [.full l] ∧ Q l)) → need (fn.results.toList.mapM (resV P A')) (fun rs => (∃ id l, packV rs = .tok id l ∧ A'.H[id]? = some (.spare l.length es) ∧ Q l) ∨ (∃ l, packV rs = .full l ∧ Q l)) := by
     intro hq
     obtain ⟨rs, h1, h2⟩ := need_iff.1 hq
     rcases h2 with ⟨id, l, rfl, h3⟩ | ⟨l, rfl, h3⟩
     · exact need_iff.2 ⟨_, h1, .inl ⟨id, l, rfl, h3⟩⟩
     · exact need_iff.2 ⟨_, h1, .inr ⟨l, rfl, h3⟩⟩
   cases e <;> first | exact key hq | exact hq.elim
 have hc := (ACall.body hf hb rfl rfl hcal (by simpa using hn) h').run ⟨w, m, fun _ => none⟩ ⟨m, fun _ => none⟩ w vals wr rv
 refine hc.mono fun e w' ⟨r, G', H', e1, e3, e4, e5⟩ => ?_
 obtain ⟨v, q1, e2⟩ := e1.alive (by rcases e5 with ⟨_, _, rfl, _⟩ | ⟨_, rfl, _⟩ <;> rfl)
 clear e1
 have e1 := q1
 clear q1
 rcases e5 with ⟨id, l, rfl, hid, hq⟩ | ⟨l, rfl, hq⟩
 · obtain ⟨u, own, o1, o2⟩ := e4.objs id _ hid
   cases e2 with
   | tok hp ho hle he =>
     rw [o1] at ho; simp only [Option.some.injEq, GO.tok.injEq] at ho
     obtain ⟨rfl, rfl, rfl⟩ := ho
     have hvu := he rfl
     subst hvu
     refine ⟨v, l, own, G'.mem, e1, hp, e3.mem, e4.mem, e4.news, e4.below, ?_, hq⟩
     rcases o2 with ⟨h1, a, h2⟩ | ⟨b, arr, t, cap, h1, h2, h3, h4, h5, h6, h7⟩
     · exact .inl ⟨h1, a, h2⟩
     · exact .inr ⟨b, arr, t, cap, h1, (e4.fresh id _ b o1 (by rw [h1]; rfl)).1, h2, h3, h4, h5, h6, h7⟩
 · cases e2 with
   | @full _ a n hp =>
     have hn : n = l.length := by obtain ⟨a', cap', e'⟩ := hp.slice_len; simp only [Value.slice.injEq] at e'; exact e'.2.1
     subst hn
     exact ⟨_, l, none, G'.mem, e1, hp, e3.mem, e4.mem, e4.news, e4.below, .inl ⟨rfl, a, rfl⟩, hq⟩
theorem TCall.at_ {P : Program} {f : FuncId} {pargs : List PV} {es : Nat} {Q : List (List PV) → Prop} (h : TCall P f pargs Q es) {B : Base} {G : Ghost} {H : List AObj} {H' : Nat → List AObj} {w : World} (wr : WR B G H w) {vals : List Value} (hv : vals.length = pargs.length ∧ ∀ (i : Nat) x v, pargs[i]? = some x → vals[i]? = some v → RP G.mem x v)
   {id : Nat} (hid : G.obj id = none) (hup : ∀ n, Upd H (H' n) id (.spare n es)) :
   Runs P f vals.toArray w fun e w' => ∃ v L G', e = .returned v ∧ RV G' (.tok id L) v ∧ GExt G G' ∧ WR B G' (H' L.length) w' ∧ (∀ j, j ≠ id → G.obj j = none → G'.obj j = none) ∧ Q L := by
 refine (h.run G.mem w vals wr.mem hv).mono ?_
 rintro e w' ⟨v, L, own, m', e1, e2, e3, e4, e5, e6, e7, e8⟩
 have hle := wr.below.size
 have hn : ∃ a cap, v = .slice a L.length cap := e2.slice_len
 have hold : Older G id L.length v := .inl hid
 have ext := hold.ext own e3
 have keepm : ∀ b, b < w.heap.size → ∀ o, m' b o = G.mem b o := by
   intro b hb o
   cases hv : G.mem b o with
   | some v => exact e3 _ _ _ hv
   | none =>
     cases hv' : m' b o with
     | none => rfl
     | some v =>
       rcases e5 b o v hv' with h1 | h1
       · rw [hv] at h1; cases h1
       · omega
 have ownb : ∀ b, own = some b → w.heap.size ≤ b ∧ b < w'.heap.size := by
   intro b hb
   rcases e7 with ⟨h1, _⟩ | ⟨b', arr, t, cap, h1, h2, h3, h4, _⟩
   · rw [h1] at hb; cases hb
   · rw [h1] at hb; simp only [Option.some.injEq] at hb; subst hb; exact ⟨h2, heap_lt h4⟩
 refine ⟨v, L, G.tok id L.length v own m', e1, ?_, ext, ?_, fun j hj hg => by simp only [Ghost.tok, hj, if_false]; exact hg, e8⟩
 · exact RV.tok (c := L.length) (u := v) (own := own) e2 (Ghost.tok_obj ..) (Nat.le_refl _) (fun _ => rfl)
 · refine wr.upd (hup L.length) ext rfl (wr.below.trans (e6.mono hle)) e4 (fun b o v hv => ?_) ?_ (fun i g b hi hg hb => ?_) e6.size (fun b hb => ⟨by have := (ownb b hb).1; omega, (ownb b hb).2⟩) (fun b y hb => ⟨e6.block b (wr.pr_lt hb), fun o => keepm b (wr.pr_lt hb) o⟩) (fun b hb => ?_)
   · rcases e5 b o v hv with h1 | h1
     · exact wr.news b o v h1
     · exact .inr (by omega)
   · refine ⟨v, own, Ghost.tok_obj .., ?_⟩
     rcases e7 with ⟨h1, a, h2⟩ | ⟨b, arr, t, cap, h1, h2, h3, h4, h5, h6, h7, h8⟩
     · exact .inl ⟨h1, a, h2⟩
     · exact .inr ⟨b, arr, t, cap, h1, h3, h4, h5, h6, h7, h8⟩
   · have hlt := (wr.fresh i g b hg hb).2
     refine ⟨e6.block b hlt, fun o => keepm b hlt o, fun e => ?_⟩
     have := (ownb b e).1; omega
   · cases hp : B.pr b with
     | none => rfl
     | some y => have := wr.pr_lt hp; have := (ownb b hb).1; omega
end Go.Proofs.Ytcajncmjlmpkgaa
