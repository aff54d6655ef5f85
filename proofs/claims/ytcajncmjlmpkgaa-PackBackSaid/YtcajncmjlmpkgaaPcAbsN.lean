/- The new operations for the quick walk: rows that grow and are written, rows of lists, texts and their bytes. Own work; no condition. -/
import Derived.Test.YtcajncmjlmpkgaaPcAbsY
import Derived.Laws.IdiomStrings
namespace Go.Proofs.Ytcajncmjlmpkgaa
open Go Go.RowKit
set_option linter.unusedVariables false
def srcX (tk : TK) (x : AV) (K : List (List PV) → Prop) : Prop :=
 match tk with
 | .slice _ _ _ => need (elemsV x) K
 | .str => match x with
   | .p (.str s) => Nm (fun _ => s.data.toList.map fun c => [PV.int .u8 c.toNat]) K
   | _ => False
 | _ => False
theorem srcX_ok {tk : TK} {x : AV} {K : List (List PV) → Prop} (h : srcX tk x K) : ∃ xs, srcV tk x = some xs ∧ K xs := by
 unfold srcX at h
 split at h <;> try (exact h.elim)
 · exact need_iff.1 h
 · split at h <;> try (exact h.elim)
   exact ⟨_, rfl, h.get⟩
theorem EfR.mkF {P : Program} {o : Oper} {A : AS} {nx : Nat} {x : AV} {y : Option (Nat × AObj)} {d : Nat} {fp : List Nat} (hdst : o.dst = some d) (hfp : A.H.length = nx → ∀ j, j ∈ fp → j < nx) (hy : ∀ id z, y = some (id, z) → id ∈ fp)
   (h : ∀ {nt : NT} {B : Base} {G : Ghost} {T : List (Nat × AV)} {H : List AObj} {a : Act} {w : World}, TR nt G T a → WR B G H w → AgT T A.T o.op → (∀ j, j ∈ fp → H[j]? = A.H[j]?) →
     ∃ v w' G', (execOp a.eval o).run P w = .ok (.value v) w' ∧ GExt G G' ∧ RV G' x v ∧ WR B G' (match y with | some (id, z) => H.set id z | none => H) w' ∧ ∀ j, G.obj j = none → G'.obj j = none) :
   EfR P o A nx ⟨some (d, x), y⟩ fp nx := by
 refine ⟨fun d' x' e => by simp only [Option.some.injEq, Prod.mk.injEq] at e; rw [hdst, e.1], hy, .inr ⟨rfl, fun hl i hi => hfp hl i hi⟩, fun {nt B G T H a w} tr wr hd ag agH hlen hnew Q => ?_⟩
 obtain ⟨v, w', G', r1, r2, r3, r4, r5⟩ := h tr wr ag (fun j hj => agH j hj (hfp hlen j hj))
 unfold Oper.wp
 rw [r1]
 refine ⟨G', r2, ?_, ?_, fun j _ hj => r5 j hj⟩
 · have := (tr.mono r2).put o.dst x v hd r3
   rw [hdst] at this ⊢; exact this
 · cases y <;> exact r4
theorem EfR.stF {P : Program} {o : Oper} {A : AS} {nx id : Nat} {y : AObj} (hdst : o.dst = none) (hid : A.H.length = nx → id < nx)
   (h : ∀ {nt : NT} {B : Base} {G : Ghost} {T : List (Nat × AV)} {H : List AObj} {a : Act} {w : World}, TR nt G T a → WR B G H w → AgT T A.T o.op → H[id]? = A.H[id]? →
     ∃ w' G', (execOp a.eval o).run P w = .ok .skip w' ∧ GExt G G' ∧ WR B G' (H.set id y) w' ∧ ∀ j, G.obj j = none → G'.obj j = none) :
   EfR P o A nx ⟨none, some (id, y)⟩ [id] nx := EfR.st1 hdst hid h
theorem EfR.nwF {P : Program} {o : Oper} {A : AS} {nx : Nat} {x : AV} {z : AObj} {d : Nat} {fp : List Nat} (hdst : o.dst = some d) (hfp : A.H.length = nx → ∀ j, j ∈ fp → j < nx)
   (h : ∀ {nt : NT} {B : Base} {G : Ghost} {T : List (Nat × AV)} {H : List AObj} {a : Act} {w : World} {q : AObj}, TR nt G T a → WR B G H w → AgT T A.T o.op → (∀ j, j ∈ fp → H[j]? = A.H[j]?) → G.obj nx = none → H[nx]? = some q →
     ∃ v w' G', (execOp a.eval o).run P w = .ok (.value v) w' ∧ GExt G G' ∧ RV G' x v ∧ WR B G' (H.set nx z) w' ∧ ∀ j, j ≠ nx → G.obj j = none → G'.obj j = none) :
   EfR P o A nx ⟨some (d, x), some (nx, z)⟩ (nx :: fp) (nx + 1) := by
 refine ⟨fun d' x' e => by simp only [Option.some.injEq, Prod.mk.injEq] at e; rw [hdst, e.1], fun id z e => by simp only [Option.some.injEq, Prod.mk.injEq] at e; simp [e.1], .inl ⟨rfl, z, rfl, fun hl id hid => ?_⟩, fun {nt B G T H a w} tr wr hd ag agH hlen hnew Q => ?_⟩
 · rcases List.mem_cons.1 hid with e | e
   · omega
   · exact Nat.le_of_lt (hfp hl id e)
 · obtain ⟨⟨q, hq⟩, hg⟩ := hnew (by simp)
   obtain ⟨v, w', G', r1, r2, r3, r4, r5⟩ := h tr wr ag (fun j hj => agH j (by simp [hj]) (hfp hlen j hj)) hg hq
   unfold Oper.wp
   rw [r1]
   refine ⟨G', r2, ?_, r4, fun j hj hg => r5 j (fun e => by subst e; exact hj _ rfl) hg⟩
   have := (tr.mono r2).put o.dst x v hd r3
   rw [hdst] at this ⊢; exact this
structure RIx (ls : List (List (List PV))) (i : Nat) (K : List (List PV) → Prop) : Prop where
 of : ∃ l, ls[i]? = some l ∧ K l
theorem RIx.at_ {ls : List (List (List PV))} {i : Nat} {K : List (List PV) → Prop} (l : List (List PV)) (h : ls[i]? = some l) (k : K l) : RIx ls i K := ⟨l, h, k⟩
structure SrcOk (P : Program) (A : AS) (tk : TK) (x : AV) (es : Nat) (xs : List (List PV)) (fp : List Nat) : Prop where
 lt : ∀ j, j ∈ fp → j < A.H.length
 num : ∀ q, tk ≠ .num q
 run : ∀ {B : Base} {G : Ghost} {H : List AObj} {w : World} {xv : Value}, WR B G H w → RV G x xv → (∀ j, j ∈ fp → H[j]? = A.H[j]?) → okEs es xs = true → ∃ news, Src P w es xs.length xv news ∧ Flat G.mem es xs news
def srcN (A : AS) (tk : TK) (es : Nat) (x : AV) (K : List (List PV) → List Nat → Prop) : Prop :=
 match x with
 | .vec id g sz lo n => match tk with
   | .slice _ _ _ => match nth A.H id with
     | some (.vec g' L sz') => if sz = es then (if es = 0 then False else Asm (fun _ => g' = g ∧ sz' = es ∧ lo + n ≤ L.length) fun _ => Nm (fun _ => (L.drop lo).take n) fun xs => K xs [id]) else False
     | _ => False
   | _ => False
 | x => srcX tk x fun xs => K xs []
theorem srcN_ok {P : Program} {A : AS} {tk : TK} {es : Nat} {x : AV} {K : List (List PV) → List Nat → Prop} (h : srcN A tk es x K) : ∃ xs fp, SrcOk P A tk x es xs fp ∧ K xs fp := by
 have old : srcX tk x (fun xs => K xs []) → ∃ xs fp, SrcOk P A tk x es xs fp ∧ K xs fp := by
   intro h
   obtain ⟨xs, h1, h2⟩ := srcX_ok h
   exact ⟨xs, [], ⟨fun j hj => by simp at hj, fun q e => by subst e; simp [srcV] at h1, fun wr rx _ ok => srcV_ok wr rx h1 ok⟩, h2⟩
 unfold srcN at h
 split at h
 · rename_i id g sz lo n
   split at h <;> try (exact h.elim)
   rename_i e1 e2 e3
   split at h <;> try (exact h.elim)
   rename_i g' L sz' hid
   split at h <;> try (exact h.elim)
   rename_i hs
   split at h <;> try (exact h.elim)
   rename_i hs0
   obtain ⟨rfl, rfl, hn⟩ := h.c
   subst hs
   rw [nth_eq] at hid
   refine ⟨_, [id], ⟨fun j hj => by simp at hj; subst hj; exact (List.getElem?_eq_some_iff.1 hid).1, fun q e => (by cases e), fun {B G H w xv} wr rx hH ok => ?_⟩, h.k.get⟩
   have hl : ((L.drop lo).take n).length = n := by rw [List.length_take, List.length_drop]; omega
   rw [hl]
   exact vsrc_ok wr rx (by rw [hH id (by simp)]; exact hid) hn ok hs0
 · exact old h
theorem okInt_kind {P : Program} {t : TypeId} {ti : TI} (k : tinfo P t = some ti) (h : ∀ q, ti.kind ≠ .num q) : ∃ d, P.underlying t = some d ∧ ∀ q, d ≠ .int q := by
 obtain ⟨i, d, z, k⟩ := tinfo_ok k
 refine ⟨d, k.und, fun q e => ?_⟩
 subst e
 exact h q k.kind.symm
def xappN (tt : TypeId → Option TI) (A : AS) (nx d : Nat) (t xt : TypeId) (s x : AV) (K : Ef → List Nat → Nat → Prop) : Prop :=
 need (tt t) fun ti => need (tt xt) fun xi => match ti.kind with
 | .slice e es eb => need (tt e) fun _ => match s with
   | .rvec id g m => match nth A.H id with
     | some (.rvec g' k ls size) => match x with
       | .nils q => match xi.kind with
         | .slice _ _ _ => if es = 1 then Asm (fun _ => g' = g ∧ m = ls.length ∧ 0 < q ∧ m + q ≤ maxLen ∧ (m + q) * eb ≤ 140737488355328) fun _ =>
             Nm (fun _ => g + 1) fun g1 => Nm (fun _ => k + 1) fun k1 => Nm (fun _ => m + q) fun M => Nm (fun _ => ls ++ List.replicate q []) fun LS => K ⟨some (d, .rvec id g1 M), some (id, .rvec g1 k1 LS size)⟩ [id] nx else False
         | _ => False
       | _ => False
     | _ => False
   | .vec id g sz lo m => srcN A xi.kind es x fun xs fp => match nth A.H id with
     | some (.vec g' L sz') => if sz = es then (if es = 0 then False else Asm (fun _ => g' = g ∧ sz' = es ∧ lo = 0 ∧ m ≤ L.length ∧ okEs es (L.take m) = true ∧ okEs es xs = true ∧ m + xs.length ≤ maxLen ∧ (m + xs.length) * eb ≤ 140737488355328) fun _ =>
         Nm (fun _ => g + 1) fun g1 => Nm (fun _ => m + xs.length) fun M => Nm (fun _ => L.take m ++ xs) fun L' => K ⟨some (d, .vec id g1 es 0 M), some (id, .vec g1 L' es)⟩ (id :: fp) nx) else False
     | _ => False
   | .rtok id k i l => srcN A xi.kind es x fun xs fp => match nth A.H id with
     | some (.rvec g k' ls size) => Asm (fun _ => k' = k ∧ size = es ∧ ls[i]? = some l ∧ okEs es l = true ∧ okEs es xs = true ∧ l.length + xs.length ≤ maxLen ∧ (l.length + xs.length) * eb ≤ 140737488355328) fun _ =>
         Nm (fun _ => k + 1) fun k1 => Nm (fun _ => l ++ xs) fun L => Nm (fun _ => ls.set i L) fun LS => K ⟨some (d, .rtok id k1 i L), some (id, .rhole g k1 LS es i)⟩ (id :: fp) nx
     | _ => False
   | .tok id l => srcN A xi.kind es x fun xs fp => match nth A.H id with
     | some (.spare n sz) => Asm (fun _ => n = l.length ∧ sz = es ∧ okEs es l = true ∧ okEs es xs = true ∧ l.length + xs.length ≤ maxLen ∧ (l.length + xs.length) * eb ≤ 140737488355328) fun _ =>
         Nm (fun _ => l ++ xs) fun L => Nm (fun _ => l.length + xs.length) fun m => K ⟨some (d, .tok id L), some (id, .spare m es)⟩ (id :: fp) nx
     | _ => False
   | .full l => srcN A xi.kind es x fun xs fp => Asm (fun _ => okEs es l = true ∧ okEs es xs = true ∧ l.length + xs.length ≤ maxLen ∧ (l.length + xs.length) * eb ≤ 140737488355328) fun _ =>
         Nm (fun _ => l ++ xs) fun L => Nm (fun _ => l.length + xs.length) fun m => K ⟨some (d, .tok nx L), some (nx, .spare m es)⟩ (nx :: fp) (nx + 1)
   | _ => False
 | _ => False
theorem xappN_ok {P : Program} {tt : TypeId → Option TI} (htt : TTOk P tt) {o : Oper} {A : AS} {nx d : Nat} {s x : Operand} {t xt : TypeId} {sv xv : AV} {K : Ef → List Nat → Nat → Prop} (ho : o.op = .call ⟨.builtin .append, #[s, x], #[t, xt]⟩) (hd : o.dst = some d) (hl0 : A.H.length = nx) (hs : ev A.T s = some sv) (hx : ev A.T x = some xv) (h : xappN tt A nx d t xt sv xv K) :
   ∃ e fp nx', EfR P o A nx e fp nx' ∧ K e fp nx' := by
 have run : ∀ {a : Act} {v : Value} {w w' : World}, (Builtin.append_ #[t, xt] o.type #[a.eval s, a.eval x]).run P w = .ok v w' → (execOp a.eval o).run P w = .ok (.value v) w' := by
   intro a v w w' r1
   simp only [execOp, ho, resolve, invoke, builtin, Sem.run_bind, Sem.run_pure, Result.andThen_ok, List.map_toArray, List.map_cons, List.map_nil, r1]
 have evs : ∀ {T : List (Nat × AV)}, AgT T A.T o.op → ev T s = some sv ∧ ev T x = some xv := by
   intro T ag
   refine ⟨?_, ?_⟩
   · rw [← hs]; exact ag.ev (by rw [ho]; simp [Op.operands, Call.operands])
   · rw [← hx]; exact ag.ev (by rw [ho]; simp [Op.operands, Call.operands])
 have lt_of : ∀ {id : Nat} {y : AObj}, A.H[id]? = some y → id < nx := fun hy => by rw [← hl0]; exact (List.getElem?_eq_some_iff.1 hy).1
 unfold xappN at h
 replace h := need_iff.1 h
 obtain ⟨ti, hti, h⟩ := h
 replace h := need_iff.1 h
 obtain ⟨xi, hxi, h⟩ := h
 split at h <;> try (exact h.elim)
 rename_i e es eb hk
 replace h := need_iff.1 h
 obtain ⟨ei, hei, h⟩ := h
 cases sv with
 | rvec id g m =>
   dsimp only at h
   split at h <;> try (exact h.elim)
   rename_i g' k ls size hid
   cases xv with
   | nils q =>
   dsimp only at h
   split at h <;> try (exact h.elim)
   rename_i x1 x2 x3 hxk
   split at h <;> try (exact h.elim)
   rename_i h1
   subst h1
   obtain ⟨rfl, hm, hq, hmax, hb⟩ := h.c
   rw [nth_eq] at hid
   refine ⟨_, _, _, EfR.mkF hd (fun _ j hj => by simp at hj; subst hj; exact lt_of hid) (fun i z e => by simp only [Option.some.injEq, Prod.mk.injEq] at e; simp [e.1]) (fun {nt B G T H a w} tr wr ag agH => ?_), h.k.get.get.get.get⟩
   obtain ⟨e1, e2⟩ := evs ag
   obtain ⟨v, w', G', r1, r2, r3, r4, r5⟩ := rpush_ok (ty := o.type) wr (htt _ _ hti) hk (okInt_kind (htt _ _ hxi) (by rw [hxk]; intro q e; cases e)) (htt _ _ hei) (ev_ok tr e1) (ev_ok tr e2) (by rw [agH id (by simp)]; exact hid) hm hq hmax hb
   exact ⟨v, w', G', run r1, r2, r4, r3, r5⟩
   | _ => exact h.elim
 | vec id g sz lo m =>
   dsimp only at h
   replace h := srcN_ok (P := P) h
   obtain ⟨xs, fp, S, h⟩ := h
   split at h <;> try (exact h.elim)
   rename_i g' L sz' hid
   split at h <;> try (exact h.elim)
   rename_i h1
   subst h1
   split at h <;> try (exact h.elim)
   rename_i h0
   obtain ⟨rfl, rfl, rfl, hm, okl, okx, hmax, hb⟩ := h.c
   rw [nth_eq] at hid
   refine ⟨_, _, _, EfR.mkF hd (fun _ j hj => ?_) (fun i z e => by simp only [Option.some.injEq, Prod.mk.injEq] at e; simp [e.1]) (fun {nt B G T H a w} tr wr ag agH => ?_), h.k.get.get.get⟩
   · rcases List.mem_cons.1 hj with e | e
     · subst e; exact lt_of hid
     · rw [← hl0]; exact S.lt j e
   obtain ⟨e1, e2⟩ := evs ag
   obtain ⟨news, src, fx⟩ := S.run wr (ev_ok tr e2) (fun j hj => agH j (by simp [hj])) okx
   obtain ⟨v, w', G', r1, r2, r3, r4, r5⟩ := vappend_ok (ty := o.type) wr (htt _ _ hti) hk (okInt_kind (htt _ _ hxi) S.num) (htt _ _ hei) (ev_ok tr e1) (by rw [agH id (by simp)]; exact hid) hm src fx okl okx h0 hmax hb
   exact ⟨v, w', G', run r1, r2, r4, r3, r5⟩
 | rtok id k i l =>
   dsimp only at h
   replace h := srcN_ok (P := P) h
   obtain ⟨xs, fp, S, h⟩ := h
   split at h <;> try (exact h.elim)
   rename_i g k' ls size hid
   obtain ⟨rfl, rfl, hl, okl, okx, hmax, hb⟩ := h.c
   rw [nth_eq] at hid
   refine ⟨_, _, _, EfR.mkF hd (fun _ j hj => ?_) (fun i z e => by simp only [Option.some.injEq, Prod.mk.injEq] at e; simp [e.1]) (fun {nt B G T H a w} tr wr ag agH => ?_), h.k.get.get.get⟩
   · rcases List.mem_cons.1 hj with e | e
     · subst e; exact lt_of hid
     · rw [← hl0]; exact S.lt j e
   obtain ⟨e1, e2⟩ := evs ag
   obtain ⟨news, src, fx⟩ := S.run wr (ev_ok tr e2) (fun j hj => agH j (by simp [hj])) okx
   obtain ⟨v, w', G', r1, r2, r3, r4, r5⟩ := rappend_ok (ty := o.type) wr (htt _ _ hti) hk (okInt_kind (htt _ _ hxi) S.num) (htt _ _ hei) (ev_ok tr e1) (by rw [agH id (by simp)]; exact hid) hl src fx okl okx hmax hb
   exact ⟨v, w', G', run r1, r2, r4, r3, r5⟩
 | tok id l =>
   dsimp only at h
   replace h := srcN_ok (P := P) h
   obtain ⟨xs, fp, S, h⟩ := h
   split at h <;> try (exact h.elim)
   rename_i n sz hid
   obtain ⟨rfl, rfl, okl, okx, hmax, hb⟩ := h.c
   rw [nth_eq] at hid
   refine ⟨_, _, _, EfR.mkF hd (fun _ j hj => ?_) (fun i z e => by simp only [Option.some.injEq, Prod.mk.injEq] at e; simp [e.1]) (fun {nt B G T H a w} tr wr ag agH => ?_), h.k.get.get⟩
   · rcases List.mem_cons.1 hj with e | e
     · subst e; exact lt_of hid
     · rw [← hl0]; exact S.lt j e
   obtain ⟨e1, e2⟩ := evs ag
   obtain ⟨news, src, fx⟩ := S.run wr (ev_ok tr e2) (fun j hj => agH j (by simp [hj])) okx
   obtain ⟨v, w', G', r1, r2, r3, r4, r5⟩ := append_tokS (ty := o.type) wr (htt _ _ hti) hk (okInt_kind (htt _ _ hxi) S.num) (htt _ _ hei) (ev_ok tr e1) src fx (by rw [agH id (by simp)]; exact hid) okl okx hmax hb
   exact ⟨v, w', G', run r1, r2, r4, r3, r5⟩
 | full l =>
   dsimp only at h
   replace h := srcN_ok (P := P) h
   obtain ⟨xs, fp, S, h⟩ := h
   obtain ⟨okl, okx, hmax, hb⟩ := h.c
   refine ⟨_, _, _, EfR.nwF hd (fun _ j hj => by rw [← hl0]; exact S.lt j hj) (fun {nt B G T H a w q} tr wr ag agH hg hq => ?_), h.k.get.get⟩
   obtain ⟨e1, e2⟩ := evs ag
   obtain ⟨news, src, fx⟩ := S.run wr (ev_ok tr e2) (fun j hj => agH j hj) okx
   obtain ⟨v, w', G', r1, r2, r3, r4, r5⟩ := append_fullS (ty := o.type) wr (htt _ _ hti) hk (okInt_kind (htt _ _ hxi) S.num) (htt _ _ hei) (ev_ok tr e1) src fx hg (Upd.set hq _) okl okx hmax hb
   exact ⟨v, w', G', run r1, r2, r4, r3, r5⟩
 | _ => exact h.elim
def bytesL (s : ByteArray) : List (List PV) := s.data.toList.map fun c => [.int .u8 c.toNat]
def byteOf : List PV → Option UInt8
 | [.int .u8 n] => some (UInt8.ofNat n.toNat)
 | _ => none
def isU8s (l : List (List PV)) : Bool := l.all fun e => (byteOf e).isSome
def strOf (l : List (List PV)) : ByteArray := ⟨(l.map fun e => (byteOf e).getD 0).toArray⟩
theorem tobytes_ok {P : Program} {B : Base} {G : Ghost} {H : List AObj} {w : World} (wr : WR B G H w) {s d e es eb : Nat} {si di ei : TI} (ks : tinfo P s = some si) (hs : si.kind = .str) (kd : tinfo P d = some di) (hdk : di.kind = .slice e es eb) (ke : tinfo P e = some ei) (hek : ei.kind = .num .u8) {q : ByteArray} (hmax : q.size ≤ maxLen) :
   ∃ v w' G', (convert s d (.string q)).run P w = .ok v w' ∧ GExt G G' ∧ WR B G' H w' ∧ RV G' (.p (.sl (bytesL q))) v ∧ G'.obj = G.obj := by
 obtain ⟨i1, d1, z1, k1⟩ := tinfo_ok ks
 obtain ⟨i2, d2, z2, k2⟩ := tinfo_ok kd
 obtain ⟨i3, d3, z3, k3⟩ := tinfo_ok ke
 have h1 := k1.kind; rw [hs] at h1
 have h2 := k2.kind; rw [hdk] at h2
 have h3 := k3.kind; rw [hek] at h3
 cases d1 <;> simp only [tkind, reduceCtorEq] at h1
 cases d2 <;> simp only [tkind, reduceCtorEq, TK.slice.injEq] at h2
 rename_i et
 obtain ⟨he, _, _⟩ := h2
 subst he
 cases d3 <;> simp only [tkind, reduceCtorEq, TK.num.injEq] at h3
 subst h3
 have hr := run_bytes_of_string (P := P) w s d et q k1.und k2.und k3.und
 have wd := wr.drew
 have hle := wr.below.size
 have hge := grownCap_ge w q.size 0 et
 have hcm := grownCap_le_maxLen w q.size 0 et hmax
 generalize grownCap w q.size 0 et = gc at *
 generalize harr : bytesRow q gc = arr at *
 have hat : ∀ j (hj : j < q.data.size), arr[j]? = some (.int .u8 (q.data[j].toNat : Int)) := fun j hj => by rw [← harr]; exact bytesRow_at q gc j hj
 let mem' : Mem := fun b o => if b = w.heap.size then arr[o]? else G.mem b o
 have hlt : ∀ b o v, G.mem b o = some v → b ≠ w.heap.size := fun b o v hv e => by subst e; have := cell?_lt (wr.mem _ _ _ hv); simp at this
 have ext : GExt G { G with mem := mem' } := ⟨fun b o v hv => by show (if b = w.heap.size then _ else G.mem b o) = _; rw [if_neg (hlt b o v hv)]; exact hv, fun _ _ h => h, fun _ c u o h => ⟨c, u, o, h, Nat.le_refl _, fun _ => rfl⟩, fun _ c u o k cv s h => ⟨c, u, o, k, cv, s, h, Nat.le_refl _, fun _ => rfl, Nat.le_refl _, fun _ => rfl⟩⟩
 refine ⟨_, _, _, hr, ext, ⟨wd.below.alloc hle _, fun b o v hv => ?_, fun b o v hv => ?_, fun b o v hv => ext.mem b o v (wr.olds b o v hv), fun id x hx => ?_, wr.sep, fun i x b hi hb => ?_, wr.dom, fun b x f hb => ?_, wr.apart⟩, .p ?_, rfl⟩
 · have hv' : (if b = w.heap.size then arr[o]? else G.mem b o) = some v := hv
   split at hv'
   · rename_i e; subst e
     rw [show w.heap.size = w.drew.heap.size from rfl, World.cell?_alloc_mark]; exact hv'
   · rw [show (w.drew.alloc _).cell? ⟨b, o, none⟩ = w.drew.cell? ⟨b, o, none⟩ from World.cell?_of_block (Below.heap_alloc w.drew _ b (cell?_lt (wr.mem b o v hv')))]
     exact wr.mem b o v hv'
 · have hv' : (if b = w.heap.size then arr[o]? else G.mem b o) = some v := hv
   split at hv'
   · rename_i e; subst e; exact .inr hle
   · exact wr.news b o v hv'
 · refine (wd.objs id x hx).keep ext rfl (fun g b hg hb => ?_) (fun g b o hg hb => ?_)
   · exact Below.heap_alloc w.drew _ b (wr.fresh id g b hg hb).2
   · have := (wr.fresh id g b hg hb).2
     show (if b = w.heap.size then _ else G.mem b o) = _; rw [if_neg (by omega)]
 · have := wr.fresh i x b hi hb
   exact ⟨this.1, by simp; omega⟩
 · have hl := wr.pr_lt hb
   obtain ⟨q1, q2⟩ := wr.keep b x f hb
   refine ⟨by rw [Below.heap_alloc w.drew _ b hl]; exact q1, ?_⟩
   rw [← q2]; funext o
   show (if b = w.heap.size then _ else G.mem b o) = _; rw [if_neg (by omega)]
 · have hbl : (bytesL q).length = q.size := by rw [bytesL, List.length_map, Array.length_toList]; rfl
   have key : ∀ (i : Nat) e, (bytesL q)[i]? = some e → ∃ h : i < q.data.size, e = [.int .u8 (q.data[i].toNat : Int)] := fun i e he => by
     rw [bytesL, List.getElem?_map, Option.map_eq_some_iff] at he
     obtain ⟨c, hc, rfl⟩ := he
     rw [Array.getElem?_toList, Array.getElem?_eq_some_iff] at hc
     obtain ⟨h, rfl⟩ := hc
     exact ⟨h, rfl⟩
   refine .sl _ 1 w.heap.size 0 q.size gc (fun i _ => (arr[i]?).getD undef) hbl hge hcm (fun e he => ?_) (fun i e j he hj => ?_) (fun i e j c he hc => ?_)
   · obtain ⟨i, hi⟩ := List.getElem?_of_mem he
     obtain ⟨_, rfl⟩ := key i e hi; rfl
   · obtain ⟨h, rfl⟩ := key i e he
     simp at hj; subst hj
     show (if w.heap.size = w.heap.size then arr[0 + i * 1 + 0]? else _) = _
     rw [if_pos rfl, Nat.mul_one, Nat.zero_add, Nat.add_zero, hat i h]; rfl
   · obtain ⟨h, rfl⟩ := key i e he
     cases j with
     | zero => simp at hc; subst hc; rw [hat i h]; exact .int _ _
     | succ j => simp at hc
theorem pushes (vs : List UInt8) : ∀ (r : ByteArray), vs.foldl (fun r b => r.push b) r = ⟨r.data ++ vs.toArray⟩ := by
 induction vs with
 | nil => intro r; simp
 | cons b vs ih => intro r; rw [List.foldl_cons, ih]; simp [ByteArray.push]
theorem tostr_ok {P : Program} {m : Mem} {w : World} (hm : ∀ b o v, m b o = some v → w.cell? ⟨b, o, none⟩ = some v) {s d e es eb : Nat} {si di ei : TI} (ks : tinfo P s = some si) (hs : si.kind = .slice e es eb) (kd : tinfo P d = some di) (hdk : di.kind = .str) (ke : tinfo P e = some ei) (hek : ei.kind = .num .u8)
   {l : List (List PV)} {v : Value} (rl : RP m (.sl l) v) (hl : isU8s l = true) : (convert s d v).run P w = .ok (.string (strOf l)) w := by
 obtain ⟨i1, d1, z1, k1⟩ := tinfo_ok ks
 obtain ⟨i2, d2, z2, k2⟩ := tinfo_ok kd
 obtain ⟨i3, d3, z3, k3⟩ := tinfo_ok ke
 have h1 := k1.kind; rw [hs] at h1
 have h2 := k2.kind; rw [hdk] at h2
 have h3 := k3.kind; rw [hek] at h3
 cases d2 <;> simp only [tkind, reduceCtorEq] at h2
 cases d1 <;> simp only [tkind, reduceCtorEq, TK.slice.injEq] at h1
 rename_i et
 obtain ⟨he, _, _⟩ := h1
 subst he
 cases d3 <;> simp only [tkind, reduceCtorEq, TK.num.injEq] at h3
 subst h3
 have u8 : ∀ (i : Nat) e, l[i]? = some e → ∃ n, e = [.int .u8 n] := fun i e he => by
   have := List.all_eq_true.1 hl e (List.mem_of_getElem? he)
   unfold byteOf at this
   split at this
   · exact ⟨_, rfl⟩
   · cases this
 have okl : okEs 1 l = true := List.all_eq_true.2 fun e he => by
   obtain ⟨i, hi⟩ := List.getElem?_of_mem he
   obtain ⟨n, rfl⟩ := u8 i e hi
   rfl
 obtain ⟨a, cap, rfl⟩ := rl.slice_len
 obtain ⟨_, _, _, vs, f, hk⟩ := rl.flat okl
 have ns : ∃ ns : List Int, vs = ns.map (Value.int .u8) ∧ ns.length = l.length ∧ ∀ (i : Nat) (n : Int), ns[i]? = some n → l[i]? = some [PV.int .u8 n] := by
   refine ⟨l.map (fun e : List PV => match e with | [PV.int .u8 n] => n | _ => (0 : Int)), ?_, by simp, fun i n hn => ?_⟩
   · apply List.ext_getElem?
     intro i
     rcases Nat.lt_or_ge i l.length with g | g
     · have hli := List.getElem?_eq_getElem g
       obtain ⟨n, hn⟩ := u8 i _ hli
       obtain ⟨v', h1, h2⟩ := f.get i l[i] 0 (.int .u8 n) hli (by rw [hn]; rfl)
       rw [Nat.mul_one, Nat.add_zero] at h1
       rw [h1, List.getElem?_map, List.getElem?_map, hli]
       cases h2
       simp [hn]
     · rw [List.getElem?_eq_none (by rw [f.len]; omega), List.getElem?_eq_none (by simpa using g)]
   · rw [List.getElem?_map, Option.map_eq_some_iff] at hn
     obtain ⟨e, he, hn⟩ := hn
     obtain ⟨n', rfl⟩ := u8 i e he
     rw [he, ← hn]
 obtain ⟨ns, rfl, hnl, hns⟩ := ns
 have estr : strOf l = ns.foldl (fun r n => r.push (UInt8.ofNat n.toNat)) ByteArray.empty := by
   have : ns.foldl (fun r n => r.push (UInt8.ofNat n.toNat)) ByteArray.empty = (ns.map fun n => UInt8.ofNat n.toNat).foldl (fun r b => r.push b) ByteArray.empty := by rw [List.foldl_map]
   rw [this, pushes]
   have e2 : (l.map fun e => (byteOf e).getD 0) = ns.map fun n => UInt8.ofNat n.toNat := by
     apply List.ext_getElem?
     intro i
     rw [List.getElem?_map, List.getElem?_map]
     cases hn : ns[i]? with
     | none => rw [List.getElem?_eq_none (by rw [← hnl]; exact List.getElem?_eq_none_iff.1 hn)]; rfl
     | some n => rw [hns i n hn]; rfl
   rw [strOf, e2]
   simp [ByteArray.empty, ByteArray.emptyWithCapacity]
   rfl
 cases a with
 | none =>
   have hz : ns = [] := by
     cases ns with
     | nil => rfl
     | cons n r => obtain ⟨_, _, e, _⟩ := hk 0 _ rfl; cases e
   have hl0 : l.length = 0 := by rw [← hnl, hz]; rfl
   rw [estr, hz]
   simp [convert, run_underlying k1.und, run_underlying k2.und, run_underlying k3.und, Conv.bytesToString]
 | some ad =>
   rw [run_convert_bytes_string w s d et (some ad) l.length cap k1.und k3.und k2.und]
   have hlc := run_loadCells_list (P := P) w ad (ns.map (Value.int .u8)) (fun j v hv => by
     obtain ⟨b, o, e, hb⟩ := hk j v hv
     simp only [Option.some.injEq] at e; subst e
     rw [Addr.add_lit]; exact hm b (o + j) v hb)
   rw [List.length_map, hnl] at hlc
   rw [run_bytesToString w ad l.length cap ns hlc, estr]
def isNew (tt : TypeId → Option TI) (T : List (Nat × AV)) (op : Op) : Bool :=
 match op with
 | .store _ a _ => match ev T a with
   | some (.vref _ _ _) => true
   | some (.rref _ _ _) => true
   | _ => false
 | .load _ a => match ev T a with
   | some (.vref _ _ _) => true
   | some (.rref _ _ _) => true
   | _ => false
 | .indexAddr _ a _ => match ev T a with
   | some (.vec _ _ _ _ _) => true
   | some (.rvec _ _ _) => true
   | _ => false
 | .slice _ x _ _ none => match ev T x with
   | some (.vec _ _ _ _ _) => true
   | _ => false
 | .convert s d _ => match tt d with
   | some di => match di.kind with
     | .slice _ _ _ => true
     | .str => match tt s with
       | some si => match si.kind with
         | .slice _ _ _ => true
         | _ => false
       | none => false
     | _ => false
   | none => false
 | .buildSlice _ n ps => match n with
   | 1 => match ps.toList with
     | [(0, .const (.slice none 0 0))] => true
     | _ => false
   | _ => false
 | .call c => match c.callee with
   | .builtin .append => match c.args.toList with
     | [s, x] => match ev T s with
       | some (.vec _ _ _ _ _) => true
       | some (.rvec _ _ _) => true
       | some (.rtok _ _ _ _) => true
       | _ => match ev T x with
         | some (.vec _ _ _ _ _) => true
         | _ => false
     | _ => false
   | _ => false
 | _ => false
def loI (T : List (Nat × AV)) (d : Int) : Option Operand → Option Int
 | none => some d
 | some x => intL (ev T x)
def nilsX (tt : TypeId → Option TI) (d nx : Nat) (t : TypeId) (n : Nat) (ps : List (Nat × Operand)) (K : Ef → List Nat → Nat → Prop) : Prop :=
 match n, ps with
 | 1, [(0, .const (.slice none 0 0))] => need (tt t) fun ti => match ti.kind with
   | .slice e es _ => need (tt e) fun ei => if es = 1 then (if ei.size = 1 then (match ei.zero with
     | [_] => K ⟨some (d, .nils 1), none⟩ [] nx
     | _ => False) else False) else False
   | _ => False
 | _, _ => False
def xeN (tt : TypeId → Option TI) (o : Oper) (A : AS) (nx : Nat) (K : Ef → List Nat → Nat → Prop) : Prop :=
 match o.op with
 | .store t a x => match o.dst with
   | some _ => False
   | none => need (tt t) fun ti => need (ev A.T a) fun p => need (ev A.T x) fun v => match p with
     | .vref id g off => match nth A.H id with
       | some (.vec g' L sz) => need (cellsX v) fun l => need (optL AV.pure1 l) fun pl => if ti.size = sz then (if sz = 0 then False else Asm (fun _ => g' = g) fun _ => SEx L sz off pl fun L' => K ⟨none, some (id, .vec g L' sz)⟩ [id] nx) else False
       | _ => False
     | .rref id g i => match nth A.H id with
       | some (.rhole g' k ls size i') => match v with
         | .rtok id' k' i'' l => if id' = id then (if ti.size = 1 then Asm (fun _ => g' = g ∧ k' = k ∧ i' = i ∧ i'' = i ∧ i < ls.length) fun _ => K ⟨none, some (id, .rvec g k ls size)⟩ [id] nx else False) else False
         | _ => False
       | _ => False
     | _ => False
 | .load t a => match o.dst with
   | none => False
   | some d => need (tt t) fun ti => need (ev A.T a) fun p => match p with
     | .vref id g off => match nth A.H id with
       | some (.vec g' L sz) => if ti.size = sz then (if sz = 0 then False else Asm (fun _ => g' = g) fun _ => EIx L sz off fun e => need (ldE ti e) fun v => K ⟨some (d, v), none⟩ [id] nx) else False
       | _ => False
     | .rref id g i => match nth A.H id with
       | some (.rvec g' k ls size) => match ti.agg with
         | false => Asm (fun _ => g' = g) fun _ => RIx ls i fun l => K ⟨some (d, .rtok id k i l), none⟩ [id] nx
         | true => False
       | _ => False
     | _ => False
 | .indexAddr t a i => match o.dst with
   | none => False
   | some d => need (tt t) fun ti => need (ev A.T a) fun p => need (intL (ev A.T i)) fun n => match ti.kind with
     | .slice _ es _ => match p with
       | .vec id g sz lo m => match nth A.H id with
         | some (.vec g' L sz') => if sz = es then (if es = 0 then False else Asm (fun _ => g' = g) fun _ => Asm (fun _ => 0 ≤ n ∧ n < m) fun _ => Nm (fun _ => (lo + n.toNat) * es) fun off => K ⟨some (d, .vref id g off), none⟩ [id] nx) else False
         | _ => False
       | .rvec id g m => if es = 1 then (match nth A.H id with
         | some (.rvec g' _ _ _) => Asm (fun _ => g' = g) fun _ => Asm (fun _ => 0 ≤ n ∧ n < m) fun _ => Nm (fun _ => n.toNat) fun i => K ⟨some (d, .rref id g i), none⟩ [id] nx
         | some (.rhole g' _ _ _ _) => Asm (fun _ => g' = g) fun _ => Asm (fun _ => 0 ≤ n ∧ n < m) fun _ => Nm (fun _ => n.toNat) fun i => K ⟨some (d, .rref id g i), none⟩ [id] nx
         | _ => False) else False
       | _ => False
     | _ => False
 | .slice t x lo hi none => match o.dst with
   | none => False
   | some d => need (tt t) fun ti => need (ev A.T x) fun p => match ti.kind with
     | .slice _ es _ => match p with
       | .vec id g sz lo0 m => if sz = es then (if es = 0 then False else need (loI A.T 0 lo) fun l => need (loI A.T m hi) fun h => Asm (fun _ => 0 ≤ l ∧ l ≤ h ∧ h ≤ m) fun _ =>
             Nm (fun _ => lo0 + l.toNat) fun a => Nm (fun _ => h.toNat - l.toNat) fun n => K ⟨some (d, .vec id g es a n), none⟩ [] nx) else False
       | _ => False
     | _ => False
 | .convert s d x => match o.dst with
   | none => False
   | some dd => need (tt s) fun si => need (tt d) fun di => need (ev A.T x) fun v => match di.kind with
     | .slice e _ _ => need (tt e) fun ei => match ei.kind with
       | .num .u8 => match si.kind with
         | .str => match v with
           | .p (.str q) => Asm (fun _ => q.size ≤ maxLen) fun _ => Nm (fun _ => bytesL q) fun L => K ⟨some (dd, .p (.sl L)), none⟩ [] nx
           | _ => False
         | _ => False
       | _ => False
     | .str => match si.kind with
       | .slice e _ _ => need (tt e) fun ei => match ei.kind with
         | .num .u8 => need (elemsV v) fun l => Asm (fun _ => isU8s l = true) fun _ => Nm (fun _ => strOf l) fun z => K ⟨some (dd, .p (.str z)), none⟩ [] nx
         | _ => False
       | _ => False
     | _ => False
 | .buildSlice t n ps => match o.dst with
   | none => False
   | some d => nilsX tt d nx t n ps.toList K
 | .call c => match o.dst with
   | none => False
   | some d => match c.callee with
     | .builtin .append => match c.args.toList with
       | [s, x] => match c.argTypes.toList with
         | [t, xt] => need (ev A.T s) fun sv => need (ev A.T x) fun xv => xappN tt A nx d t xt sv xv K
         | _ => False
       | _ => False
     | _ => False
 | _ => False
theorem intL_ev {G : Ghost} {nt : NT} {T : List (Nat × AV)} {a : Act} (tr : TR nt G T a) {o : Operand} {n : Int} (h : intL (ev T o) = some n) : ∃ q, a.eval o = .int q n := by
 obtain ⟨q, hq⟩ := intL_ok h
 exact ⟨q, p_int (ev_ok tr hq)⟩
theorem loI_ev {G : Ghost} {nt : NT} {T : List (Nat × AV)} {a : Act} (tr : TR nt G T a) {d n : Int} {o : Option Operand} (h : loI T d o = some n) : (o.map a.eval = none ∧ n = d) ∨ ∃ q, o.map a.eval = some (.int q n) := by
 cases o with
 | none => simp only [loI, Option.some.injEq] at h; exact .inl ⟨rfl, h.symm⟩
 | some x => obtain ⟨q, hq⟩ := intL_ev tr h; exact .inr ⟨q, by simp [hq]⟩
theorem nils_ok {P : Program} {B : Base} {G : Ghost} {H : List AObj} {w : World} (wr : WR B G H w) {t e es eb : Nat} {ti ei : TI} (kt : tinfo P t = some ti) (kk : ti.kind = .slice e es eb) (ke : tinfo P e = some ei) (h1 : es = 1) (hsz : ei.size = 1) (hzl : ei.zero.length = 1) :
   ∃ v w' G', (Instr.buildSlice t 1 #[(0, nilV)]).run P w = .ok v w' ∧ GExt G G' ∧ WR B G' H w' ∧ RV G' (.nils 1) v ∧ G'.obj = G.obj := by
 subst h1
 obtain ⟨i, d, z, k⟩ := tinfo_ok kt
 obtain ⟨i', d', z', k'⟩ := tinfo_ok ke
 have hd := k.kind
 rw [kk] at hd
 cases d <;> simp only [tkind, reduceCtorEq, TK.slice.injEq] at hd
 rename_i et
 obtain ⟨he, hes', heb⟩ := hd
 subst he
 have hzs : z'.cells.size = 1 := by rw [(k'.zero_rv (G := G)).1, hzl]
 have hsize : (sizeOf et).run P w = .ok 1 w := by rw [k'.run_size w, hsz]
 have g := wr.newMem #[nilV] et
 refine ⟨.slice (some ⟨w.heap.size, 0, none⟩) 1 1, _, _, ?_, g.2, g.1, .nils ⟨w.heap.size, rfl, by simp [maxLen], fun j hj => ?_⟩, rfl⟩
 · have hf : ∀ (c : Array Value), c.size = 1 → Instr.fill (fun i => some (i, 1)) c [(0, nilV)] = some #[nilV] := fun c hc => by
     have e1 : nilV.cells = #[nilV] := rfl
     obtain ⟨x, rfl⟩ : ∃ x, c = #[x] := by
       match c, hc with
       | ⟨[x]⟩, _ => exact ⟨x, rfl⟩
     simp only [Instr.fill, e1]
     simp
   simp only [Instr.buildSlice, Sem.run_bind, k.run_und w, Result.andThen_ok, hsize]
   simp [k'.run_zero w, newRow, Array.range]
   rw [hf _ (by simp)]
   rfl
 · have : j = 0 := by omega
   subst this
   show (if w.heap.size = w.heap.size then (#[nilV] : Array Value)[0]? else _) = _
   rw [if_pos rfl]; rfl
theorem xeN_ok {P : Program} {tt : TypeId → Option TI} (htt : TTOk P tt) {o : Oper} {A : AS} {nx : Nat} {K : Ef → List Nat → Nat → Prop} (hl0 : A.H.length = nx) (h : xeN tt o A nx K) :
   ∃ e fp nx', EfR P o A nx e fp nx' ∧ K e fp nx' := by
 have lt_of : ∀ {id : Nat} {y : AObj}, A.H[id]? = some y → id < nx := fun hy => by rw [← hl0]; exact (List.getElem?_eq_some_iff.1 hy).1
 have lift : ∀ {s : Sem Value} {v : Value} {w w' : World}, s.run P w = .ok v w' → (do pure (Next.value (← s)) : Sem Next).run P w = .ok (.value v) w' := by
   intro s v w w' hs; simp only [Sem.run_bind, hs, Result.andThen_ok, Sem.run_pure]
 have one : ∀ {id : Nat} {y : AObj}, A.H[id]? = some y → (A.H.length = nx → ∀ j, j ∈ [id] → j < nx) := fun hy _ j hj => by simp at hj; subst hj; exact lt_of hy
 have noy : ∀ {l : List Nat} (id : Nat) (z : AObj), (none : Option (Nat × AObj)) = some (id, z) → id ∈ l := fun id z e => by cases e
 unfold xeN at h
 split at h
 · rename_i t a x ho
   split at h <;> try (exact h.elim)
   rename_i hd
   replace h := need_iff.1 h
   obtain ⟨ti, hti, h⟩ := h
   replace h := need_iff.1 h
   obtain ⟨p, hp, h⟩ := h
   replace h := need_iff.1 h
   obtain ⟨v, hv, h⟩ := h
   have evs : ∀ {T : List (Nat × AV)}, AgT T A.T o.op → ev T a = some p ∧ ev T x = some v := fun ag =>
     ⟨by rw [← hp]; exact ag.ev (by rw [ho]; simp [Op.operands]), by rw [← hv]; exact ag.ev (by rw [ho]; simp [Op.operands])⟩
   split at h <;> try (exact h.elim)
   · rename_i id g off
     split at h <;> try (exact h.elim)
     rename_i g' L sz hid
     replace h := need_iff.1 h
     obtain ⟨l, hl, h⟩ := h
     replace h := need_iff.1 h
     obtain ⟨pl, hpl, h⟩ := h
     split at h <;> try (exact h.elim)
     rename_i hsz
     split at h <;> try (exact h.elim)
     rename_i hs0
     obtain rfl := h.c
     obtain ⟨i, q1, q2, q3, q4⟩ := h.k.of
     rw [nth_eq] at hid
     rw [cellsX_eq] at hl
     rw [optL_eq] at hpl
     refine ⟨_, _, _, EfR.stF hd (fun _ => lt_of hid) (fun {nt B G T H a' w} tr wr ag agH => ?_), q4 _ rfl⟩
     obtain ⟨e1, e2⟩ := evs ag
     obtain ⟨w', G', r1, r2, r3, r4⟩ := vstore_ok wr (htt _ _ hti) (ev_ok tr e1) (ev_ok tr e2) hl hpl (by rw [agH]; exact hid) q1 q2 q3 hsz hs0
     exact ⟨w', G', by simp only [execOp, ho, Sem.run_bind, r1, Result.andThen_ok, Sem.run_pure], r2, r3, r4⟩
   · rename_i id g i
     split at h <;> try (exact h.elim)
     rename_i g' k ls size i' hid
     split at h <;> try (exact h.elim)
     rename_i id' k' i'' l
     split at h <;> try (exact h.elim)
     rename_i h1
     split at h <;> try (exact h.elim)
     rename_i h2
     subst h1
     obtain ⟨rfl, rfl, rfl, rfl, hi⟩ := h.c
     rw [nth_eq] at hid
     refine ⟨_, _, _, EfR.stF hd (fun _ => lt_of hid) (fun {nt B G T H a' w} tr wr ag agH => ?_), h.k⟩
     obtain ⟨e1, e2⟩ := evs ag
     obtain ⟨w', r1, r2⟩ := rstore_ok wr (htt _ _ hti) h2 (ev_ok tr e1) (ev_ok tr e2) (by rw [agH]; exact hid) hi
     exact ⟨w', G, by simp only [execOp, ho, Sem.run_bind, r1, Result.andThen_ok, Sem.run_pure], GExt.refl G, r2, fun _ h => h⟩
 · rename_i t a ho
   split at h <;> try (exact h.elim)
   rename_i d hd
   replace h := need_iff.1 h
   obtain ⟨ti, hti, h⟩ := h
   replace h := need_iff.1 h
   obtain ⟨p, hp, h⟩ := h
   have evs : ∀ {T : List (Nat × AV)}, AgT T A.T o.op → ev T a = some p := fun ag => by rw [← hp]; exact ag.ev (by rw [ho]; simp [Op.operands])
   split at h <;> try (exact h.elim)
   · rename_i id g off
     split at h <;> try (exact h.elim)
     rename_i g' L sz hid
     split at h <;> try (exact h.elim)
     rename_i hsz
     split at h <;> try (exact h.elim)
     rename_i hs0
     obtain rfl := h.c
     obtain ⟨i, e, q1, q2, h⟩ := h.k.of
     replace h := need_iff.1 h
     obtain ⟨v, hv, h⟩ := h
     rw [nth_eq] at hid
     refine ⟨_, _, _, EfR.mkF hd (one hid) noy (fun {nt B G T H a' w} tr wr ag agH => ?_), h⟩
     obtain ⟨u, r1, r2⟩ := vload_ok (htt _ _ hti) wr (ev_ok tr (evs ag)) (by rw [agH id (by simp)]; exact hid) q1 q2 hsz hs0 hv
     exact ⟨u, w, G, by simp only [execOp, ho]; exact lift r1, GExt.refl G, r2, wr, fun _ h => h⟩
   · rename_i id g i
     split at h <;> try (exact h.elim)
     rename_i g' k ls size hid
     split at h <;> try (exact h.elim)
     rename_i hag
     obtain rfl := h.c
     obtain ⟨l, hl, h⟩ := h.k.of
     rw [nth_eq] at hid
     refine ⟨_, _, _, EfR.mkF hd (one hid) noy (fun {nt B G T H a' w} tr wr ag agH => ?_), h⟩
     obtain ⟨u, r1, r2⟩ := rload_ok (htt _ _ hti) hag (ev_ok tr (evs ag)) (wr.objs id (.rvec g' k ls size) (by rw [agH id (by simp)]; exact hid)) hl
     exact ⟨u, w, G, by simp only [execOp, ho]; exact lift r1, GExt.refl G, r2, wr, fun _ h => h⟩
 · rename_i t a i ho
   split at h <;> try (exact h.elim)
   rename_i d hd
   replace h := need_iff.1 h
   obtain ⟨ti, hti, h⟩ := h
   replace h := need_iff.1 h
   obtain ⟨p, hp, h⟩ := h
   replace h := need_iff.1 h
   obtain ⟨n, hn, h⟩ := h
   have evs : ∀ {T : List (Nat × AV)}, AgT T A.T o.op → ev T a = some p ∧ intL (ev T i) = some n := fun ag =>
     ⟨by rw [← hp]; exact ag.ev (by rw [ho]; simp [Op.operands]), by rw [← hn]; congr 1; exact ag.ev (by rw [ho]; simp [Op.operands])⟩
   split at h <;> try (exact h.elim)
   rename_i e es eb hk
   split at h <;> try (exact h.elim)
   · rename_i id g sz lo m
     split at h <;> try (exact h.elim)
     rename_i g' L sz' hid
     split at h <;> try (exact h.elim)
     rename_i h1
     subst h1
     split at h <;> try (exact h.elim)
     rename_i hs0
     obtain rfl := h.c
     obtain ⟨q1, q2⟩ := h.k.c
     rw [nth_eq] at hid
     refine ⟨_, _, _, EfR.mkF hd (one hid) noy (fun {nt B G T H a' w} tr wr ag agH => ?_), h.k.k.get⟩
     obtain ⟨e1, e2⟩ := evs ag
     obtain ⟨q, e3⟩ := intL_ev tr e2
     obtain ⟨u, r1, r2⟩ := vidx_ok (htt _ _ hti) wr (ev_ok tr e1) (q := q) hk (by rw [agH id (by simp)]; exact hid) q1 q2 hs0
     exact ⟨u, w, G, by simp only [execOp, ho, e3]; exact lift r1, GExt.refl G, r2, wr, fun _ h => h⟩
   · rename_i id g m
     split at h <;> try (exact h.elim)
     rename_i h1
     subst h1
     split at h <;> try (exact h.elim)
     · rename_i g' k ls size hid
       obtain rfl := h.c
       obtain ⟨q1, q2⟩ := h.k.c
       rw [nth_eq] at hid
       refine ⟨_, _, _, EfR.mkF hd (one hid) noy (fun {nt B G T H a' w} tr wr ag agH => ?_), h.k.k.get⟩
       obtain ⟨e1, e2⟩ := evs ag
       obtain ⟨q, e3⟩ := intL_ev tr e2
       obtain ⟨u, r1, r2⟩ := ridx_ok (htt _ _ hti) (ev_ok tr e1) (q := q) hk (wr.objs id (.rvec g' k ls size) (by rw [agH id (by simp)]; exact hid)) q1 q2
       exact ⟨u, w, G, by simp only [execOp, ho, e3]; exact lift r1, GExt.refl G, r2, wr, fun _ h => h⟩
     · rename_i g' k ls size i' hid
       obtain rfl := h.c
       obtain ⟨q1, q2⟩ := h.k.c
       rw [nth_eq] at hid
       refine ⟨_, _, _, EfR.mkF hd (one hid) noy (fun {nt B G T H a' w} tr wr ag agH => ?_), h.k.k.get⟩
       obtain ⟨e1, e2⟩ := evs ag
       obtain ⟨q, e3⟩ := intL_ev tr e2
       obtain ⟨u, r1, r2⟩ := ridx_ok (htt _ _ hti) (ev_ok tr e1) (q := q) hk (wr.objs id (.rhole g' k ls size i') (by rw [agH id (by simp)]; exact hid)) q1 q2
       exact ⟨u, w, G, by simp only [execOp, ho, e3]; exact lift r1, GExt.refl G, r2, wr, fun _ h => h⟩
 · rename_i t x lo hi ho
   split at h <;> try (exact h.elim)
   rename_i d hd
   replace h := need_iff.1 h
   obtain ⟨ti, hti, h⟩ := h
   replace h := need_iff.1 h
   obtain ⟨p, hp, h⟩ := h
   split at h <;> try (exact h.elim)
   rename_i e es eb hk
   split at h <;> try (exact h.elim)
   rename_i id g sz lo0 m
   split at h <;> try (exact h.elim)
   rename_i h1
   subst h1
   split at h <;> try (exact h.elim)
   rename_i hs0
   replace h := need_iff.1 h
   obtain ⟨l, hl, h⟩ := h
   replace h := need_iff.1 h
   obtain ⟨u, hu, h⟩ := h
   obtain ⟨q1, q2, q3⟩ := h.c
   have hK := h.k.get.get
   obtain ⟨l', rfl⟩ := Int.eq_ofNat_of_zero_le q1
   obtain ⟨u', rfl⟩ := Int.eq_ofNat_of_zero_le (show (0 : Int) ≤ u by omega)
   simp only [Int.toNat_natCast] at hK
   refine ⟨_, _, _, EfR.mkF hd (fun _ j hj => by simp at hj) (fun _ _ e => by cases e) (fun {nt B G T H a' w} tr wr ag agH => ?_), hK⟩
   have e1 : ev T x = some (.vec id g sz lo0 m) := by rw [← hp]; exact ag.ev (by rw [ho]; simp [Op.operands])
   have e2 : loI T 0 lo = some (l' : Int) := by
     rw [← hl]; cases lo with
     | none => rfl
     | some y => simp only [loI]; rw [ag.ev (x := y) (by rw [ho]; simp [Op.operands])]
   have e3 : loI T m hi = some (u' : Int) := by
     rw [← hu]; cases hi with
     | none => rfl
     | some y => simp only [loI]; rw [ag.ev (x := y) (by rw [ho]; simp [Op.operands])]
   have f2 := loI_ev tr e2
   have f3 := loI_ev tr e3
   obtain ⟨v, r1, r2⟩ := vslice_rv (w := w) (htt _ _ hti) (ev_ok tr e1) hk hs0 (lv := lo.map a'.eval) (hv := hi.map a'.eval) (i := l') (j := u') (f2.imp (fun ⟨a, b⟩ => ⟨a, by omega⟩) (fun h => h)) (f3.imp (fun ⟨a, b⟩ => ⟨a, by omega⟩) (fun h => h)) (by omega) (by omega)
   exact ⟨v, w, G, by simp only [execOp, ho, Option.map_none]; exact lift r1, GExt.refl G, r2, wr, fun _ h => h⟩
 · rename_i s d x ho
   split at h <;> try (exact h.elim)
   rename_i dd hd
   replace h := need_iff.1 h
   obtain ⟨si, hsi, h⟩ := h
   replace h := need_iff.1 h
   obtain ⟨di, hdi, h⟩ := h
   replace h := need_iff.1 h
   obtain ⟨v, hv, h⟩ := h
   have evs : ∀ {T : List (Nat × AV)}, AgT T A.T o.op → ev T x = some v := fun ag => by rw [← hv]; exact ag.ev (by rw [ho]; simp [Op.operands])
   split at h <;> try (exact h.elim)
   · rename_i e es eb hk
     replace h := need_iff.1 h
     obtain ⟨ei, hei, h⟩ := h
     split at h <;> try (exact h.elim)
     rename_i hek
     split at h <;> try (exact h.elim)
     rename_i hsk
     split at h <;> try (exact h.elim)
     rename_i q
     have hmax := h.c
     refine ⟨_, _, _, EfR.mkF (y := none) hd (fun _ j hj => by simp at hj) noy (fun {nt B G T H a' w} tr wr ag agH => ?_), h.k.get⟩
     have eq := p_str (ev_ok tr (evs ag))
     obtain ⟨u, w', G', r1, r2, r3, r4, r5⟩ := tobytes_ok wr (htt _ _ hsi) hsk (htt _ _ hdi) hk (htt _ _ hei) hek hmax
     exact ⟨u, w', G', by simp only [execOp, ho, eq]; exact lift r1, r2, r4, r3, fun j hj => by rw [r5]; exact hj⟩
   · rename_i hdk
     split at h <;> try (exact h.elim)
     rename_i e es eb hsk
     replace h := need_iff.1 h
     obtain ⟨ei, hei, h⟩ := h
     split at h <;> try (exact h.elim)
     rename_i hek
     replace h := need_iff.1 h
     obtain ⟨l, hl, h⟩ := h
     have hu8 := h.c
     refine ⟨_, _, _, EfR.mkF (y := none) hd (fun _ j hj => by simp at hj) noy (fun {nt B G T H a' w} tr wr ag agH => ?_), h.k.get⟩
     have r1 := tostr_ok (P := P) wr.mem (htt _ _ hsi) hsk (htt _ _ hdi) hdk (htt _ _ hei) hek (elemsV_ok (ev_ok tr (evs ag)) hl) hu8
     exact ⟨_, w, G, by simp only [execOp, ho]; exact lift r1, GExt.refl G, .p (.str _), wr, fun _ h => h⟩
 · rename_i t n ps ho
   split at h <;> try (exact h.elim)
   rename_i d hd
   unfold nilsX at h
   split at h <;> try (exact h.elim)
   rename_i hn hps
   replace h := need_iff.1 h
   obtain ⟨ti, hti, h⟩ := h
   split at h <;> try (exact h.elim)
   rename_i e es eb hk
   replace h := need_iff.1 h
   obtain ⟨ei, hei, h⟩ := h
   split at h <;> try (exact h.elim)
   rename_i h1
   split at h <;> try (exact h.elim)
   rename_i h2
   split at h <;> try (exact h.elim)
   rename_i z0 hz
   refine ⟨_, _, _, EfR.mkF (y := none) hd (fun _ j hj => by simp at hj) noy (fun {nt B G T H a' w} tr wr ag agH => ?_), h⟩
   obtain ⟨u, w', G', r1, r2, r3, r4, r5⟩ := nils_ok wr (htt _ _ hti) hk (htt _ _ hei) h1 h2 (by rw [hz]; rfl)
   have eps : ps = #[(0, .const nilV)] := by apply Array.ext'; rw [hps]
   exact ⟨u, w', G', by simp only [execOp, ho, eps, List.map_toArray, List.map_cons, List.map_nil, Act.eval]; exact lift r1, r2, r4, r3, fun j hj => by rw [r5]; exact hj⟩
 · rename_i c ho
   obtain ⟨callee, args, ats⟩ := c
   simp only at h
   split at h <;> try (exact h.elim)
   rename_i d hd
   split at h <;> try (exact h.elim)
   split at h <;> try (exact h.elim)
   rename_i s x ha
   split at h <;> try (exact h.elim)
   rename_i t xt ht
   replace h := need_iff.1 h
   obtain ⟨sv, hs, h⟩ := h
   replace h := need_iff.1 h
   obtain ⟨xv, hx, h⟩ := h
   have ha := arr2 ha; have ht := arr2 ht; subst ha ht
   exact xappN_ok htt ho hd hl0 hs hx h
 · exact h.elim
end Go.Proofs.Ytcajncmjlmpkgaa
