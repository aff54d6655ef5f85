/- Rows of lists that are one's own ('rvec'): an inner list is loaded, appended to and stored back; the row itself grows. Own work; no condition. -/
import Derived.Test.YtcajncmjlmpkgaaPcAbsV
namespace Go.Proofs.Ytcajncmjlmpkgaa
open Go Go.RowKit
set_option linter.unusedVariables false
theorem WR.updG {B : Base} {G G' : Ghost} {H H' : List AObj} {w w' : World} {id : Nat} {g0 : GO} {x : AObj} (h : WR B G H w) (hup : Upd H H' id x) (ext : GExt G G') (hG : G'.obj = fun i => if i = id then some g0 else G.obj i)
   (hbelow : Below B.w.heap.size B.w w') (hmem : ∀ b o v, G'.mem b o = some v → w'.cell? ⟨b, o, none⟩ = some v) (hnews : ∀ b o v, G'.mem b o = some v → B.m b o = some v ∨ B.w.heap.size ≤ b)
   (hx : ObjR G' w' id x) (hblk : ∀ i g b, i ≠ id → G.obj i = some g → g.has b → w'.heap[b]? = w.heap[b]? ∧ (∀ o, G'.mem b o = G.mem b o) ∧ ¬ g0.has b)
   (hsz : w.heap.size ≤ w'.heap.size) (hown : ∀ b, g0.has b → B.w.heap.size ≤ b ∧ b < w'.heap.size) (hkeep : ∀ b y, B.pr b = some y → w'.heap[b]? = w.heap[b]? ∧ ∀ o, G'.mem b o = G.mem b o) (hap : ∀ b, g0.has b → B.pr b = none) : WR B G' H' w' := by
 refine ⟨hbelow, hmem, hnews, fun b o v hv => ext.mem _ _ _ (h.olds b o v hv), fun j y hy => ?_, fun i j a b k hi hj ha hb => ?_, fun i a b hi ha => ?_, fun j hj => ?_, fun b y f hb => ?_, fun i a b hi ha => ?_⟩
 · by_cases e : j = id
   · subst e; rw [hup.at_] at hy; simp only [Option.some.injEq] at hy; subst hy; exact hx
   · rw [hup.other j e] at hy
     refine (h.objs j y hy).keep ext (by rw [hG]; simp [e]) (fun g b hg hb => (hblk j g b e hg hb).1) (fun g b o hg hb => (hblk j g b e hg hb).2.1 o)
 · rw [hG] at hi hj
   simp only at hi hj
   split at hi <;> split at hj
   · omega
   · rename_i e1 e2
     simp only [Option.some.injEq] at hi; subst hi
     exact absurd ha (hblk j b k e2 hj hb).2.2
   · rename_i e1 e2
     simp only [Option.some.injEq] at hj; subst hj
     exact absurd hb (hblk i a k e1 hi ha).2.2
   · exact h.sep i j a b k hi hj ha hb
 · rw [hG] at hi
   simp only at hi
   split at hi
   · simp only [Option.some.injEq] at hi; subst hi
     exact hown b ha
   · have := h.fresh i a b hi ha
     exact ⟨this.1, by omega⟩
 · obtain ⟨h1, h2⟩ := hup.dom j hj
   rw [hG]; simp only [h2, if_false]; exact h.dom j h1
 · obtain ⟨h1, h2⟩ := h.keep b y f hb
   obtain ⟨k1, k2⟩ := hkeep b _ hb
   exact ⟨by rw [k1]; exact h1, by rw [← h2]; funext o; exact k2 o⟩
 · rw [hG] at hi
   simp only at hi
   split at hi
   · simp only [Option.some.injEq] at hi; subst hi
     exact hap b ha
   · exact h.apart i a b hi ha
def Ghost.put (G : Ghost) (id : Nat) (x : GO) (mem : Mem) : Ghost := { mem := mem, obj := fun i => if i = id then some x else G.obj i }
theorem Ghost.put_obj (G : Ghost) (id : Nat) (x : GO) (mem : Mem) : (G.put id x mem).obj id = some x := by simp [Ghost.put]
theorem Ghost.put_none {G : Ghost} {id : Nat} {x y : GO} {mem : Mem} (h : G.obj id = some y) : ∀ j, G.obj j = none → (G.put id x mem).obj j = none := by
 intro j hj
 have : j ≠ id := fun e => by subst e; rw [h] at hj; cases hj
 simp [Ghost.put, this, hj]
theorem GExt.fam_put {G : Ghost} {id c c' k k' : Nat} {u u' : Value} {o o' : Option Nat} {cv cv' : Nat → Value} {s s' : Nat → Option Nat} {mem : Mem} (h : G.obj id = some (.fam c u o k cv s)) (hm : ∀ b o v, G.mem b o = some v → mem b o = some v) (h1 : c ≤ c') (h2 : c' = c → u' = u) (h3 : k ≤ k') (h4 : k' = k → cv' = cv) :
   GExt G (G.put id (.fam c' u' o' k' cv' s') mem) := by
 refine ⟨hm, fun j b hb => ?_, fun j c1 u1 o1 hj => ?_, fun j c1 u1 o1 k1 v1 s1 hj => ?_⟩
 · have : j ≠ id := fun e => by subst e; rw [h] at hb; cases hb
   simp [Ghost.put, this, hb]
 · have : j ≠ id := fun e => by subst e; rw [h] at hj; cases hj
   exact ⟨c1, u1, o1, by simp [Ghost.put, this, hj], Nat.le_refl _, fun _ => rfl⟩
 · by_cases e : j = id
   · subst e
     rw [h] at hj
     simp only [Option.some.injEq, GO.fam.injEq] at hj
     obtain ⟨rfl, rfl, rfl, rfl, rfl, rfl⟩ := hj
     exact ⟨c', u', o', k', cv', s', Ghost.put_obj _ _ _ _, h1, h2, h3, h4⟩
   · exact ⟨c1, u1, o1, k1, v1, s1, by simp [Ghost.put, e, hj], Nat.le_refl _, fun _ => rfl, Nat.le_refl _, fun _ => rfl⟩
structure FamAt (G : Ghost) (w : World) (id g k : Nat) (ls : List (List (List PV))) (size : Nat) (h : Option Nat) (a : Option Addr) (cap : Nat) (own : Option Nat) (cv : Nat → Value) (sub : Nat → Option Nat) : Prop where
 obj : G.obj id = some (.fam g (.slice a cap cap) own k cv sub)
 row : RowR G w a ls.length cap 1 own (fun i v => i < ls.length → h ≠ some i → v = cv i)
 lst : ∀ i l, ls[i]? = some l → OwnR G w l size (sub i) (cv i)
 dis : ∀ i j b, sub i = some b → sub j = some b → i = j
 apart : ∀ i b, sub i = some b → own ≠ some b
 tail : ∀ i, ls.length ≤ i → sub i = none
theorem fam_open {G : Ghost} {w : World} {id g k : Nat} {ls : List (List (List PV))} {size : Nat} {h : Option Nat} (f : FamR G w id g k ls size h) : ∃ a cap own cv sub, FamAt G w id g k ls size h a cap own cv sub :=
 let ⟨a, cap, own, cv, sub, h1, h2, h3, h4, h5, h6⟩ := f; ⟨a, cap, own, cv, sub, h1, h2, h3, h4, h5, h6⟩
theorem rvec_val {G : Ghost} {w : World} {id g k n : Nat} {ls : List (List (List PV))} {size : Nat} {h : Option Nat} {a : Option Addr} {cap : Nat} {own : Option Nat} {cv : Nat → Value} {sub : Nat → Option Nat} (f : FamAt G w id g k ls size h a cap own cv sub) {v : Value} (r : RV G (.rvec id g n) v) :
   ∃ a', v = .slice a' n cap ∧ n ≤ cap ∧ (0 < cap → ∃ b, a = some ⟨b, 0, none⟩ ∧ a' = some ⟨b, 0, none⟩) := by
 cases r with
 | rvec ho hg hs hv =>
   rw [f.obj] at ho
   simp only [Option.some.injEq, GO.fam.injEq] at ho
   obtain ⟨rfl, rfl, rfl, rfl, rfl, rfl⟩ := ho
   obtain ⟨a2, cap2, a', e1, e2, e3, e4, e5⟩ := hv rfl
   simp only [Value.slice.injEq] at e1
   obtain ⟨rfl, rfl, _⟩ := e1
   refine ⟨a', by simpa using e4, by omega, fun h => ?_⟩
   simpa using e5 h
theorem ridx_ok {P : Program} {t : TypeId} {ti : TI} (kt : tinfo P t = some ti) {G : Ghost} {w : World} {id g n e eb : Nat} {pv : Value} (rp : RV G (.rvec id g n) pv) {q : IntKind} {i : Int} (hk : ti.kind = .slice e 1 eb)
   {k : Nat} {ls : List (List (List PV))} {size : Nat} {h : Option Nat} (hf : FamR G w id g k ls size h) (h0 : 0 ≤ i) (hn : i < n) : ∃ v, (Instr.indexAt t pv (.int q i)).run P w = .ok v w ∧ RV G (.rref id g i.toNat) v := by
 obtain ⟨a, cap, own, cv, sub, F⟩ := fam_open hf
 obtain ⟨a', rfl, h1, h2⟩ := rvec_val F rp
 obtain ⟨b, rfl, rfl⟩ := h2 (by omega)
 obtain ⟨i', d, z, k'⟩ := tinfo_ok kt
 have hd := k'.kind
 rw [hk] at hd
 cases d <;> simp only [tkind, reduceCtorEq, TK.slice.injEq] at hd
 rename_i et
 obtain ⟨_, hs, _⟩ := hd
 have und := k'.run_und w
 have hs0 : P.cellsOf et ≠ 0 := by omega
 refine ⟨.pointer (some ⟨b, i.toNat, none⟩), ?_, .rref F.obj (Nat.le_refl _) ⟨_, rfl⟩ (fun _ => ⟨b, cap, rfl, rfl⟩)⟩
 simp [Instr.indexAt, asIntOf, und, h0, hn, run_sizeOf' hs0, Addr.add_lit, hs]
theorem rref_at {G : Ghost} {w : World} {id g k i : Nat} {ls : List (List (List PV))} {size : Nat} {h : Option Nat} {a : Option Addr} {cap : Nat} {own : Option Nat} {cv : Nat → Value} {sub : Nat → Option Nat} (f : FamAt G w id g k ls size h a cap own cv sub) {v : Value} (r : RV G (.rref id g i) v) (hi : i < ls.length) :
   ∃ b arr t, own = some b ∧ a = some ⟨b, 0, none⟩ ∧ w.heap[b]? = some (.cells arr t (0, 0)) ∧ arr.size = cap ∧ ls.length ≤ cap ∧ cap ≤ maxLen ∧ (∀ (j : Nat) v, arr[j]? = some v → j < ls.length → h ≠ some j → v = cv j) ∧ (∀ o, G.mem b o = none) ∧ v = .pointer (some ⟨b, i, none⟩) := by
 obtain ⟨r1, r2, r3⟩ := f.row
 cases r with
 | rref ho hg hs hv =>
   rw [f.obj] at ho
   simp only [Option.some.injEq, GO.fam.injEq] at ho
   obtain ⟨rfl, rfl, rfl, rfl, rfl, rfl⟩ := ho
   obtain ⟨b', cap2, e1, e2⟩ := hv rfl
   simp only [Value.slice.injEq] at e1
   obtain ⟨rfl, rfl, _⟩ := e1
   rcases r3 with ⟨_, r3⟩ | ⟨b, arr, t, q1, q2, q3, q4, q5, q6⟩
   · omega
   · simp only [Option.some.injEq, Addr.mk.injEq] at q2
     obtain ⟨rfl, _⟩ := q2
     exact ⟨b', arr, t, q1, rfl, q3, by simpa using q4, r1, r2, q5, q6, e2⟩
theorem rload_ok {P : Program} {t : TypeId} {ti : TI} (kt : tinfo P t = some ti) (ha : ti.agg = false) {G : Ghost} {w : World} {id g k i : Nat} {pv : Value} (rp : RV G (.rref id g i) pv) {ls : List (List (List PV))} {size : Nat} (hf : FamR G w id g k ls size none) {l : List (List PV)} (hl : ls[i]? = some l) :
   ∃ v, (Instr.loadAt t pv).run P w = .ok v w ∧ RV G (.rtok id k i l) v := by
 obtain ⟨a, cap, own, cv, sub, F⟩ := fam_open hf
 have hi := (List.getElem?_eq_some_iff.1 hl).1
 obtain ⟨b, arr, ty, h1, h2, h3, h4, h5, h6, h7, h8, rfl⟩ := rref_at F rp hi
 obtain ⟨i', d, z, k'⟩ := tinfo_ok kt
 have hv : arr[i]? = some (arr[i]'(by omega)) := Array.getElem?_eq_getElem _
 have e := h7 i _ hv hi (by simp)
 refine ⟨_, ?_, .rtok (F.lst i l hl).1 F.obj (Nat.le_refl _) (fun _ => rfl)⟩
 simp only [Instr.loadAt, Instr.sureAddr, Sem.run_bind, Sem.run_pure, Result.andThen_ok]
 refine run_loadVar_one k' w ha _ _ ?_
 rw [cell_of_row w b i arr ty (0, 0) h3, hv, e]
theorem rtok_val {G : Ghost} {w : World} {id g k i : Nat} {ls : List (List (List PV))} {size : Nat} {h : Option Nat} {a : Option Addr} {cap : Nat} {own : Option Nat} {cv : Nat → Value} {sub : Nat → Option Nat} (f : FamAt G w id g k ls size h a cap own cv sub) {l : List (List PV)} {v : Value} (r : RV G (.rtok id k i l) v) : v = cv i := by
 cases r with
 | rtok hp ho hk hv =>
   rw [f.obj] at ho
   simp only [Option.some.injEq, GO.fam.injEq] at ho
   obtain ⟨rfl, rfl, rfl, rfl, rfl, rfl⟩ := ho
   exact (hv rfl).symm
theorem rstore_ok {P : Program} {B : Base} {G : Ghost} {H : List AObj} {w : World} (wr : WR B G H w) {t : TypeId} {ti : TI} (kt : tinfo P t = some ti) (hsz : ti.size = 1) {id g k i : Nat} {pv v : Value} {l : List (List PV)} (rp : RV G (.rref id g i) pv) (r : RV G (.rtok id k i l) v)
   {ls : List (List (List PV))} {size : Nat} (hid : H[id]? = some (.rhole g k ls size i)) (hi : i < ls.length) :
   ∃ w', (Instr.storeAt t pv v).run P w = .ok () w' ∧ WR B G (H.set id (.rvec g k ls size)) w' := by
 obtain ⟨a, cap, own, cv, sub, F⟩ := fam_open (wr.objs id _ hid)
 obtain ⟨b, arr, ty, h1, h2, h3, h4, h5, h6, h7, h8, rfl⟩ := rref_at F rp hi
 have ev := rtok_val F r
 obtain ⟨i', d, z, k'⟩ := tinfo_ok kt
 subst h1
 have hv1 : v.oneCell' = true ∧ v.cells = #[v] := r.one rfl
 have hfit : i + [v].length ≤ arr.toList.length := by simp; omega
 have hst := run_storeCells_at P b i ty [v] 0 arr w h3 (by simpa using hfit) (fun u hu => by simp at hu; subst hu; exact hv1.1)
 have hfr := wr.fresh id _ b F.obj (.inl rfl)
 have eG : G.obj = fun j => if j = id then some (.fam g (.slice a cap cap) (some b) k cv sub) else G.obj j := by
   funext j
   split
   · rename_i e; subst e; exact F.obj
   · rfl
 have hother : ∀ c, c ≠ b → (w.setRow b (splice arr.toList i [v]).toArray).heap[c]? = w.heap[c]? := fun c hc => setRow_other w b c _ hc
 have subne : ∀ j b', sub j = some b' → b' ≠ b := fun j b' h e => by subst e; exact F.apart j _ h rfl
 refine ⟨w.setRow b (splice arr.toList i [v]).toArray, ?_, wr.updG (Upd.set hid _) (GExt.refl G) eG (below_setRow wr.below hfr.1 _) (fun x o u hu => ?_) wr.news ?_ (fun j x b' hj hx hb => ?_) (by rw [setRow_size]; exact Nat.le_refl _) (fun b' hb => ?_) (fun c y hc => ?_) (fun b' hb => wr.apart id _ b' F.obj hb)⟩
 · simp only [Instr.storeAt, Instr.sureAddr, Sem.run_bind, Sem.run_pure, Result.andThen_ok, storeVar, k'.run_size w]
   rw [if_neg (by rw [hv1.2, hsz]; simp), hv1.2]
   simp only [Nat.add_zero] at hst
   exact hst
 · have : x ≠ b := fun e => by subst e; rw [h8 o] at hu; cases hu
   rw [cell_setRow_other w b _ _ this]; exact wr.mem x o u hu
 · refine ⟨a, cap, some b, cv, sub, F.obj, ⟨h5, h6, .inr ⟨b, (splice arr.toList i [v]).toArray, ty, rfl, h2, setRow_heap w b arr _ ty _ h3, ?_, fun j u hu hj _ => ?_, h8⟩⟩, fun j l' hl' => (F.lst j l' hl').keep (fun _ _ _ h => h) (fun b' hb' => hother b' (subne j b' hb')) (fun _ _ _ => rfl), F.dis, F.apart, F.tail⟩
   · rw [List.size_toArray, splice_length _ _ _ (by simpa using hfit), Array.length_toList]; omega
   · rw [List.getElem?_toArray, splice_get _ _ _ (by simpa using hfit)] at hu
     by_cases e : i ≤ j ∧ j < i + [v].length
     · rw [if_pos e] at hu
       simp only [List.length_singleton] at e
       have : j = i := by omega
       subst this
       simp at hu
       rw [← hu]; exact ev
     · rw [if_neg e] at hu
       exact h7 j u (by simpa using hu) hj (fun e' => e (by simp only [Option.some.injEq] at e'; subst e'; simp))
 · have hne : b' ≠ b := fun e => by subst e; exact hj (wr.sep j id x _ b' hx F.obj hb (.inl rfl))
   exact ⟨hother b' hne, fun _ => rfl, fun e => hj (wr.sep j id x _ b' hx F.obj hb e)⟩
 · have := wr.fresh id _ b' F.obj hb
   exact ⟨this.1, by rw [setRow_size]; exact this.2⟩
 · have hne : c ≠ b := fun e => by subst e; rw [wr.apart id _ c F.obj (.inl rfl)] at hc; cases hc
   exact ⟨hother c hne, fun _ => rfl⟩
def updF {α : Type} (f : Nat → α) (i : Nat) (x : α) : Nat → α := fun j => if j = i then x else f j
theorem updF_same {α : Type} (f : Nat → α) (i : Nat) (x : α) : updF f i x i = x := by simp [updF]
theorem updF_ne {α : Type} (f : Nat → α) {i j : Nat} (x : α) (h : j ≠ i) : updF f i x j = f j := by simp [updF, h]
theorem WR.famPut {B : Base} {G : Ghost} {H : List AObj} {w w' : World} (wr : WR B G H w) {id g k i : Nat} {ls : List (List (List PV))} {size : Nat} {a : Option Addr} {cap : Nat} {own : Option Nat} {cv : Nat → Value} {sub : Nat → Option Nat} (hid : H[id]? = some (.rvec g k ls size)) (F : FamAt G w id g k ls size none a cap own cv sub) (hi : i < ls.length)
   {l' : List (List PV)} {v' : Value} {own' : Option Nat} {mem' : Mem} (hm : ∀ b o v, G.mem b o = some v → mem' b o = some v) (hbelow : Below B.w.heap.size B.w w') (hmem : ∀ b o v, mem' b o = some v → w'.cell? ⟨b, o, none⟩ = some v) (hnews : ∀ b o v, mem' b o = some v → B.m b o = some v ∨ B.w.heap.size ≤ b)
   (hsame : ∀ b, b < w.heap.size → sub i ≠ some b → w'.heap[b]? = w.heap[b]? ∧ ∀ o, mem' b o = G.mem b o) (hsz : w.heap.size ≤ w'.heap.size) (hown' : ∀ b, own' = some b → (sub i = some b ∨ w.heap.size ≤ b) ∧ b < w'.heap.size)
   (hO : ∀ G', G'.mem = mem' → OwnR G' w' l' size own' v') :
   WR B (G.put id (.fam g (.slice a cap cap) own (k + 1) (updF cv i v') (updF sub i own')) mem') (H.set id (.rhole g (k + 1) (ls.set i l') size i)) w' ∧ GExt G (G.put id (.fam g (.slice a cap cap) own (k + 1) (updF cv i v') (updF sub i own')) mem') ∧
     RV (G.put id (.fam g (.slice a cap cap) own (k + 1) (updF cv i v') (updF sub i own')) mem') (.rtok id (k + 1) i l') v' ∧ ∀ j, G.obj j = none → (G.put id (.fam g (.slice a cap cap) own (k + 1) (updF cv i v') (updF sub i own')) mem').obj j = none := by
 have hle := wr.below.size
 have subfr : ∀ j b, sub j = some b → B.w.heap.size ≤ b ∧ b < w.heap.size := fun j b h => wr.fresh id _ b F.obj (.inr ⟨j, h⟩)
 have ownfr : ∀ b, own = some b → B.w.heap.size ≤ b ∧ b < w.heap.size := fun b h => wr.fresh id _ b F.obj (.inl h)
 have ext : GExt G (G.put id (.fam g (.slice a cap cap) own (k + 1) (updF cv i v') (updF sub i own')) mem') := GExt.fam_put F.obj hm (Nat.le_refl _) (fun _ => rfl) (Nat.le_succ _) (fun e => by omega)
 have hnew : ∀ b, own' = some b → ∀ j, j ≠ i → sub j ≠ some b := by
   intro b hb j hj hs
   rcases (hown' b hb).1 with h | h
   · exact hj (F.dis j i b hs h)
   · have := (subfr j b hs).2; omega
 refine ⟨wr.updG (Upd.set hid _) ext rfl hbelow hmem hnews ?_ (fun j x b hj hx hb => ?_) hsz (fun b hb => ?_) (fun b y hb => ?_) (fun b hb => ?_), ext, .rtok (hO _ rfl).1 (Ghost.put_obj _ _ _ _) (Nat.le_refl _) (fun _ => updF_same _ _ _), Ghost.put_none F.obj⟩
 · refine ⟨a, cap, own, updF cv i v', updF sub i own', Ghost.put_obj _ _ _ _, ?_, fun j l hl => ?_, fun j j' b h1 h2 => ?_, fun j b h => ?_, fun j hj => ?_⟩
   · rw [List.length_set]
     refine F.row.keep (fun b hb => (hsame b (ownfr b hb).2 (fun e => F.apart i b e hb)).1) (fun b o hb => (hsame b (ownfr b hb).2 (fun e => F.apart i b e hb)).2 o) (fun j v hv hj hne => ?_)
     rw [updF_ne _ _ (fun e => hne (by rw [e]))]
     exact hv hj (by simp)
   · by_cases e : j = i
     · subst e
       rw [List.getElem?_set_self hi] at hl
       simp only [Option.some.injEq] at hl; subst hl
       rw [updF_same, updF_same]; exact hO _ rfl
     · rw [List.getElem?_set_ne (fun h => e h.symm)] at hl
       rw [updF_ne _ _ e, updF_ne _ _ e]
       exact (F.lst j l hl).keep hm (fun b hb => (hsame b (subfr j b hb).2 (fun h => e (F.dis j i b hb h))).1) (fun b o hb => (hsame b (subfr j b hb).2 (fun h => e (F.dis j i b hb h))).2 o)
   · by_cases e1 : j = i <;> by_cases e2 : j' = i
     · omega
     · subst e1; rw [updF_same] at h1; rw [updF_ne _ _ e2] at h2; exact absurd h2 (hnew b h1 j' e2)
     · subst e2; rw [updF_same] at h2; rw [updF_ne _ _ e1] at h1; exact absurd h1 (hnew b h2 j e1)
     · rw [updF_ne _ _ e1] at h1; rw [updF_ne _ _ e2] at h2; exact F.dis j j' b h1 h2
   · by_cases e1 : j = i
     · subst e1; rw [updF_same] at h
       rcases (hown' b h).1 with q | q
       · exact F.apart j b q
       · intro e; have := (ownfr b e).2; omega
     · rw [updF_ne _ _ e1] at h; exact F.apart j b h
   · rw [List.length_set] at hj
     rw [updF_ne _ _ (by omega)]; exact F.tail j hj
 · have hlt := (wr.fresh j x b hx hb).2
   have hns : sub i ≠ some b := fun e => hj (wr.sep j id x _ b hx F.obj hb (.inr ⟨i, e⟩))
   refine ⟨(hsame b hlt hns).1, (hsame b hlt hns).2, ?_⟩
   rintro (e | ⟨q, e⟩)
   · exact hj (wr.sep j id x _ b hx F.obj hb (.inl e))
   · by_cases e1 : q = i
     · subst e1; rw [updF_same] at e
       rcases (hown' b e).1 with h | h
       · exact hns h
       · omega
     · rw [updF_ne _ _ e1] at e
       exact hj (wr.sep j id x _ b hx F.obj hb (.inr ⟨q, e⟩))
 · rcases hb with e | ⟨q, e⟩
   · have := ownfr b e; exact ⟨this.1, by omega⟩
   · by_cases e1 : q = i
     · subst e1; rw [updF_same] at e
       obtain ⟨h1, h2⟩ := hown' b e
       refine ⟨?_, h2⟩
       rcases h1 with h | h
       · exact (subfr q b h).1
       · omega
     · rw [updF_ne _ _ e1] at e
       have := subfr q b e; exact ⟨this.1, by omega⟩
 · have hns : sub i ≠ some b := fun e => by rw [wr.apart id _ b F.obj (.inr ⟨i, e⟩)] at hb; cases hb
   exact hsame b (wr.pr_lt hb) hns
 · rcases hb with e | ⟨q, e⟩
   · exact wr.apart id _ b F.obj (.inl e)
   · by_cases e1 : q = i
     · subst e1; rw [updF_same] at e
       rcases (hown' b e).1 with h | h
       · exact wr.apart id _ b F.obj (.inr ⟨q, h⟩)
       · cases hp : B.pr b with
         | none => rfl
         | some y => have := wr.pr_lt hp; omega
     · rw [updF_ne _ _ e1] at e
       exact wr.apart id _ b F.obj (.inr ⟨q, e⟩)
theorem rappend_ok {P : Program} {B : Base} {G : Ghost} {H : List AObj} {w : World} (wr : WR B G H w) {t xt ty e es eb : Nat} {ti ei : TI} (kt : tinfo P t = some ti) (kk : ti.kind = .slice e es eb) (hx : ∃ d, P.underlying xt = some d ∧ ∀ q, d ≠ .int q) (ke : tinfo P e = some ei)
   {id g k i : Nat} {ls : List (List (List PV))} {l xs : List (List PV)} {sv xv : Value} (rs : RV G (.rtok id k i l) sv) (hid : H[id]? = some (.rvec g k ls es)) (hl : ls[i]? = some l) {news : List Value} (src : Src P w es xs.length xv news) (fx : Flat G.mem es xs news)
   (okl : okEs es l = true) (okx : okEs es xs = true) (hmax : l.length + xs.length ≤ maxLen) (hb : (l.length + xs.length) * eb ≤ 140737488355328) :
   ∃ v w' G', (Builtin.append_ #[t, xt] ty #[sv, xv]).run P w = .ok v w' ∧ GExt G G' ∧ WR B G' (H.set id (.rhole g (k + 1) (ls.set i (l ++ xs)) es i)) w' ∧ RV G' (.rtok id (k + 1) i (l ++ xs)) v ∧ ∀ j, G.obj j = none → G'.obj j = none := by
 obtain ⟨i0, d, z, kk0⟩ := tinfo_ok kt
 obtain ⟨i', d', z', k'⟩ := tinfo_ok ke
 have hd := kk0.kind
 rw [kk] at hd
 cases d <;> simp only [tkind, reduceCtorEq, TK.slice.injEq] at hd
 rename_i et
 obtain ⟨he, hes, heb⟩ := hd
 subst he
 have hsize : i'.size = es := by rw [← hes]; simp [Program.cellsOf, k'.info]
 have hbytes : i'.bytes = eb := by rw [← heb]; simp [Program.bytesOf, k'.info]
 obtain ⟨a, cap, own, cv, sub, F⟩ := fam_open (wr.objs id _ hid)
 have hi := (List.getElem?_eq_some_iff.1 hl).1
 have ev := rtok_val F rs
 subst ev
 obtain ⟨rp, hO⟩ := F.lst i l hl
 have okall : okEs es (l ++ xs) = true := by rw [okEs_append, okl, okx]; rfl
 obtain ⟨av, capv, ecv⟩ := rp.slice_len
 have grow : capv < l.length + xs.length → ∃ v w' G', (Builtin.append_ #[t, xt] ty #[cv i, xv]).run P w = .ok v w' ∧ GExt G G' ∧ WR B G' (H.set id (.rhole g (k + 1) (ls.set i (l ++ xs)) es i)) w' ∧ RV G' (.rtok id (k + 1) i (l ++ xs)) v ∧ ∀ j, G.obj j = none → G'.obj j = none := by
   intro hgt
   have rp' := rp
   rw [ecv] at rp'
   obtain ⟨_, _, _, olds, fl, hk⟩ := rp'.flat okl
   have ho := firstCells_ok (P := P) w.drew wr.mem fl.len hk (len := l.length) (cap := capv)
   have hrun := run_append_grow' w t xt ty et i' z' kk0.und hx k'.info k'.zero (hsize ▸ src) (hsize ▸ ho) hgt (by simp only [maxLen] at hmax; omega) (by rw [hbytes]; exact growslice_fits hgt hb)
   have hge := grownCap_ge w (l.length + xs.length) capv et
   have hcm := grownCap_le_maxLen w (l.length + xs.length) capv et hmax
   have hzs : z'.cells.size = es := by rw [k'.zero_rv (G := G) |>.1, k'.zl, ← k'.size, hsize]
   generalize grownCap w (l.length + xs.length) capv et = gc at *
   generalize harr : (olds ++ (news ++ (Builtin.zeroCells z'.cells (gc - (l.length + xs.length))).toList)).toArray = arr at *
   have hasz : arr.size = gc * es := by
     rw [← harr]
     simp only [List.size_toArray, List.length_append, Array.length_toList, size_zeroCells, hzs, fl.len, fx.len, ← Nat.add_mul]
     congr 1; omega
   have wd := wr.drew
   have hle := wr.below.size
   let mem' : Mem := fun b o => if b = w.heap.size then (if o < (l.length + xs.length) * es then arr[o]? else none) else G.mem b o
   have hlt : ∀ b o v, G.mem b o = some v → b ≠ w.heap.size := fun b o v hv e => by subst e; have := cell?_lt (wr.mem _ _ _ hv); simp at this
   have hm : ∀ b o v, G.mem b o = some v → mem' b o = some v := fun b o v hv => by
     show (if b = w.heap.size then _ else G.mem b o) = _
     rw [if_neg (hlt b o v hv)]; exact hv
   have hval : ∀ k v, (olds ++ news)[k]? = some v → arr[k]? = some v := fun k v hv => by
     have := (List.getElem?_eq_some_iff.1 hv).1
     rw [← harr, List.getElem?_toArray, ← List.append_assoc, List.getElem?_append_left this]; exact hv
   have gg := wr.famPut (w' := w.drew.alloc (.cells arr et)) (l' := l ++ xs) (v' := .slice (some ⟨w.heap.size, 0, none⟩) (l.length + xs.length) gc) (own' := some w.heap.size) (mem' := mem') hid F hi hm (wd.below.alloc hle _)
     (fun b o v hv => by
       have hv' : (if b = w.heap.size then (if o < (l.length + xs.length) * es then arr[o]? else none) else G.mem b o) = some v := hv
       split at hv'
       · rename_i e; subst e
         split at hv'
         · rw [show w.heap.size = w.drew.heap.size from rfl, World.cell?_alloc_at _ _ _ _ rfl]; exact hv'
         · cases hv'
       · exact cell?_alloc (wd.mem b o v hv'))
     (fun b o v hv => by
       have hv' : (if b = w.heap.size then (if o < (l.length + xs.length) * es then arr[o]? else none) else G.mem b o) = some v := hv
       split at hv'
       · rename_i e; subst e; exact .inr hle
       · exact wr.news b o v hv')
     (fun b hb _ => ⟨Below.heap_alloc w.drew _ b hb, fun o => by show (if b = w.heap.size then _ else G.mem b o) = _; rw [if_neg (by omega)]⟩) (by simp) (fun b e => by simp only [Option.some.injEq] at e; subst e; exact ⟨.inr (Nat.le_refl _), by simp⟩)
     (fun G' hG' => by
       have fa := (fl.append fx).mono (m' := mem') hm
       have hrp : RP mem' (.sl (l ++ xs)) (.slice (some ⟨w.heap.size, 0, none⟩) (l.length + xs.length) gc) := by
         refine RP.ofFlat fa okall (by simp) hge hcm (fun k v hv => ?_)
         have hlt := (List.getElem?_eq_some_iff.1 hv).1
         simp only [List.length_append, fl.len, fx.len, ← Nat.add_mul] at hlt
         show (if w.heap.size = w.heap.size then _ else _) = _
         rw [if_pos rfl, if_pos hlt]
         exact hval k v hv
       refine ⟨by rw [hG']; exact hrp, .inr ⟨w.heap.size, arr, et, gc, rfl, by simp, heap_alloc_new w.drew _, by simpa using hge, hcm, hasz, fun o ho => ?_⟩⟩
       rw [hG']
       show (if w.heap.size = w.heap.size then _ else _) = _
       rw [List.length_append] at ho
       rw [if_pos rfl, if_neg (by omega)])
   exact ⟨_, _, _, by rw [ecv]; exact hrun, gg.2.1, gg.1, gg.2.2.1, gg.2.2.2⟩
 rcases hO with ⟨hs, ad, e1⟩ | ⟨b, arr, bt, capb, hs, e1, q3, q4, q5, q6, q7⟩
 · by_cases hz : xs = []
   · subst hz
     rw [e1] at ecv
     have hnews : news = [] := List.eq_nil_of_length_eq_zero (by simpa using fx.len)
     subst hnews
     have hrun := run_append_same w t xt ty et i' kk0.und hx k'.info (a := ad) (n := l.length) (by rw [hsize]; exact src)
     have gg := wr.famPut (w' := w) (l' := l ++ []) (v' := cv i) (own' := sub i) (mem' := G.mem) hid F hi (fun _ _ _ h => h) wr.below wr.mem wr.news (fun b _ _ => ⟨rfl, fun _ => rfl⟩) (Nat.le_refl _) (fun b e => ⟨.inl e, (wr.fresh id _ b F.obj (.inr ⟨i, e⟩)).2⟩)
       (fun G' hG' => by rw [List.append_nil]; exact ⟨by rw [hG']; exact rp, .inl ⟨hs, ad, e1⟩⟩)
     exact ⟨_, _, _, by rw [e1]; exact hrun, gg.2.1, gg.1, by rw [← e1]; exact gg.2.2.1, gg.2.2.2⟩
   · have hpos : 0 < xs.length := List.length_pos_iff.2 hz
     rw [e1] at ecv
     simp only [Value.slice.injEq] at ecv
     exact grow (by omega)
 · have ecv' := ecv
   rw [e1] at ecv'
   simp only [Value.slice.injEq] at ecv'
   obtain ⟨rfl, _, rfl⟩ := ecv'
   by_cases hroom : l.length + xs.length ≤ capb
   · have rp' := rp
     rw [ecv] at rp'
     obtain ⟨_, _, _, olds, fl, hk⟩ := rp'.flat okl
     have hle : (l.length + xs.length) * es ≤ capb * es := Nat.mul_le_mul_right _ hroom
     have hfit : l.length * es + news.length ≤ arr.size := by rw [fx.len, ← Nat.add_mul, q6]; exact hle
     have hrun := run_append_room' w t xt ty et i' kk0.und hx k'.info q3 (by rw [hsize]; exact src) fx.one hroom (by rw [hsize]; exact hfit)
     rw [hsize] at hrun
     have hfr := wr.fresh id _ b F.obj (.inr ⟨i, hs⟩)
     generalize hsp : (splice arr.toList (l.length * es) news).toArray = arr' at *
     have hsz' : arr'.size = capb * es := by rw [← hsp, List.size_toArray, splice_length _ _ _ (by simpa using hfit), Array.length_toList]; exact q6
     have hlow : ∀ o, o < l.length * es → arr'[o]? = arr[o]? := fun o ho => by rw [← hsp, List.getElem?_toArray, splice_get _ _ _ (by simpa using hfit), if_neg (by omega)]; simp
     let mem' : Mem := fun b' o => if b' = b ∧ l.length * es ≤ o then (if o < (l.length + xs.length) * es then arr'[o]? else none) else G.mem b' o
     have hm : ∀ b' o v, G.mem b' o = some v → mem' b' o = some v := by
       intro b' o v hv
       show (if b' = b ∧ l.length * es ≤ o then _ else G.mem b' o) = _
       rw [if_neg]
       · exact hv
       · rintro ⟨rfl, ho⟩
         rw [q7 o ho] at hv; cases hv
     have gg := wr.famPut (w' := w.setRow b arr') (l' := l ++ xs) (v' := .slice (some ⟨b, 0, none⟩) (l.length + xs.length) capb) (own' := some b) (mem' := mem') hid F hi hm (below_setRow wr.below hfr.1 _)
       (fun b' o v hv => by
         have hv' : (if b' = b ∧ l.length * es ≤ o then (if o < (l.length + xs.length) * es then arr'[o]? else none) else G.mem b' o) = some v := hv
         split at hv'
         · rename_i hc; obtain ⟨rfl, ho⟩ := hc
           split at hv'
           · rw [cell_setRow_same w b' o arr arr' bt _ q3]; exact hv'
           · cases hv'
         · rename_i hc
           have h1 := wr.mem b' o v hv'
           by_cases e' : b' = b
           · subst e'
             have ho : o < l.length * es := by
               rcases Nat.lt_or_ge o (l.length * es) with g | g
               · exact g
               · exact absurd ⟨rfl, g⟩ hc
             rw [cell_setRow_same w b' o arr arr' bt _ q3, hlow o ho]
             rw [cell_of_row w b' o arr bt _ q3] at h1; exact h1
           · rw [cell_setRow_other w b arr' _ e']; exact h1)
       (fun b' o v hv => by
         have hv' : (if b' = b ∧ l.length * es ≤ o then (if o < (l.length + xs.length) * es then arr'[o]? else none) else G.mem b' o) = some v := hv
         split at hv'
         · rename_i hc; obtain ⟨rfl, ho⟩ := hc; exact .inr hfr.1
         · exact wr.news b' o v hv')
       (fun b' hb' hne => by
         have hne' : b' ≠ b := fun e => by subst e; exact hne hs
         exact ⟨setRow_other w b b' arr' hne', fun o => by show (if b' = b ∧ l.length * es ≤ o then _ else G.mem b' o) = _; rw [if_neg (fun hc => hne' hc.1)]⟩)
       (by rw [setRow_size]; exact Nat.le_refl _) (fun b' e => by simp only [Option.some.injEq] at e; subst e; exact ⟨.inl hs, by rw [setRow_size]; exact hfr.2⟩)
       (fun G' hG' => by
         have fa := (fl.append fx).mono (m' := mem') hm
         have hrp : RP mem' (.sl (l ++ xs)) (.slice (some ⟨b, 0, none⟩) (l.length + xs.length) capb) := by
           refine RP.ofFlat fa okall (by simp) hroom q5 (fun k v hv => ?_)
           rcases Nat.lt_or_ge k olds.length with g1 | g1
           · rw [List.getElem?_append_left g1] at hv
             obtain ⟨b', o', e1, e2⟩ := hk k v hv
             simp only [Option.some.injEq, Addr.mk.injEq] at e1
             obtain ⟨rfl, rfl, _⟩ := e1
             exact hm _ _ _ (by simpa using e2)
           · have hlt := (List.getElem?_eq_some_iff.1 hv).1
             simp only [List.length_append, fl.len, fx.len] at hlt
             rw [fl.len] at g1
             show (if b = b ∧ l.length * es ≤ k then _ else G.mem b k) = _
             rw [if_pos ⟨rfl, g1⟩, if_pos (by rw [Nat.add_mul]; omega), ← hsp, List.getElem?_toArray, splice_get _ _ _ (by simpa using hfit), if_pos (by rw [fx.len]; omega), ← hv, List.getElem?_append_right (by rw [fl.len]; exact g1), fl.len]
         refine ⟨by rw [hG']; exact hrp, .inr ⟨b, arr', bt, capb, rfl, by simp, setRow_heap w b arr arr' bt _ q3, by simpa using hroom, q5, hsz', fun o ho => ?_⟩⟩
         rw [hG']
         show (if b = b ∧ l.length * es ≤ o then _ else G.mem b o) = _
         rw [List.length_append, Nat.add_mul] at ho
         rw [if_pos ⟨rfl, by omega⟩, if_neg (by rw [Nat.add_mul]; omega)])
     exact ⟨_, _, _, by rw [ecv]; exact hrun, gg.2.1, gg.1, gg.2.2.1, gg.2.2.2⟩
   · exact grow (by omega)
end Go.Proofs.Ytcajncmjlmpkgaa
