/- Rows of one's own that grow and are written into ('vec'): what reading, storing, slicing and appending do in the world. Own work; no condition. -/
import Derived.Test.YtcajncmjlmpkgaaPcAbsG
namespace Go.Proofs.Ytcajncmjlmpkgaa
open Go Go.RowKit
set_option linter.unusedVariables false
structure VecAt (G : Ghost) (w : World) (L : List (List PV)) (sz : Nat) (g id size lo n : Nat) (v : Value) (a : Option Addr) (cap : Nat) (own : Option Nat) (a' : Option Addr) : Prop where
 all : ∀ e, e ∈ L → e.length = sz
 obj : G.obj id = some (.tok g (.slice a cap cap) own)
 row : RowR G w a L.length cap sz own (fun i v => ∀ c, L.flatten[i]? = some c → RP G.mem c v)
 val : v = .slice a' n (cap - lo)
 fit : lo + n ≤ cap
 adr : lo < cap → ∃ b, a = some ⟨b, 0, none⟩ ∧ a' = some ⟨b, lo * size, none⟩
theorem vec_at {B : Base} {G : Ghost} {H : List AObj} {w : World} (wr : WR B G H w) {id g size lo n : Nat} {v : Value} (r : RV G (.vec id g size lo n) v) {L : List (List PV)} {sz : Nat} (hid : H[id]? = some (.vec g L sz)) :
   ∃ a cap own a', VecAt G w L sz g id size lo n v a cap own a' := by
 obtain ⟨h0, a, cap, own, h1, h2⟩ := wr.objs id _ hid
 cases r with
 | vec ho hg hs hv =>
   rw [h1] at ho
   simp only [Option.some.injEq, GO.tok.injEq] at ho
   obtain ⟨rfl, rfl, rfl⟩ := ho
   obtain ⟨a2, cap2, a', e1, e2, e3, e4, e5⟩ := hv rfl
   simp only [Value.slice.injEq] at e1
   obtain ⟨rfl, rfl, _⟩ := e1
   exact ⟨a, cap, own, a', h0, h1, h2, e4, e3, e5⟩
theorem vidx_ok {P : Program} {t : TypeId} {ti : TI} (k : tinfo P t = some ti) {B : Base} {G : Ghost} {H : List AObj} {w : World} (wr : WR B G H w) {id g es lo n e eb : Nat} {pv : Value} (rp : RV G (.vec id g es lo n) pv) {q : IntKind} {i : Int} (hk : ti.kind = .slice e es eb)
   {L : List (List PV)} {sz : Nat} (hid : H[id]? = some (.vec g L sz)) (h0 : 0 ≤ i) (hn : i < n) (hes : es ≠ 0) : ∃ v, (Instr.indexAt t pv (.int q i)).run P w = .ok v w ∧ RV G (.vref id g ((lo + i.toNat) * es)) v := by
 obtain ⟨a, cap, own, a', V⟩ := vec_at wr rp hid
 obtain ⟨b, rfl, rfl⟩ := V.adr (by have := V.fit; omega)
 obtain ⟨i', d, z, k⟩ := tinfo_ok k
 have hd := k.kind
 rw [hk] at hd
 cases d <;> simp only [tkind, reduceCtorEq, TK.slice.injEq] at hd
 obtain ⟨rfl, rfl, _⟩ := hd
 have und := k.run_und w
 rw [V.val]
 refine ⟨.pointer (some ⟨b, lo * P.cellsOf _ + i.toNat * P.cellsOf _, none⟩), ?_, .vref V.obj (Nat.le_refl _) ⟨_, rfl⟩ (fun _ => ⟨b, cap, rfl, by rw [Nat.add_mul]⟩)⟩
 simp [Instr.indexAt, asIntOf, und, h0, hn, run_sizeOf' hes, Addr.add_lit]
theorem vref_at {B : Base} {G : Ghost} {H : List AObj} {w : World} (wr : WR B G H w) {id g off : Nat} {v : Value} (r : RV G (.vref id g off) v) {L : List (List PV)} {sz : Nat} (hid : H[id]? = some (.vec g L sz)) {i : Nat} (ho : off = i * sz) (hi : i < L.length) (hsz : sz ≠ 0) :
   (∀ e, e ∈ L → e.length = sz) ∧ ∃ b cap arr t, G.obj id = some (.tok g (.slice (some ⟨b, 0, none⟩) cap cap) (some b)) ∧ L.length ≤ cap ∧ cap ≤ maxLen ∧ w.heap[b]? = some (.cells arr t (0, 0)) ∧ arr.size = cap * sz ∧ (∀ (i : Nat) v c, arr[i]? = some v → L.flatten[i]? = some c → RP G.mem c v) ∧ (∀ o, G.mem b o = none) ∧ v = .pointer (some ⟨b, i * sz, none⟩) := by
 obtain ⟨h0, a, cap, own, h1, h2, h3, h4⟩ := wr.objs id _ hid
 cases r with
 | vref ho' hg hs hv =>
   rw [h1] at ho'
   simp only [Option.some.injEq, GO.tok.injEq] at ho'
   obtain ⟨rfl, rfl, rfl⟩ := ho'
   obtain ⟨b', cap2, e1, e2⟩ := hv rfl
   simp only [Value.slice.injEq] at e1
   obtain ⟨rfl, rfl, _⟩ := e1
   rcases h4 with ⟨_, h4⟩ | ⟨b, arr, t, rfl, k1, k2, k3, k4, k5⟩
   · omega
   · simp only [Option.some.injEq, Addr.mk.injEq] at k1
     obtain ⟨rfl, _⟩ := k1
     exact ⟨h0, b', cap, arr, t, h1, h2, h3, k2, k3, fun i v c hv hc => k4 i v hv c hc, k5, by rw [e2, ho]⟩
theorem vload_ok {P : Program} {t : TypeId} {ti : TI} (k : tinfo P t = some ti) {B : Base} {G : Ghost} {H : List AObj} {w : World} (wr : WR B G H w) {id g off : Nat} {pv : Value} (rp : RV G (.vref id g off) pv)
   {L : List (List PV)} {sz : Nat} (hid : H[id]? = some (.vec g L sz)) {i : Nat} {e : List PV} (ho : off = i * sz) (he : L[i]? = some e) (hsz : ti.size = sz) (hs0 : sz ≠ 0) {x : AV} (hx : ldE ti e = some x) :
   ∃ v, (Instr.loadAt t pv).run P w = .ok v w ∧ RV G x v := by
 have hlt := (List.getElem?_eq_some_iff.1 he).1
 obtain ⟨hall, b, cap, arr, ty, h1, h2, h3, h4, h5, h6, h7, rfl⟩ := vref_at wr rp hid ho hlt hs0
 obtain ⟨i', d, z, k⟩ := tinfo_ok k
 have hel := hall e (List.mem_of_getElem? he)
 obtain ⟨f1, f2⟩ := flat_get i e hall he
 have hb : (i + 1) * sz ≤ cap * sz := Nat.mul_le_mul_right _ (by omega)
 rw [Nat.add_mul, Nat.one_mul] at hb f2
 have cell : ∀ j, j < sz → ∃ c v, e[j]? = some c ∧ arr[i * sz + j]? = some v ∧ RP G.mem c v ∧ w.cell? ⟨b, i * sz + j, none⟩ = some v := by
   intro j hj
   have hc : e[j]? = some (e[j]'(by omega)) := List.getElem?_eq_getElem _
   have hv : arr[i * sz + j]? = some (arr[i * sz + j]'(by omega)) := Array.getElem?_eq_getElem _
   refine ⟨_, _, hc, hv, h6 _ _ _ hv ?_, ?_⟩
   · rw [← hc, ← f1, List.getElem?_take_of_lt hj, List.getElem?_drop]
   · rw [cell_of_row w b _ arr ty (0, 0) h4]; exact hv
 unfold ldE at hx
 split at hx
 · rename_i ha
   simp only [Option.some.injEq] at hx; subst hx
   have hlen : ((arr.toList.drop (i * sz)).take sz).length = ti.size := by simp; omega
   refine ⟨.agg ((arr.toList.drop (i * sz)).take sz).toArray, ?_, .p (.agg _ _ (by simp; omega) (fun j c v hc hv => ?_))⟩
   · simp only [Instr.loadAt, Instr.sureAddr, Sem.run_bind, Sem.run_pure, Result.andThen_ok]
     refine run_loadVar_agg k w ha b (i * sz) _ hlen (fun j v hv => ?_)
     rw [cell_of_row w b _ arr ty (0, 0) h4]
     rw [List.getElem?_take] at hv
     split at hv
     · simpa [List.getElem?_drop] using hv
     · cases hv
   · have hj : j < sz := by rw [← hel]; exact (List.getElem?_eq_some_iff.1 hc).1
     obtain ⟨c', v', g1, g2, g3, _⟩ := cell j hj
     rw [hc] at g1; simp only [Option.some.injEq] at g1; subst g1
     have : v = v' := by
       rw [List.getElem?_toArray, List.getElem?_take_of_lt hj, List.getElem?_drop, Array.getElem?_toList, g2] at hv
       simpa using hv.symm
     subst this
     exact g3
 · rename_i ha
   split at hx <;> try (cases hx; done)
   rename_i c
   simp only [Option.some.injEq] at hx; subst hx
   have h1s : sz = 1 := by simpa using hel.symm
   obtain ⟨c', v', g1, g2, g3, g4⟩ := cell 0 (by omega)
   simp at g1; subst g1
   refine ⟨v', ?_, .p g3⟩
   simp only [Instr.loadAt, Instr.sureAddr, Sem.run_bind, Sem.run_pure, Result.andThen_ok]
   exact run_loadVar_one k w (by simpa using ha) _ _ g4
theorem WR.vecSet {B : Base} {G G' : Ghost} {H : List AObj} {w : World} (h : WR B G H w) {id g g' b cap : Nat} {L L' : List (List PV)} {sz : Nat} {old arr : Array Value} {t : TypeId} (hid : H[id]? = some (.vec g L sz)) (hobj : G.obj id = some (.tok g (.slice (some ⟨b, 0, none⟩) cap cap) (some b)))
   (hh : w.heap[b]? = some (.cells old t (0, 0))) (hm : ∀ o, G.mem b o = none) (hsz : arr.size = cap * sz) (hcap : L'.length ≤ cap) (hmax : cap ≤ maxLen) (hall : ∀ e, e ∈ L' → e.length = sz) (hc : ∀ (i : Nat) v c, arr[i]? = some v → L'.flatten[i]? = some c → RP G.mem c v)
   (hG : G' = G.tok id g' (.slice (some ⟨b, 0, none⟩) cap cap) (some b) G.mem) (hg : g ≤ g') : WR B G' (H.set id (.vec g' L' sz)) (w.setRow b arr) ∧ GExt G G' ∧ ∀ j, G.obj j = none → G'.obj j = none := by
 subst hG
 have hfr := h.fresh id _ b hobj rfl
 have ext : GExt G (G.tok id g' (.slice (some ⟨b, 0, none⟩) cap cap) (some b) G.mem) := Older.ext (.inr ⟨g, _, _, hobj, hg, fun _ => rfl⟩) _ (fun _ _ _ h => h)
 refine ⟨h.upd (Upd.set hid _) ext rfl (below_setRow h.below hfr.1 _) (fun x o v hv => ?_) h.news ⟨hall, some ⟨b, 0, none⟩, cap, some b, Ghost.tok_obj _ _ _ _ _ _, hcap, hmax, .inr ⟨b, arr, t, rfl, rfl, setRow_heap w b old arr t _ hh, hsz, fun i v hv c hcc => hc i v c hv hcc, hm⟩⟩ (fun i x b' hi hx hb => ?_) (by rw [setRow_size]; exact Nat.le_refl _) (fun b' e => by simp only [Option.some.injEq] at e; subst e; exact ⟨hfr.1, by rw [setRow_size]; exact hfr.2⟩) (fun c y hc => ?_) (fun b' e => by simp only [Option.some.injEq] at e; subst e; exact h.apart id _ _ hobj rfl), ext, fun j hj => ?_⟩
 · have hv' : G.mem x o = some v := hv
   have : x ≠ b := fun e => by subst e; rw [hm o] at hv'; cases hv'
   rw [cell_setRow_other w b arr _ this]; exact h.mem x o v hv'
 · have hne : b' ≠ b := fun e => by subst e; exact hi (h.sep i id x _ b' hx hobj hb rfl)
   exact ⟨setRow_other w b b' arr hne, fun _ => rfl, fun e => hne (by simpa using e.symm)⟩
 · have hne : c ≠ b := fun e => by subst e; rw [h.apart id _ c hobj rfl] at hc; cases hc
   exact ⟨setRow_other w b c arr hne, fun _ => rfl⟩
 · have : j ≠ id := fun e => by subst e; rw [hobj] at hj; cases hj
   simp [Ghost.tok, this, hj]
theorem vstore_ok {P : Program} {B : Base} {G : Ghost} {H : List AObj} {w : World} (wr : WR B G H w) {t : TypeId} {ti : TI} (k : tinfo P t = some ti) {id g off : Nat} {x : AV} {pv v : Value} {l : List AV} {pl : List PV} (rp : RV G (.vref id g off) pv) (r : RV G x v) (h : x.cells = some l) (hpl : l.mapM AV.pure1 = some pl)
   {L : List (List PV)} {sz : Nat} (hid : H[id]? = some (.vec g L sz)) {i : Nat} (ho : off = i * sz) (hi : i < L.length) (hl : pl.length = sz) (hsz : ti.size = sz) (hs0 : sz ≠ 0) :
   ∃ w' G', (Instr.storeAt t pv v).run P w = .ok () w' ∧ GExt G G' ∧ WR B G' (H.set id (.vec g (L.set i pl) sz)) w' ∧ ∀ j, G.obj j = none → G'.obj j = none := by
 obtain ⟨hall, b, cap, arr, ty, h1, h2, h3, h4, h5, h6, h7, rfl⟩ := vref_at wr rp hid ho hi hs0
 obtain ⟨i', d, z, k⟩ := tinfo_ok k
 obtain ⟨p1, p2⟩ := mapM_get hpl
 obtain ⟨c1, c2, c3⟩ := cells_ok r h
 have hvl : v.cells.toList.length = sz := by rw [Array.length_toList, c1, p1, hl]
 have hb : (i + 1) * sz ≤ cap * sz := Nat.mul_le_mul_right _ (by omega)
 have hf2 : (i + 1) * sz ≤ L.flatten.length := by rw [flat_len hall]; exact Nat.mul_le_mul_right _ hi
 rw [Nat.add_mul, Nat.one_mul] at hb hf2
 have hfit : i * sz + v.cells.toList.length ≤ arr.toList.length := by rw [hvl, Array.length_toList, h5]; exact hb
 have hst := run_storeCells_at P b (i * sz) ty v.cells.toList 0 arr w h4 (by simpa using hfit) c3
 have g := wr.vecSet (g' := g) (L' := L.set i pl) (arr := (splice arr.toList (i * sz) v.cells.toList).toArray) hid h1 h4 h7 (by rw [List.size_toArray, splice_length _ _ _ hfit, Array.length_toList]; exact h5) (by rw [List.length_set]; exact h2) h3 (fun e he => by
   rcases List.mem_or_eq_of_mem_set he with q | q
   · exact hall e q
   · rw [q]; exact hl) (fun j u c hu hc => by
     rw [← flat_set i pl hall hl hi, splice_get _ _ _ (by rw [hl]; exact hf2), hl] at hc
     rw [List.getElem?_toArray, splice_get _ _ _ hfit, hvl] at hu
     by_cases q : i * sz ≤ j ∧ j < i * sz + sz
     · rw [if_pos q] at hc hu
       have hlj : l[j - i * sz]? = some (l[j - i * sz]'(by omega)) := List.getElem?_eq_getElem _
       exact pure1_ok (c2 _ _ u hlj (by simpa using hu)) (p2 _ _ _ hlj hc)
     · rw [if_neg q] at hc hu
       exact h6 j u c (by simpa using hu) hc) rfl (Nat.le_refl _)
 refine ⟨w.setRow b (splice arr.toList (i * sz) v.cells.toList).toArray, _, ?_, g.2.1, g.1, g.2.2⟩
 simp only [Instr.storeAt, Instr.sureAddr, Sem.run_bind, Sem.run_pure, Result.andThen_ok, storeVar, k.run_size w]
 rw [if_neg (by rw [c1, hsz, p1, hl]; simp)]
 simp only [Nat.add_zero] at hst
 exact hst
theorem vec_flat {B : Base} {G : Ghost} {H : List AObj} {w : World} (wr : WR B G H w) {id g sz lo n : Nat} {v : Value} (r : RV G (.vec id g sz lo n) v) {L : List (List PV)} (hid : H[id]? = some (.vec g L sz)) (hn : lo + n ≤ L.length) (ok : okEs sz ((L.drop lo).take n) = true) (hs0 : sz ≠ 0) :
   ∃ a' k news, v = .slice a' n k ∧ news.length = n * sz ∧ Flat G.mem sz ((L.drop lo).take n) news ∧ ∀ (j : Nat) u, news[j]? = some u → ∃ b o, a' = some ⟨b, o, none⟩ ∧ w.cell? ⟨b, o + j, none⟩ = some u := by
 obtain ⟨a, cap, own, a', V⟩ := vec_at wr r hid
 have hxl : ((L.drop lo).take n).length = n := by rw [List.length_take, List.length_drop]; omega
 by_cases hz : n = 0
 · subst hz
   exact ⟨a', _, [], V.val, by simp, ⟨by simp, fun i e j c hi => by simp at hi, fun v hv => by simp at hv⟩, fun j u hu => by simp at hu⟩
 obtain ⟨r1, r2, r3⟩ := V.row
 obtain ⟨b, rfl, rfl⟩ := V.adr (by omega)
 rcases r3 with ⟨_, r3⟩ | ⟨b', arr, t, rfl, k1, k2, k3, k4, k5⟩
 · omega
 simp only [Option.some.injEq, Addr.mk.injEq] at k1
 obtain ⟨rfl, _⟩ := k1
 have hfl : L.flatten.length = L.length * sz := flat_len V.all
 have hb : (lo + n) * sz ≤ cap * sz := Nat.mul_le_mul_right _ V.fit
 have hb2 : (lo + n) * sz ≤ L.length * sz := Nat.mul_le_mul_right _ hn
 rw [Nat.add_mul] at hb hb2
 have cell : ∀ i e j c, ((L.drop lo).take n)[i]? = some e → e[j]? = some c → j < sz ∧ i < n ∧ L.flatten[lo * sz + (i * sz + j)]? = some c := by
   intro i e j c hi hj
   have hin : i < n := by have := (List.getElem?_eq_some_iff.1 hi).1; omega
   rw [List.getElem?_take_of_lt hin, List.getElem?_drop] at hi
   have hjs : j < sz := by rw [← V.all e (List.mem_of_getElem? hi)]; exact (List.getElem?_eq_some_iff.1 hj).1
   obtain ⟨f1, f2⟩ := flat_get (lo + i) e V.all hi
   refine ⟨hjs, hin, ?_⟩
   rw [← hj, ← f1, List.getElem?_take_of_lt hjs, List.getElem?_drop, Nat.add_mul, Nat.add_assoc]
 have key : ∀ k, k < n * sz → ∃ i e j c, ((L.drop lo).take n)[i]? = some e ∧ e[j]? = some c ∧ k = i * sz + j := by
   intro k hk
   have hpos : 0 < sz := by omega
   have h1 : k / sz < n := (Nat.div_lt_iff_lt_mul hpos).2 hk
   have h2 := Nat.mod_lt k hpos
   have he : ((L.drop lo).take n)[k / sz]? = some (((L.drop lo).take n)[k / sz]'(by omega)) := List.getElem?_eq_getElem _
   have h3 := (okEs_mem ok (List.mem_of_getElem? he)).1
   exact ⟨k / sz, _, k % sz, _, he, List.getElem?_eq_getElem (by rw [h3]; exact h2), by rw [Nat.mul_comm]; exact (Nat.div_add_mod k sz).symm⟩
 have hnl : ((arr.toList.drop (lo * sz)).take (n * sz)).length = n * sz := by rw [List.length_take, List.length_drop, Array.length_toList]; omega
 have at_ : ∀ k, k < n * sz → ((arr.toList.drop (lo * sz)).take (n * sz))[k]? = arr[lo * sz + k]? := by
   intro k hk
   rw [List.getElem?_take_of_lt hk, List.getElem?_drop, Array.getElem?_toList]
 have arrk : ∀ k, k < n * sz → ∃ u, arr[lo * sz + k]? = some u := fun k hk => ⟨_, Array.getElem?_eq_getElem (show lo * sz + k < arr.size by omega)⟩
 refine ⟨_, _, (arr.toList.drop (lo * sz)).take (n * sz), V.val, hnl, ⟨by rw [hxl]; exact hnl, fun i e j c hi hj => ?_, fun u hu => ?_⟩, fun j u hu => ⟨b, lo * sz, rfl, ?_⟩⟩
 · obtain ⟨q1, q2, q3⟩ := cell i e j c hi hj
   have hk : i * sz + j < n * sz := by
     have : (i + 1) * sz ≤ n * sz := Nat.mul_le_mul_right _ q2
     rw [Nat.add_mul] at this; omega
   obtain ⟨u, hu⟩ := arrk _ hk
   exact ⟨u, by rw [at_ _ hk]; exact hu, k4 _ u hu c q3⟩
 · obtain ⟨k, hk⟩ := List.getElem?_of_mem hu
   have hkl : k < n * sz := by have := (List.getElem?_eq_some_iff.1 hk).1; omega
   obtain ⟨i, e, j, c, hi, hj, rfl⟩ := key k hkl
   rw [at_ _ hkl] at hk
   exact (k4 _ u hk c (cell i e j c hi hj).2.2).one ((okEs_mem ok (List.mem_of_getElem? hi)).2 c (List.mem_of_getElem? hj))
 · have hkl : j < n * sz := by have := (List.getElem?_eq_some_iff.1 hu).1; omega
   rw [at_ _ hkl] at hu
   rw [cell_of_row w b _ arr t (0, 0) k2]; exact hu
theorem vsrc_ok {P : Program} {B : Base} {G : Ghost} {H : List AObj} {w : World} (wr : WR B G H w) {id g sz lo n : Nat} {v : Value} (r : RV G (.vec id g sz lo n) v) {L : List (List PV)} (hid : H[id]? = some (.vec g L sz)) (hn : lo + n ≤ L.length) (ok : okEs sz ((L.drop lo).take n) = true) (hs0 : sz ≠ 0) :
   ∃ news, Src P w sz n v news ∧ Flat G.mem sz ((L.drop lo).take n) news := by
 obtain ⟨a', k, news, rfl, h1, h2, h3⟩ := vec_flat wr r hid hn ok hs0
 have fc : ∀ w' : World, (∀ (j : Nat) u, news[j]? = some u → ∃ b o, a' = some ⟨b, o, none⟩ ∧ w'.cell? ⟨b, o + j, none⟩ = some u) → (Builtin.firstCells sz n (.slice a' n k)).run P w' = .ok news.toArray w' := by
   intro w' h
   cases a' with
   | none =>
     have : news = [] := by
       cases news with
       | nil => rfl
       | cons v r => obtain ⟨_, _, e, _⟩ := h 0 v rfl; cases e
     subst this
     simp [Builtin.firstCells]
   | some ad =>
     refine run_firstCells_some w' sz n ad n k news h1 (fun j u hu => ?_)
     obtain ⟨b, o, e, hc⟩ := h j u hu
     simp only [Option.some.injEq] at e; subst e
     rw [Addr.add_lit]; exact hc
 exact ⟨news, ⟨by simp [Builtin.lenOf], fc w h3, fc w.drew h3⟩, h2⟩
theorem take_flat {L : List (List PV)} {sz n : Nat} (hall : ∀ e, e ∈ L → e.length = sz) (hn : n ≤ L.length) : (L.take n).flatten = L.flatten.take (n * sz) := by
 have h := flat_len (es := L.take n) (size := sz) (fun e he => hall e (List.mem_of_mem_take he))
 have e : L.flatten = (L.take n).flatten ++ (L.drop n).flatten := by rw [← List.flatten_append, List.take_append_drop]
 rw [e, ← show (L.take n).flatten.length = n * sz by rw [h, List.length_take, Nat.min_eq_left hn], List.take_left]
theorem vappend_ok {P : Program} {B : Base} {G : Ghost} {H : List AObj} {w : World} (wr : WR B G H w) {t xt ty e es eb : Nat} {ti ei : TI} (kt : tinfo P t = some ti) (kk : ti.kind = .slice e es eb) (hx : ∃ d, P.underlying xt = some d ∧ ∀ q, d ≠ .int q) (ke : tinfo P e = some ei)
   {id g n : Nat} {L xs : List (List PV)} {sv xv : Value} (rs : RV G (.vec id g es 0 n) sv) (hid : H[id]? = some (.vec g L es)) (hn : n ≤ L.length) {news : List Value} (src : Src P w es xs.length xv news) (fx : Flat G.mem es xs news)
   (okl : okEs es (L.take n) = true) (okx : okEs es xs = true) (hs0 : es ≠ 0) (hmax : n + xs.length ≤ maxLen) (hb : (n + xs.length) * eb ≤ 140737488355328) :
   ∃ v w' G', (Builtin.append_ #[t, xt] ty #[sv, xv]).run P w = .ok v w' ∧ GExt G G' ∧ WR B G' (H.set id (.vec (g + 1) (L.take n ++ xs) es)) w' ∧ RV G' (.vec id (g + 1) es 0 (n + xs.length)) v ∧ ∀ j, G.obj j = none → G'.obj j = none := by
 obtain ⟨i, d, z, k⟩ := tinfo_ok kt
 obtain ⟨i', d', z', k'⟩ := tinfo_ok ke
 have hd := k.kind
 rw [kk] at hd
 cases d <;> simp only [tkind, reduceCtorEq, TK.slice.injEq] at hd
 rename_i et
 obtain ⟨he, hes, heb⟩ := hd
 subst he
 have hsize : i'.size = es := by rw [← hes]; simp [Program.cellsOf, k'.info]
 have hbytes : i'.bytes = eb := by rw [← heb]; simp [Program.bytesOf, k'.info]
 obtain ⟨a, cap, own, a', V⟩ := vec_at wr rs hid
 have V' := V
 obtain ⟨r1, r2, r3⟩ := V.row
 have hval := V.val
 have hfit := V.fit
 simp only [Nat.sub_zero, Nat.zero_add] at hval hfit
 subst hval
 have hallx : ∀ e, e ∈ xs → e.length = es := fun e he => (okEs_mem okx he).1
 have hall' : ∀ e, e ∈ L.take n ++ xs → e.length = es := fun e he => by
   rcases List.mem_append.1 he with q | q
   · exact V.all e (List.mem_of_mem_take q)
   · exact hallx e q
 have hlen' : (L.take n ++ xs).length = n + xs.length := by rw [List.length_append, List.length_take, Nat.min_eq_left hn]
 have keepo : ∀ (c : Nat) (u : Value) (o : Option Nat) (j : Nat), G.obj j = none → (G.tok id c u o G.mem).obj j = none := by
   intro c u o j hj
   have : j ≠ id := fun e => by subst e; rw [V.obj] at hj; cases hj
   simp [Ghost.tok, this, hj]
 by_cases hroom : n + xs.length ≤ cap
 · by_cases hc0 : cap = 0
   · -- nothing is there and nothing is appended
     have hn0 : n = 0 := by omega
     have hx0 : xs = [] := List.eq_nil_of_length_eq_zero (by omega)
     subst hn0 hx0 hc0
     have hnews : news = [] := List.eq_nil_of_length_eq_zero (by simpa using fx.len)
     subst hnews
     have hrun := run_append_same w t xt ty et i' k.und hx k'.info (a := a') (n := 0) (by rw [hsize]; exact src)
     have ext : GExt G (G.tok id (g + 1) (.slice a 0 0) own G.mem) := Older.ext (.inr ⟨g, _, _, V.obj, by omega, fun e => by omega⟩) _ (fun _ _ _ h => h)
     refine ⟨_, w, _, hrun, ext, wr.upd (Upd.set hid _) ext rfl wr.below wr.mem wr.news ⟨hall', a, 0, own, Ghost.tok_obj _ _ _ _ _ _, by simp, r2, ?_⟩ (fun j x b hj hx hb => ⟨rfl, fun _ => rfl, fun e => ?_⟩) (Nat.le_refl _) (fun b e => wr.fresh id _ b V.obj e) (fun _ _ _ => ⟨rfl, fun _ => rfl⟩) (fun b e => wr.apart id _ b V.obj e), ?_, keepo _ _ _⟩
     · rcases r3 with r3 | ⟨b, arr, ty', q1, q2, q3, q4, q5, q6⟩
       · exact .inl r3
       · exact .inr ⟨b, arr, ty', q1, q2, q3, q4, fun i v hv c hc => by simp at hc, q6⟩
     · exact hj (wr.sep j id x _ b hx V.obj hb e)
     · exact .vec (Ghost.tok_obj _ _ _ _ _ _) (Nat.le_refl _) ⟨a', 0, rfl, by simp⟩ (fun _ => ⟨a, 0, a', rfl, r2, by simp, rfl, fun h => by omega⟩)
   · obtain ⟨b, rfl, e2⟩ := V.adr (by omega)
     rw [Nat.zero_mul] at e2
     subst e2
     rcases r3 with ⟨_, r3⟩ | ⟨b', arr, bt, q1, q2, q3, q4, q5, q6⟩
     · exact absurd r3 hc0
     simp only [Option.some.injEq, Addr.mk.injEq] at q2
     obtain ⟨rfl, _⟩ := q2
     have hobj := V.obj
     rw [q1] at hobj
     have hle : (n + xs.length) * es ≤ cap * es := Nat.mul_le_mul_right _ hroom
     rw [Nat.add_mul] at hle
     have hf : n * i'.size + news.length ≤ arr.size := by rw [hsize, fx.len, q4]; exact hle
     have hrun := run_append_room' w t xt ty et i' k.und hx k'.info q3 (by rw [hsize]; exact src) fx.one hroom hf
     rw [hsize] at hrun hf
     have gg := wr.vecSet (g' := g + 1) (L' := L.take n ++ xs) (arr := (splice arr.toList (n * es) news).toArray) hid hobj q3 q6
       (by rw [List.size_toArray, splice_length _ _ _ (by simpa using hf), Array.length_toList]; exact q4) (by rw [hlen']; exact hroom) r2 hall' (fun j u c hu hc => by
         rw [List.flatten_append] at hc
         rw [List.getElem?_toArray, splice_get _ _ _ (by simpa using hf)] at hu
         have htl : (L.take n).flatten.length = n * es := by rw [flat_len (fun e he => V.all e (List.mem_of_mem_take he)), List.length_take, Nat.min_eq_left hn]
         by_cases hj : j < n * es
         · rw [if_neg (by omega)] at hu
           rw [List.getElem?_append_left (by omega), take_flat V.all hn, List.getElem?_take_of_lt hj] at hc
           exact q5 j u (by simpa using hu) c hc
         · rw [List.getElem?_append_right (by omega), htl] at hc
           have hjl := (List.getElem?_eq_some_iff.1 hc).1
           rw [flat_len hallx] at hjl
           rw [if_pos ⟨by omega, by rw [fx.len]; omega⟩] at hu
           obtain ⟨v', g1, g2⟩ := flat_cell fx hallx hc
           rw [hu] at g1
           simp only [Option.some.injEq] at g1; subst g1
           exact g2) rfl (Nat.le_succ g)
     refine ⟨_, _, _, hrun, gg.2.1, gg.1, .vec (Ghost.tok_obj _ _ _ _ _ _) (Nat.le_refl _) ⟨_, _, rfl, by omega⟩ (fun _ => ⟨_, cap, _, rfl, r2, by omega, by rw [Nat.sub_zero], fun _ => ⟨b, rfl, by rw [Nat.zero_mul]⟩⟩), gg.2.2⟩
 · -- the row lies anew
   have hgt : cap < n + xs.length := by omega
   obtain ⟨a'', k'', olds, e1, e2, fl, e3⟩ := vec_flat wr rs hid (by omega) (by simpa using okl) hs0
   simp only [Value.slice.injEq] at e1
   obtain ⟨rfl, _, rfl⟩ := e1
   simp only [List.drop_zero] at fl
   have ho : (Builtin.firstCells i'.size n (.slice a' n cap)).run P w.drew = .ok olds.toArray w.drew := by
     rw [hsize]
     cases a' with
     | none =>
       have : olds = [] := by
         cases olds with
         | nil => rfl
         | cons v r => obtain ⟨_, _, e, _⟩ := e3 0 v rfl; cases e
       subst this
       simp [Builtin.firstCells]
     | some ad =>
       refine run_firstCells_some w.drew es n ad n cap olds e2 (fun j u hu => ?_)
       obtain ⟨b, o, e, hc⟩ := e3 j u hu
       simp only [Option.some.injEq] at e; subst e
       rw [Addr.add_lit]; exact hc
   have hrun := run_append_grow' w t xt ty et i' z' k.und hx k'.info k'.zero (by rw [hsize]; exact src) ho hgt (by simp only [maxLen] at hmax; omega) (by rw [hbytes]; exact growslice_fits hgt hb)
   have hge := grownCap_ge w (n + xs.length) cap et
   have hcm := grownCap_le_maxLen w (n + xs.length) cap et hmax
   have hzs : z'.cells.size = es := by rw [k'.zero_rv (G := G) |>.1, k'.zl, ← k'.size, hsize]
   generalize hgc : grownCap w (n + xs.length) cap et = gc at *
   generalize harr : (olds ++ (news ++ (Builtin.zeroCells z'.cells (gc - (n + xs.length))).toList)).toArray = arr at *
   have hasz : arr.size = gc * es := by
     rw [← harr]
     simp only [List.size_toArray, List.length_append, Array.length_toList, size_zeroCells, hzs, e2, fx.len, ← Nat.add_mul]
     congr 1; omega
   have wd := wr.drew
   have hle := wd.below.size
   have ext : GExt G (G.tok id (g + 1) (.slice (some ⟨w.heap.size, 0, none⟩) gc gc) (some w.heap.size) G.mem) := Older.ext (.inr ⟨g, _, _, V.obj, by omega, fun e => by omega⟩) _ (fun _ _ _ h => h)
   have hsz' : w.drew.heap.size = w.heap.size := rfl
   have hmn : ∀ o, G.mem w.heap.size o = none := fun o => by
     cases hv : G.mem w.heap.size o with
     | none => rfl
     | some v => have := cell?_lt (wr.mem _ _ _ hv); simp at this
   refine ⟨_, w.drew.alloc (.cells arr et), _, hrun, ext, wd.upd (Upd.set hid _) ext rfl (wd.below.alloc hle _) (fun b o v hv => cell?_alloc (wd.mem b o v hv)) wd.news
     ⟨hall', some ⟨w.heap.size, 0, none⟩, gc, some w.heap.size, Ghost.tok_obj _ _ _ _ _ _, by rw [hlen']; exact hge, hcm, .inr ⟨w.heap.size, arr, et, rfl, rfl, heap_alloc_new w.drew _, hasz, fun j u hu c hc => ?_, hmn⟩⟩
     (fun j x b hj hx hb => ?_) (by simp) (fun b e => by simp only [Option.some.injEq] at e; subst e; exact ⟨hle, by simp⟩) (fun b y hb => ⟨Below.heap_alloc w.drew _ b (wd.pr_lt hb), fun _ => rfl⟩) (fun b e => by simp only [Option.some.injEq] at e; subst e; exact wd.pr_new), ?_, keepo _ _ _⟩
   · rw [List.flatten_append] at hc
     have htl : (L.take n).flatten.length = n * es := by rw [flat_len (fun e he => V.all e (List.mem_of_mem_take he)), List.length_take, Nat.min_eq_left hn]
     rw [← harr, List.getElem?_toArray] at hu
     by_cases hj : j < n * es
     · rw [List.getElem?_append_left (by omega)] at hc hu
       obtain ⟨v', g1, g2⟩ := flat_cell fl (fun e he => V.all e (List.mem_of_mem_take he)) hc
       rw [hu] at g1
       simp only [Option.some.injEq] at g1; subst g1
       exact g2
     · rw [List.getElem?_append_right (by omega), htl] at hc
       have hjl := (List.getElem?_eq_some_iff.1 hc).1
       rw [flat_len hallx] at hjl
       rw [List.getElem?_append_right (by omega), e2, List.getElem?_append_left (by rw [fx.len]; exact hjl)] at hu
       obtain ⟨v', g1, g2⟩ := flat_cell fx hallx hc
       rw [hu] at g1
       simp only [Option.some.injEq] at g1; subst g1
       exact g2
   · have := (wd.fresh j x b hx hb).2
     exact ⟨Below.heap_alloc w.drew _ b this, fun _ => rfl, fun e => by simp only [Option.some.injEq] at e; rw [hsz'] at this; omega⟩
   · exact .vec (Ghost.tok_obj _ _ _ _ _ _) (Nat.le_refl _) ⟨_, _, rfl, by omega⟩ (fun _ => ⟨_, gc, _, rfl, hcm, by omega, by rw [Nat.sub_zero], fun _ => ⟨w.heap.size, rfl, by rw [Nat.zero_mul]⟩⟩)
theorem vslice_rv {P : Program} {t : TypeId} {ti : TI} (k : tinfo P t = some ti) {G : Ghost} {w : World} {id g es lo n e eb : Nat} {pv : Value} (rp : RV G (.vec id g es lo n) pv) (hk : ti.kind = .slice e es eb) (hes : es ≠ 0)
   {i j : Nat} {lv hv : Option Value} (hl : lv = none ∧ i = 0 ∨ ∃ q, lv = some (.int q i)) (hh : hv = none ∧ j = n ∨ ∃ q, hv = some (.int q j)) (h1 : i ≤ j) (h2 : j ≤ n) :
   ∃ v, (Instr.sliceAt t pv lv hv none).run P w = .ok v w ∧ RV G (.vec id g es (lo + i) (j - i)) v := by
 cases rp with
 | vec ho hg hs hq =>
   obtain ⟨a', q, rfl, hnq⟩ := hs
   obtain ⟨i', d, z, k⟩ := tinfo_ok k
   have hd := k.kind
   rw [hk] at hd
   cases d <;> simp only [tkind, reduceCtorEq, TK.slice.injEq] at hd
   rename_i et
   obtain ⟨he, hs, _⟩ := hd
   have und := k.run_und w
   subst he hs
   refine ⟨.slice (if q = i then a' else a'.map (fun x : Addr => x.add (i * P.cellsOf et))) (j - i) (q - i), ?_, .vec ho hg ⟨_, _, rfl, by omega⟩ (fun e => ?_)⟩
   · have b1 : (Instr.sliceBounds true n q lv hv none).run P w = .ok (i, j, q) w := by
       have hb : ∀ (q : IntKind) (m y : Nat) (code : BoundsCode), m ≤ y → (Instr.sliceBound (.int q (m : Int)) y code).run P w = .ok m w := by
         intro q m y code h
         have h' : (m : Int) ≤ (y : Int) := by omega
         simp [Instr.sliceBound, asIntOf, h']
       rcases hl with ⟨rfl, rfl⟩ | ⟨q1, rfl⟩ <;> rcases hh with ⟨rfl, rfl⟩ | ⟨q', rfl⟩ <;> simp [Instr.sliceBounds, hb, h1, show j ≤ q by omega]
     simp only [Instr.sliceAt, Instr.slice, Sem.run_bind, und, Result.andThen_ok, b1, run_sizeOf' hes, Sem.run_pure]
   · obtain ⟨a, cap, a2, e1, e2, e3, e4, e5⟩ := hq e
     simp only [Value.slice.injEq] at e4
     obtain ⟨rfl, _, rfl⟩ := e4
     refine ⟨a, cap, _, e1, e2, by omega, by rw [Nat.sub_sub], fun h => ?_⟩
     obtain ⟨b, f1, f2⟩ := e5 (by omega)
     refine ⟨b, f1, ?_⟩
     rw [if_neg (by omega), f2]
     simp [Addr.add_lit, Nat.add_mul]
theorem WR.vecFreeze {B : Base} {G : Ghost} {H : List AObj} {w : World} (h : WR B G H w) {id g : Nat} {L : List (List PV)} {sz : Nat} (hid : H[id]? = some (.vec g L sz)) (hs0 : sz ≠ 0) :
   ∃ G', GExt G G' ∧ WR B G' (H.set id .gone) w ∧ G'.obj = G.obj ∧ ∀ lo n v, lo + n ≤ L.length → RV G (.vec id g sz lo n) v → RV G' (.p (.sl ((L.drop lo).take n))) v := by
 obtain ⟨hall, a, cap, own, o1, q1, q2, q3⟩ := h.objs id _ hid
 have hlt := (List.getElem?_eq_some_iff.1 hid).1
 rcases q3 with ⟨rfl, rfl⟩ | ⟨b, arr, ty, rfl, rfl, o2, o3, o4, o5⟩
 · refine ⟨G, GExt.refl G, ⟨h.below, h.mem, h.news, h.olds, fun j x hx => ?_, h.sep, h.fresh, fun j hj => h.dom j (by simpa using hj), h.keep, h.apart⟩, rfl, fun lo n v hn r => ?_⟩
   · by_cases e : id = j
     · subst e; rw [List.getElem?_set_self hlt] at hx; simp only [Option.some.injEq] at hx; subst hx; trivial
     · rw [getElem?_set_ne' e] at hx; exact h.objs j x hx
   · obtain ⟨a2, cap2, own2, a', V⟩ := vec_at h r hid
     have : n = 0 := by omega
     subst this
     rw [V.val]
     simp only [List.take_zero]
     have hc := V.row.2.1
     exact .p (.sl0 _ _ (by omega))
 have hfr := h.fresh id _ b o1 rfl
 let G' : Ghost := { G with mem := fun b' o => if b' = b then arr[o]? else G.mem b' o }
 have hext : GExt G G' := ⟨fun x o v hv => by
     have : x ≠ b := fun e => by subst e; rw [o5 o] at hv; cases hv
     show (if x = b then arr[o]? else G.mem x o) = some v
     rw [if_neg this]; exact hv, fun _ _ h => h, fun _ c u o h => ⟨c, u, o, h, Nat.le_refl _, fun _ => rfl⟩, fun _ c u o k cv s h => ⟨c, u, o, k, cv, s, h, Nat.le_refl _, fun _ => rfl, Nat.le_refl _, fun _ => rfl⟩⟩
 refine ⟨G', hext, ⟨h.below, fun x o v hv => ?_, fun x o v hv => ?_, fun x o v hv => hext.mem x o v (h.olds x o v hv), fun j x hx => ?_, h.sep, h.fresh, fun j hj => h.dom j (by simpa using hj), fun c y f hc => ?_, h.apart⟩, rfl, fun lo n v hn r => ?_⟩
 · have hv' : (if x = b then arr[o]? else G.mem x o) = some v := hv
   split at hv'
   · rename_i e; subst e
     rw [cell_of_row w x o arr ty (0, 0) o2]; exact hv'
   · exact h.mem x o v hv'
 · have hv' : (if x = b then arr[o]? else G.mem x o) = some v := hv
   split at hv'
   · rename_i e; subst e; exact .inr hfr.1
   · exact h.news x o v hv'
 · by_cases e : id = j
   · subst e
     rw [List.getElem?_set_self hlt] at hx
     simp only [Option.some.injEq] at hx; subst hx; trivial
   · rw [getElem?_set_ne' e] at hx
     refine (h.objs j x hx).keep hext rfl (fun _ _ _ _ => rfl) (fun g c o hg hc => ?_)
     have : c ≠ b := fun e' => by subst e'; exact e (h.sep id j _ _ c o1 hg rfl hc)
     show (if c = b then arr[o]? else G.mem c o) = G.mem c o
     rw [if_neg this]
 · have hne : c ≠ b := fun e => by subst e; rw [h.apart id _ c o1 rfl] at hc; cases hc
   obtain ⟨h1, h2⟩ := h.keep c y f hc
   refine ⟨h1, ?_⟩
   rw [← h2]; funext o
   show (if c = b then arr[o]? else G.mem c o) = G.mem c o
   rw [if_neg hne]
 · obtain ⟨a2, cap2, own2, a', V⟩ := vec_at h r hid
   have ho := V.obj
   rw [o1] at ho
   simp only [Option.some.injEq, GO.tok.injEq, Value.slice.injEq] at ho
   obtain ⟨_, ⟨rfl, rfl, _⟩, rfl⟩ := ho
   have hxl : ((L.drop lo).take n).length = n := by rw [List.length_take, List.length_drop]; omega
   rw [V.val]
   by_cases hz : n = 0
   · subst hz
     simp only [List.take_zero]
     exact .p (.sl0 _ _ (by omega))
   obtain ⟨b2, e1, e2⟩ := V.adr (by have := V.fit; omega)
   simp only [Option.some.injEq, Addr.mk.injEq] at e1
   obtain ⟨rfl, _⟩ := e1
   subst e2
   have hall2 : ∀ e, e ∈ (L.drop lo).take n → e.length = sz := fun e he => hall e (List.mem_of_mem_drop (List.mem_of_mem_take he))
   have at_ : ∀ i e j, ((L.drop lo).take n)[i]? = some e → j < e.length → ∃ c, e[j]? = some c ∧ lo * sz + i * sz + j < arr.size ∧ L.flatten[lo * sz + i * sz + j]? = some c := by
     intro i e j he hj
     have hel := hall2 e (List.mem_of_getElem? he)
     have hin : i < n := by have := (List.getElem?_eq_some_iff.1 he).1; omega
     rw [List.getElem?_take_of_lt hin, List.getElem?_drop] at he
     obtain ⟨f1, f2⟩ := flat_get (lo + i) e hall he
     have hc : e[j]? = some (e[j]'hj) := List.getElem?_eq_getElem _
     have : (lo + i + 1) * sz ≤ cap * sz := Nat.mul_le_mul_right _ (by have := V.fit; omega)
     rw [Nat.add_mul, Nat.add_mul] at this
     refine ⟨_, hc, by omega, ?_⟩
     rw [← hc, ← f1, List.getElem?_take_of_lt (by omega), List.getElem?_drop, Nat.add_mul]
   refine .p (.sl _ sz b (lo * sz) n (cap - lo) (fun i j => (arr[lo * sz + i * sz + j]?).getD undef) hxl (by have := V.fit; omega) (by omega) hall2 (fun i e j he hj => ?_) (fun i e j c he hj => ?_))
   · obtain ⟨c, _, hl, _⟩ := at_ i e j he hj
     show (if b = b then arr[lo * sz + i * sz + j]? else _) = _
     rw [if_pos rfl]
     simp [hl]
   · obtain ⟨c', h1, hl, h2⟩ := at_ i e j he (List.getElem?_eq_some_iff.1 hj).1
     rw [hj] at h1; simp only [Option.some.injEq] at h1; subst h1
     have := o4 _ _ (Array.getElem?_eq_getElem hl) c h2
     simp only [Array.getElem?_eq_getElem hl, Option.getD_some]
     exact this.mono hext.mem
end Go.Proofs.Ytcajncmjlmpkgaa
