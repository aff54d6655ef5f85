/- Rows that grow and rows of lists: made, grown, taken from an empty list, told as what any holder may see. Own work; no condition. -/
import Derived.Test.YtcajncmjlmpkgaaPcAbsW
namespace Go.Proofs.Ytcajncmjlmpkgaa
open Go Go.RowKit
set_option linter.unusedVariables false
abbrev nilV : Value := .slice none 0 0
theorem WR.famRow {B : Base} {G : Ghost} {H : List AObj} {w w' : World} (wr : WR B G H w) {id g k : Nat} {ls ls' : List (List (List PV))} {size : Nat} {a a' : Option Addr} {cap cap' : Nat} {own own' : Option Nat} {cv cv' : Nat → Value} {sub : Nat → Option Nat} (hid : H[id]? = some (.rvec g k ls size)) (F : FamAt G w id g k ls size none a cap own cv sub)
   (hbelow : Below B.w.heap.size B.w w') (hmem : ∀ b o v, G.mem b o = some v → w'.cell? ⟨b, o, none⟩ = some v) (hsame : ∀ b, b < w.heap.size → own ≠ some b → w'.heap[b]? = w.heap[b]?) (hsz : w.heap.size ≤ w'.heap.size) (hown' : ∀ b, own' = some b → (own = some b ∨ w.heap.size ≤ b) ∧ b < w'.heap.size)
   (hlen : ls.length ≤ ls'.length) (hrow : ∀ G', G'.mem = G.mem → RowR G' w' a' ls'.length cap' 1 own' (fun i v => i < ls'.length → none ≠ some i → v = cv' i)) (hpre : ∀ i l, ls'[i]? = some l → (ls[i]? = some l ∧ cv' i = cv i) ∨ (ls.length ≤ i ∧ l = [] ∧ cv' i = nilV)) :
   WR B (G.put id (.fam (g + 1) (.slice a' cap' cap') own' (k + 1) cv' sub) G.mem) (H.set id (.rvec (g + 1) (k + 1) ls' size)) w' ∧ GExt G (G.put id (.fam (g + 1) (.slice a' cap' cap') own' (k + 1) cv' sub) G.mem) ∧ ∀ j, G.obj j = none → (G.put id (.fam (g + 1) (.slice a' cap' cap') own' (k + 1) cv' sub) G.mem).obj j = none := by
 have hle := wr.below.size
 have subfr : ∀ j b, sub j = some b → B.w.heap.size ≤ b ∧ b < w.heap.size := fun j b h => wr.fresh id _ b F.obj (.inr ⟨j, h⟩)
 have ownfr : ∀ b, own = some b → B.w.heap.size ≤ b ∧ b < w.heap.size := fun b h => wr.fresh id _ b F.obj (.inl h)
 have ext : GExt G (G.put id (.fam (g + 1) (.slice a' cap' cap') own' (k + 1) cv' sub) G.mem) := GExt.fam_put F.obj (fun _ _ _ h => h) (Nat.le_succ _) (fun e => by omega) (Nat.le_succ _) (fun e => by omega)
 have sn : ∀ j b, sub j = some b → own ≠ some b := F.apart
 refine ⟨wr.updG (Upd.set hid _) ext rfl hbelow hmem wr.news ?_ (fun j x b hj hx hb => ?_) hsz (fun b hb => ?_) (fun b y hb => ?_) (fun b hb => ?_), ext, Ghost.put_none F.obj⟩
 · refine ⟨a', cap', own', cv', sub, Ghost.put_obj _ _ _ _, hrow _ rfl, fun j l hl => ?_, F.dis, fun j b h e => ?_, fun j hj => F.tail j (by omega)⟩
   · rcases hpre j l hl with ⟨h1, h2⟩ | ⟨h1, rfl, h2⟩
     · rw [h2]
       exact (F.lst j l h1).keep (fun _ _ _ h => h) (fun b hb => hsame b (subfr j b hb).2 (sn j b hb)) (fun _ _ _ => rfl)
     · rw [h2, F.tail j h1]
       exact ⟨.sl0 _ _ (Nat.zero_le _), .inl ⟨rfl, none, rfl⟩⟩
   · rcases (hown' b e).1 with q | q
     · exact sn j b h q
     · have := (subfr j b h).2; omega
 · have hlt := (wr.fresh j x b hx hb).2
   have hno : own ≠ some b := fun e => hj (wr.sep j id x _ b hx F.obj hb (.inl e))
   refine ⟨hsame b hlt hno, fun _ => rfl, ?_⟩
   rintro (e | ⟨q, e⟩)
   · rcases (hown' b e).1 with h | h
     · exact hno h
     · omega
   · exact hj (wr.sep j id x _ b hx F.obj hb (.inr ⟨q, e⟩))
 · rcases hb with e | ⟨q, e⟩
   · obtain ⟨h1, h2⟩ := hown' b e
     refine ⟨?_, h2⟩
     rcases h1 with h | h
     · exact (ownfr b h).1
     · omega
   · have := subfr q b e; exact ⟨this.1, by omega⟩
 · have hno : own ≠ some b := fun e => by rw [wr.apart id _ b F.obj (.inl e)] at hb; cases hb
   exact ⟨hsame b (wr.pr_lt hb) hno, fun _ => rfl⟩
 · rcases hb with e | ⟨q, e⟩
   · rcases (hown' b e).1 with h | h
     · exact wr.apart id _ b F.obj (.inl h)
     · cases hp : B.pr b with
       | none => rfl
       | some y => have := wr.pr_lt hp; omega
   · exact wr.apart id _ b F.obj (.inr ⟨q, e⟩)
theorem nils_src {P : Program} {B : Base} {G : Ghost} {H : List AObj} {w : World} (wr : WR B G H w) {m : Nat} {v : Value} (r : RV G (.nils m) v) : Src P w 1 m v (List.replicate m nilV) := by
 cases r with
 | nils hn =>
   obtain ⟨b, rfl, h1, h2⟩ := hn
   have fc : ∀ w' : World, (∀ i, i < m → w'.cell? ⟨b, i, none⟩ = some nilV) → (Builtin.firstCells 1 m (.slice (some ⟨b, 0, none⟩) m m)).run P w' = .ok (List.replicate m nilV).toArray w' := by
     intro w' h
     refine run_firstCells_some w' 1 m _ m m _ (by simp) (fun j u hu => ?_)
     rw [List.getElem?_replicate] at hu
     split at hu <;> simp at hu
     subst hu
     rw [Addr.add_lit, Nat.zero_add]
     exact h j (by assumption)
   exact ⟨by simp [Builtin.lenOf], fc w (fun i hi => wr.mem _ _ _ (h2 i hi)), fc w.drew (fun i hi => wr.drew.mem _ _ _ (h2 i hi))⟩
theorem rpush_ok {P : Program} {B : Base} {G : Ghost} {H : List AObj} {w : World} (wr : WR B G H w) {t xt ty e eb : Nat} {ti ei : TI} (kt : tinfo P t = some ti) (kk : ti.kind = .slice e 1 eb) (hx : ∃ d, P.underlying xt = some d ∧ ∀ q, d ≠ .int q) (ke : tinfo P e = some ei)
   {id g k n m : Nat} {ls : List (List (List PV))} {size : Nat} {sv xv : Value} (rs : RV G (.rvec id g n) sv) (rx : RV G (.nils m) xv) (hid : H[id]? = some (.rvec g k ls size)) (hn : n = ls.length) (hm0 : 0 < m) (hmax : n + m ≤ maxLen) (hb : (n + m) * eb ≤ 140737488355328) :
   ∃ v w' G', (Builtin.append_ #[t, xt] ty #[sv, xv]).run P w = .ok v w' ∧ GExt G G' ∧ WR B G' (H.set id (.rvec (g + 1) (k + 1) (ls ++ List.replicate m []) size)) w' ∧ RV G' (.rvec id (g + 1) (n + m)) v ∧ ∀ j, G.obj j = none → G'.obj j = none := by
 obtain ⟨i0, d, z, k0⟩ := tinfo_ok kt
 obtain ⟨i', d', z', k'⟩ := tinfo_ok ke
 have hd := k0.kind
 rw [kk] at hd
 cases d <;> simp only [tkind, reduceCtorEq, TK.slice.injEq] at hd
 rename_i et
 obtain ⟨he, hes, heb⟩ := hd
 subst he
 have hsize : i'.size = 1 := by rw [← hes]; simp [Program.cellsOf, k'.info]
 have hbytes : i'.bytes = eb := by rw [← heb]; simp [Program.bytesOf, k'.info]
 obtain ⟨a, cap, own, cv, sub, F⟩ := fam_open (wr.objs id _ hid)
 obtain ⟨a', rfl, h1, h2⟩ := rvec_val F rs
 obtain ⟨r1, r2, r3⟩ := F.row
 have src := nils_src (P := P) wr rx
 have hl' : (ls ++ List.replicate m ([] : List (List PV))).length = n + m := by rw [List.length_append, List.length_replicate, hn]
 have hpre : ∀ (i : Nat) l, (ls ++ List.replicate m ([] : List (List PV)))[i]? = some l → (ls[i]? = some l ∧ (fun j => if j < n then cv j else nilV) i = cv i) ∨ (ls.length ≤ i ∧ l = [] ∧ (fun j => if j < n then cv j else nilV) i = nilV) := by
   intro i l hl
   by_cases g1 : i < n
   · rw [List.getElem?_append_left (by omega)] at hl
     exact .inl ⟨hl, if_pos g1⟩
   · rw [List.getElem?_append_right (by omega), List.getElem?_replicate] at hl
     split at hl <;> simp at hl
     exact .inr ⟨by omega, hl, if_neg g1⟩
 by_cases hroom : n + m ≤ cap
 · obtain ⟨b, rfl, rfl⟩ := h2 (by omega)
   rcases r3 with ⟨_, r3⟩ | ⟨b', arr, bt, rfl, q2, q3, q4, q5, q6⟩
   · omega
   simp only [Option.some.injEq, Addr.mk.injEq] at q2
   obtain ⟨rfl, _⟩ := q2
   have hfit : n * i'.size + (List.replicate m nilV).length ≤ arr.size := by rw [hsize, List.length_replicate]; omega
   have hrun := run_append_room' w t xt ty et i' k0.und hx k'.info q3 (by rw [hsize]; exact src) (fun u hu => by rw [(List.mem_replicate.1 hu).2]; rfl) hroom hfit
   rw [hsize, Nat.mul_one] at hrun hfit
   have hfr := wr.fresh id _ b F.obj (.inl rfl)
   generalize hsp : (splice arr.toList n (List.replicate m nilV)).toArray = arr' at *
   have hsz' : arr'.size = cap * 1 := by rw [← hsp, List.size_toArray, splice_length _ _ _ (by simpa using hfit), Array.length_toList]; exact q4
   have gg := wr.famRow (w' := w.setRow b arr') (ls' := ls ++ List.replicate m []) (a' := some ⟨b, 0, none⟩) (cap' := cap) (own' := some b) (cv' := fun j => if j < n then cv j else nilV) hid F (below_setRow wr.below hfr.1 _)
     (fun x o v hv => by
       have : x ≠ b := fun e => by subst e; rw [q6 o] at hv; cases hv
       rw [cell_setRow_other w b arr' _ this]; exact wr.mem x o v hv)
     (fun b' _ hne => setRow_other w b b' arr' (fun e => hne (by rw [e]))) (by rw [setRow_size]; exact Nat.le_refl _) (fun b' e => by simp only [Option.some.injEq] at e; subst e; exact ⟨.inl rfl, by rw [setRow_size]; exact hfr.2⟩) (by rw [hl']; omega)
     (fun G' hG' => ⟨by rw [hl']; exact hroom, r2, .inr ⟨b, arr', bt, rfl, rfl, setRow_heap w b arr arr' bt _ q3, hsz', fun i v hv hi _ => by
       rw [hl'] at hi
       rw [← hsp, List.getElem?_toArray, splice_get _ _ _ (by simpa using hfit), List.length_replicate] at hv
       show v = if i < n then cv i else nilV
       by_cases g1 : i < n
       · rw [if_neg (by omega)] at hv
         rw [if_pos g1]
         exact q5 i v (by simpa using hv) (by omega) (by simp)
       · rw [if_pos (by omega), List.getElem?_replicate, if_pos (by omega)] at hv
         rw [if_neg g1]; simpa using hv.symm, fun o => by rw [hG']; exact q6 o⟩⟩) hpre
   exact ⟨_, _, _, hrun, gg.2.1, gg.1, .rvec (Ghost.put_obj _ _ _ _) (Nat.le_refl _) ⟨_, _, rfl⟩ (fun _ => ⟨_, cap, _, rfl, r2, by omega, by rw [Nat.sub_zero], fun _ => ⟨b, rfl, by rw [Nat.zero_mul]⟩⟩), gg.2.2⟩
 · have hgt : cap < n + m := by omega
   obtain ⟨olds, ho1, ho2, ho3⟩ : ∃ olds : List Value, olds.length = n ∧ (∀ j, j < n → olds[j]? = some (cv j)) ∧ (Builtin.firstCells i'.size n (.slice a' n cap)).run P w.drew = .ok olds.toArray w.drew := by
     by_cases hc0 : n = 0
     · refine ⟨[], by simp [hc0], fun j hj => by omega, ?_⟩
       rw [hc0]
       cases a' with
       | none => simp [Builtin.firstCells]
       | some ad => exact run_firstCells_some w.drew _ 0 ad 0 cap [] (by simp) (fun j u hu => by simp at hu)
     · obtain ⟨b, rfl, rfl⟩ := h2 (by omega)
       rcases r3 with ⟨_, r3⟩ | ⟨b', arr, bt, rfl, q2, q3, q4, q5, q6⟩
       · omega
       simp only [Option.some.injEq, Addr.mk.injEq] at q2
       obtain ⟨rfl, _⟩ := q2
       have hat : ∀ j, j < n → arr[j]? = some (cv j) := fun j hj => by
         have hv : arr[j]? = some (arr[j]'(by omega)) := Array.getElem?_eq_getElem _
         rw [hv, q5 j _ hv (by omega) (by simp)]
       refine ⟨arr.toList.take n, by rw [List.length_take, Array.length_toList]; omega, fun j hj => by rw [List.getElem?_take_of_lt hj, Array.getElem?_toList]; exact hat j hj, ?_⟩
       refine run_firstCells_some w.drew _ n _ n cap _ (by rw [List.length_take, Array.length_toList, hsize]; omega) (fun j u hu => ?_)
       have hj : j < n := by have := (List.getElem?_eq_some_iff.1 hu).1; rw [List.length_take] at this; omega
       rw [List.getElem?_take_of_lt hj, Array.getElem?_toList] at hu
       rw [Addr.add_lit, Nat.zero_add]
       show w.cell? _ = _
       rw [cell_of_row w b j arr bt (0, 0) q3]; exact hu
   have hrun := run_append_grow' w t xt ty et i' z' k0.und hx k'.info k'.zero (by rw [hsize]; exact src) ho3 hgt (by simp only [maxLen] at hmax; omega) (by rw [hbytes]; exact growslice_fits hgt hb)
   have hge := grownCap_ge w (n + m) cap et
   have hcm := grownCap_le_maxLen w (n + m) cap et hmax
   have hzs : z'.cells.size = 1 := by rw [k'.zero_rv (G := G) |>.1, k'.zl, ← k'.size, hsize]
   generalize grownCap w (n + m) cap et = gc at *
   generalize harr : (olds ++ (List.replicate m nilV ++ (Builtin.zeroCells z'.cells (gc - (n + m))).toList)).toArray = arr at *
   have hasz : arr.size = gc * 1 := by
     rw [← harr]
     simp only [List.size_toArray, List.length_append, Array.length_toList, size_zeroCells, hzs, ho1, List.length_replicate]
     omega
   have wd := wr.drew
   have hle := wr.below.size
   have hmn : ∀ o, G.mem w.heap.size o = none := fun o => by
     cases hv : G.mem w.heap.size o with
     | none => rfl
     | some v => have := cell?_lt (wr.mem _ _ _ hv); simp at this
   have gg := wr.famRow (w' := w.drew.alloc (.cells arr et)) (ls' := ls ++ List.replicate m []) (a' := some ⟨w.heap.size, 0, none⟩) (cap' := gc) (own' := some w.heap.size) (cv' := fun j => if j < n then cv j else nilV) hid F (wd.below.alloc hle _)
     (fun x o v hv => cell?_alloc (wd.mem x o v hv)) (fun b' hb' _ => Below.heap_alloc w.drew _ b' hb') (by simp) (fun b' e => by simp only [Option.some.injEq] at e; subst e; exact ⟨.inr (Nat.le_refl _), by simp⟩) (by rw [hl']; omega)
     (fun G' hG' => ⟨by rw [hl']; exact hge, hcm, .inr ⟨w.heap.size, arr, et, rfl, rfl, heap_alloc_new w.drew _, hasz, fun i v hv hi _ => by
       rw [hl'] at hi
       rw [← harr, List.getElem?_toArray] at hv
       show v = if i < n then cv i else nilV
       by_cases g1 : i < n
       · rw [List.getElem?_append_left (by omega), ho2 i g1] at hv
         rw [if_pos g1]; simpa using hv.symm
       · rw [List.getElem?_append_right (by omega), ho1, List.getElem?_append_left (by simp; omega), List.getElem?_replicate, if_pos (by omega)] at hv
         rw [if_neg g1]; simpa using hv.symm, fun o => by rw [hG']; exact hmn o⟩⟩) hpre
   exact ⟨_, _, _, hrun, gg.2.1, gg.1, .rvec (Ghost.put_obj _ _ _ _) (Nat.le_refl _) ⟨_, _, rfl⟩ (fun _ => ⟨_, gc, _, rfl, hcm, by omega, by rw [Nat.sub_zero], fun _ => ⟨w.heap.size, rfl, by rw [Nat.zero_mul]⟩⟩), gg.2.2⟩
theorem WR.newG {B : Base} {G : Ghost} {H : List AObj} {w w' : World} (wr : WR B G H w) {g0 : GO} {x : AObj} (hbelow : Below B.w.heap.size B.w w') (hmem : ∀ b o v, G.mem b o = some v → w'.cell? ⟨b, o, none⟩ = some v) (hsame : ∀ b, b < w.heap.size → w'.heap[b]? = w.heap[b]?) (hsz : w.heap.size ≤ w'.heap.size)
   (hown : ∀ b, g0.has b → w.heap.size ≤ b ∧ b < w'.heap.size) (hx : ObjR (G.put H.length g0 G.mem) w' H.length x) :
   WR B (G.put H.length g0 G.mem) (H ++ [x]) w' ∧ GExt G (G.put H.length g0 G.mem) := by
 have hdom := wr.dom H.length (Nat.le_refl _)
 have hle := wr.below.size
 have hne : ∀ i y, G.obj i = some y → i ≠ H.length := fun i y hy e => by subst e; rw [hdom] at hy; cases hy
 have ext : GExt G (G.put H.length g0 G.mem) := ⟨fun _ _ _ h => h, fun i b hb => by simp only [Ghost.put]; rw [if_neg (hne _ _ hb)]; exact hb, fun i c u o hc => ⟨c, u, o, by simp only [Ghost.put]; rw [if_neg (hne _ _ hc)]; exact hc, Nat.le_refl _, fun _ => rfl⟩,
   fun i c u o k cv s hc => ⟨c, u, o, k, cv, s, by simp only [Ghost.put]; rw [if_neg (hne _ _ hc)]; exact hc, Nat.le_refl _, fun _ => rfl, Nat.le_refl _, fun _ => rfl⟩⟩
 refine ⟨wr.updG (Upd.push H x) ext rfl hbelow hmem wr.news hx (fun i y b hi hy hb => ?_) hsz (fun b hb => ?_) (fun b y hb => ⟨hsame b (wr.pr_lt hb), fun _ => rfl⟩) (fun b hb => ?_), ext⟩
 · have := (wr.fresh i y b hy hb).2
   exact ⟨hsame b this, fun _ => rfl, fun e => by have := (hown b e).1; omega⟩
 · have := hown b hb; exact ⟨by omega, this.2⟩
 · cases hp : B.pr b with
   | none => rfl
   | some y => have := wr.pr_lt hp; have := (hown b hb).1; omega
theorem rmake_ok {P : Program} {B : Base} {G : Ghost} {H : List AObj} {w : World} (wr : WR B G H w) {t e eb n : Nat} {ti ei : TI} (kt : tinfo P t = some ti) (kk : ti.kind = .slice e 1 eb) (ke : tinfo P e = some ei) (hz : ei.zero = [.full []])
   {ik ik' : IntKind} (h47 : n * eb ≤ 140737488355328) (hmax : n ≤ maxLen) (hsz : ei.size = 1) (size : Nat) :
   ∃ v w' G', (Instr.makeSlice t (.int ik n) (.int ik' n)).run P w = .ok v w' ∧ GExt G G' ∧ WR B G' (H ++ [.rvec 0 0 (List.replicate n []) size]) w' ∧ RV G' (.rvec H.length 0 n) v := by
 obtain ⟨i, d, z, k⟩ := tinfo_ok kt
 obtain ⟨i', d', z', k'⟩ := tinfo_ok ke
 have hd := k.kind
 rw [kk] at hd
 cases d <;> simp only [tkind, reduceCtorEq, TK.slice.injEq] at hd
 rename_i et
 obtain ⟨he, hes', heb⟩ := hd
 subst he
 have hzc : z'.cells.toList = [nilV] := by
   have h := k'.zs
   rw [hz] at h
   obtain ⟨h1, h2⟩ := mapM_cst h
   match hl : z'.cells.toList, h1 with
   | [v], _ =>
     have := h2 0 _ v rfl (by rw [hl]; rfl)
     unfold cst at this
     split at this
     · split at this <;> simp at this
     · unfold cst1 at this
       split at this <;> simp at this
       rfl
 have hzs : z'.cells.size = 1 := by rw [← Array.length_toList, hzc]; rfl
 have hbytes : i'.bytes = eb := by
   rw [← heb]
   simp only [Program.bytesOf, k'.info, Option.map_some, Option.getD_some]
 have hb : ((i'.bytes : Nat) : Int) * (n : Int) ≤ 281474976710656 := by
   rw [hbytes]
   have h : ((eb * n : Nat) : Int) ≤ 281474976710656 := by rw [Nat.mul_comm]; omega
   rwa [Int.natCast_mul] at h
 have hr := run_make (P := P) w t et i' z' k.und k'.info k'.zero ik ik' n n (by omega) (Int.le_refl _) hb (by simp only [maxLen] at hmax; omega)
 simp only [Int.toNat_natCast] at hr
 have hi1 : i'.size = 1 := by rw [k'.size, hsz]
 have hle := wr.below.size
 have hmn : ∀ o, G.mem w.heap.size o = none := fun o => by
   cases hv : G.mem w.heap.size o with
   | none => rfl
   | some v => have := cell?_lt (wr.mem _ _ _ hv); simp at this
 have gg := wr.newG (w' := w.alloc (.cells (madeCells z'.cells (n * i'.size)) et)) (g0 := .fam 0 (.slice (some ⟨w.heap.size, 0, none⟩) n n) (some w.heap.size) 0 (fun _ => nilV) (fun _ => none)) (x := .rvec 0 0 (List.replicate n []) size)
   (wr.below.alloc hle _) (fun b o v hv => cell?_alloc (wr.mem b o v hv)) (fun b hb => Below.heap_alloc w _ b hb) (by simp) (fun b hb => by
     rcases hb with e | ⟨_, e⟩
     · simp only [Option.some.injEq] at e; subst e; exact ⟨Nat.le_refl _, by simp⟩
     · cases e)
   ⟨some ⟨w.heap.size, 0, none⟩, n, some w.heap.size, fun _ => nilV, fun _ => none, Ghost.put_obj _ _ _ _, ⟨by simp, hmax, .inr ⟨w.heap.size, _, et, rfl, rfl, heap_alloc_new w _, by rw [size_madeCells, hi1], fun j v hv _ _ => by
     have hj : j < n := by have := (Array.getElem?_eq_some_iff.1 hv).1; rw [size_madeCells, hi1] at this; omega
     simp only [madeCells, hzs, hi1, Nat.mul_one, Nat.mod_one] at hv
     simp [hj] at hv
     rw [← hv, ← Array.getElem!_toList, hzc]; rfl, hmn⟩⟩, fun j l hl => by
       rw [List.getElem?_replicate] at hl
       split at hl <;> simp at hl
       subst hl
       exact ⟨.sl0 _ _ (Nat.zero_le _), .inl ⟨rfl, none, rfl⟩⟩, fun _ _ _ h => (by cases h), fun _ _ h => (by cases h), fun _ _ => rfl⟩
 exact ⟨_, _, _, hr, gg.2, gg.1, .rvec (Ghost.put_obj _ _ _ _) (Nat.le_refl _) ⟨_, _, rfl⟩ (fun _ => ⟨_, n, _, rfl, hmax, by omega, by rw [Nat.sub_zero], fun _ => ⟨w.heap.size, rfl, by rw [Nat.zero_mul]⟩⟩)⟩
theorem vmake_ok {P : Program} {B : Base} {G : Ghost} {H : List AObj} {w : World} (wr : WR B G H w) {t e es eb n c : Nat} {ti ei : TI} (kt : tinfo P t = some ti) (kk : ti.kind = .slice e es eb) (ke : tinfo P e = some ei) {zs : List PV} (hz : ei.zero.mapM AV.pure1 = some zs)
   {ik ik' : IntKind} (hnc : n ≤ c) (h47 : c * eb ≤ 140737488355328) (hmax : c ≤ maxLen) (hes : es ≠ 0) (hsz : ei.size = es) :
   ∃ v w' G', (Instr.makeSlice t (.int ik n) (.int ik' c)).run P w = .ok v w' ∧ GExt G G' ∧ WR B G' (H ++ [.vec 0 (List.replicate n zs) es]) w' ∧ RV G' (.vec H.length 0 es 0 n) v := by
 obtain ⟨i, d, z, k⟩ := tinfo_ok kt
 obtain ⟨i', d', z', k'⟩ := tinfo_ok ke
 have hd := k.kind
 rw [kk] at hd
 cases d <;> simp only [tkind, reduceCtorEq, TK.slice.injEq] at hd
 rename_i et
 obtain ⟨he, hes', heb⟩ := hd
 subst he
 have hz0 := k'.zero_rv (G := G)
 obtain ⟨p1, p2⟩ := mapM_get hz
 have hzl : zs.length = es := by rw [← p1, k'.zl, hsz]
 have hzs : z'.cells.size = es := by rw [hz0.1, k'.zl, hsz]
 have hbytes : i'.bytes = eb := by
   rw [← heb]
   simp only [Program.bytesOf, k'.info, Option.map_some, Option.getD_some]
 have hb : ((i'.bytes : Nat) : Int) * (c : Int) ≤ 281474976710656 := by
   rw [hbytes]
   have h : ((eb * c : Nat) : Int) ≤ 281474976710656 := by rw [Nat.mul_comm]; omega
   rwa [Int.natCast_mul] at h
 have hr := run_make (P := P) w t et i' z' k.und k'.info k'.zero ik ik' n c (by omega) (by omega) hb (by simp only [maxLen] at hmax; omega)
 simp only [Int.toNat_natCast] at hr
 have hi1 : i'.size = es := by rw [k'.size, hsz]
 have hle := wr.below.size
 have hmn : ∀ o, G.mem w.heap.size o = none := fun o => by
   cases hv : G.mem w.heap.size o with
   | none => rfl
   | some v => have := cell?_lt (wr.mem _ _ _ hv); simp at this
 have hall : ∀ e, e ∈ List.replicate n zs → e.length = es := fun e he => by rw [(List.mem_replicate.1 he).2]; exact hzl
 have gg := wr.newG (w' := w.alloc (.cells (madeCells z'.cells (c * i'.size)) et)) (g0 := .tok 0 (.slice (some ⟨w.heap.size, 0, none⟩) c c) (some w.heap.size)) (x := .vec 0 (List.replicate n zs) es)
   (wr.below.alloc hle _) (fun b o v hv => cell?_alloc (wr.mem b o v hv)) (fun b hb => Below.heap_alloc w _ b hb) (by simp) (fun b hb => by
     have e : (some w.heap.size : Option Nat) = some b := hb
     simp only [Option.some.injEq] at e; subst e; exact ⟨Nat.le_refl _, by simp⟩)
   ⟨hall, some ⟨w.heap.size, 0, none⟩, c, some w.heap.size, Ghost.put_obj _ _ _ _, by simpa using hnc, hmax, .inr ⟨w.heap.size, _, et, rfl, rfl, heap_alloc_new w _, by rw [size_madeCells, hi1], fun j v hv cc hcc => by
     have hj : j < n * es := by have := (List.getElem?_eq_some_iff.1 hcc).1; rw [flat_len hall, List.length_replicate] at this; exact this
     rw [flatten_rep _ _ _ (by rw [hzl]; exact hj), hzl] at hcc
     have hm : j % es < z'.cells.size := by rw [hzs]; exact Nat.mod_lt _ (by omega)
     have hjc : j < c * i'.size := by
       have := (Array.getElem?_eq_some_iff.1 hv).1
       rw [size_madeCells] at this; exact this
     have hv' : v = z'.cells[j % es] := by
       simp only [madeCells, hzs] at hv
       simp [hjc] at hv
       rw [← hv]; simp [getElem!_pos, hm]
     subst hv'
     have hzc : ei.zero[j % es]? = some (ei.zero[j % es]'(by rw [k'.zl, hsz]; omega)) := List.getElem?_eq_getElem _
     have hrp : RP G.mem cc z'.cells[j % es] := pure1_ok (hz0.2 _ _ _ hzc (by simp [hm])) (p2 _ _ _ hzc hcc)
     exact hrp, hmn⟩⟩
 exact ⟨_, _, _, hr, gg.2, gg.1, .vec (Ghost.put_obj _ _ _ _) (Nat.le_refl _) ⟨_, _, rfl, by omega⟩ (fun _ => ⟨_, c, _, rfl, hmax, by omega, by rw [Nat.sub_zero], fun _ => ⟨w.heap.size, rfl, by rw [Nat.zero_mul]⟩⟩)⟩
theorem WR.mintVec {B : Base} {G : Ghost} {H : List AObj} {w : World} (wr : WR B G H w) {v : Value} (size : Nat) (rv : RV G (.full []) v) :
   ∃ G', GExt G G' ∧ WR B G' (H ++ [.vec 0 [] size]) w ∧ RV G' (.vec H.length 0 size 0 0) v := by
 cases rv with
 | @full _ ad n hp =>
   have hn : n = 0 := by obtain ⟨a', cap', e'⟩ := hp.slice_len; simp only [Value.slice.injEq] at e'; exact e'.2.1
   subst hn
   have gg := wr.newG (w' := w) (g0 := .tok 0 (.slice ad 0 0) none) (x := .vec 0 [] size) wr.below wr.mem (fun _ _ => rfl) (Nat.le_refl _) (fun b hb => by cases hb) ⟨fun e he => by simp at he, ad, 0, none, Ghost.put_obj _ _ _ _, Nat.le_refl _, Nat.zero_le _, .inl ⟨rfl, rfl⟩⟩
   exact ⟨_, gg.2, gg.1, .vec (Ghost.put_obj _ _ _ _) (Nat.le_refl _) ⟨_, _, rfl, Nat.zero_le _⟩ (fun _ => ⟨ad, 0, ad, rfl, Nat.zero_le _, Nat.le_refl _, rfl, fun h => by omega⟩)⟩
theorem WR.rvecFreeze {B : Base} {G : Ghost} {H : List AObj} {w : World} (h : WR B G H w) {id g k : Nat} {ls : List (List (List PV))} {size : Nat} (hid : H[id]? = some (.rvec g k ls size)) :
   ∃ G', GExt G G' ∧ WR B G' (H.set id .gone) w ∧ ∀ v, RV G (.rvec id g ls.length) v → RV G' (.p (.sl (ls.map fun l => [.sl l]))) v := by
 obtain ⟨a, cap, own, cv, sub, F⟩ := fam_open (h.objs id _ hid)
 obtain ⟨q1, q2, q3⟩ := F.row
 have hlt := (List.getElem?_eq_some_iff.1 hid).1
 rcases q3 with ⟨rfl, rfl⟩ | ⟨b, arr, ty, rfl, rfl, o2, o3, o4, o5⟩
 · refine ⟨G, GExt.refl G, ⟨h.below, h.mem, h.news, h.olds, fun j x hx => ?_, h.sep, h.fresh, fun j hj => h.dom j (by simpa using hj), h.keep, h.apart⟩, fun v r => ?_⟩
   · by_cases e : id = j
     · subst e; rw [List.getElem?_set_self hlt] at hx; simp only [Option.some.injEq] at hx; subst hx; trivial
     · rw [getElem?_set_ne' e] at hx; exact h.objs j x hx
   · obtain ⟨a', rfl, h1, _⟩ := rvec_val F r
     have : ls = [] := List.eq_nil_of_length_eq_zero (by omega)
     subst this
     exact .p (.sl0 _ _ (Nat.zero_le _))
 have hfr := h.fresh id _ b F.obj (.inl rfl)
 let G' : Ghost := { G with mem := fun b' o => if b' = b then arr[o]? else G.mem b' o }
 have hext : GExt G G' := ⟨fun x o v hv => by
     have : x ≠ b := fun e => by subst e; rw [o5 o] at hv; cases hv
     show (if x = b then arr[o]? else G.mem x o) = some v
     rw [if_neg this]; exact hv, fun _ _ h => h, fun _ c u o h => ⟨c, u, o, h, Nat.le_refl _, fun _ => rfl⟩, fun _ c u o k cv s h => ⟨c, u, o, k, cv, s, h, Nat.le_refl _, fun _ => rfl, Nat.le_refl _, fun _ => rfl⟩⟩
 refine ⟨G', hext, ⟨h.below, fun x o v hv => ?_, fun x o v hv => ?_, fun x o v hv => hext.mem x o v (h.olds x o v hv), fun j x hx => ?_, h.sep, h.fresh, fun j hj => h.dom j (by simpa using hj), fun c y f hc => ?_, h.apart⟩, fun v r => ?_⟩
 · have hv' : (if x = b then arr[o]? else G.mem x o) = some v := hv
   split at hv'
   · rename_i e; subst e
     rw [cell_of_row w x o arr ty (0, 0) o2]; exact hv'
   · exact h.mem x o v hv'
 · have hv' : (if x = b then arr[o]? else G.mem x o) = some v := hv
   split at hv'
   · rename_i e; subst e; exact .inr hfr.1
   · exact h.news x o v hv'
 · by_cases e : id = j
   · subst e
     rw [List.getElem?_set_self hlt] at hx
     simp only [Option.some.injEq] at hx; subst hx; trivial
   · rw [getElem?_set_ne' e] at hx
     refine (h.objs j x hx).keep hext rfl (fun _ _ _ _ => rfl) (fun g c o hg hc => ?_)
     have : c ≠ b := fun e' => by subst e'; exact e (h.sep id j _ _ c F.obj hg (.inl rfl) hc)
     show (if c = b then arr[o]? else G.mem c o) = G.mem c o
     rw [if_neg this]
 · have hne : c ≠ b := fun e => by subst e; rw [h.apart id _ c F.obj (.inl rfl)] at hc; cases hc
   obtain ⟨h1, h2⟩ := h.keep c y f hc
   refine ⟨h1, ?_⟩
   rw [← h2]; funext o
   show (if c = b then arr[o]? else G.mem c o) = G.mem c o
   rw [if_neg hne]
 · obtain ⟨a', rfl, h1, h2⟩ := rvec_val F r
   by_cases hz : ls.length = 0
   · have : ls = [] := List.eq_nil_of_length_eq_zero hz
     subst this
     exact .p (.sl0 _ _ q2)
   obtain ⟨b2, e1, e2⟩ := h2 (by omega)
   simp only [Option.some.injEq, Addr.mk.injEq] at e1
   obtain ⟨rfl, _⟩ := e1
   subst e2
   have at_ : ∀ i, i < ls.length → arr[i]? = some (cv i) := fun i hi => by
     have hv : arr[i]? = some (arr[i]'(by omega)) := Array.getElem?_eq_getElem _
     rw [hv, o4 i _ hv hi (by simp)]
   have one : ∀ (i : Nat) e, (ls.map fun l => [PV.sl l])[i]? = some e → ∃ l, ls[i]? = some l ∧ e = [.sl l] := fun i e he => by
     rw [List.getElem?_map, Option.map_eq_some_iff] at he
     obtain ⟨l, hl, rfl⟩ := he
     exact ⟨l, hl, rfl⟩
   refine .p (.sl _ 1 b 0 ls.length cap (fun i _ => cv i) (by simp) h1 q2 (fun e he => ?_) (fun i e j he hj => ?_) (fun i e j c he hc => ?_))
   · obtain ⟨l, _, rfl⟩ := List.mem_map.1 he; rfl
   · obtain ⟨l, hl, rfl⟩ := one i e he
     simp at hj; subst hj
     show (if b = b then arr[0 + i * 1 + 0]? else _) = _
     rw [if_pos rfl, Nat.mul_one, Nat.zero_add, Nat.add_zero]
     exact at_ i (List.getElem?_eq_some_iff.1 hl).1
   · obtain ⟨l, hl, rfl⟩ := one i e he
     cases j with
     | zero => simp at hc; subst hc; exact (F.lst i l hl).1.mono hext.mem
     | succ j => simp at hc
end Go.Proofs.Ytcajncmjlmpkgaa
