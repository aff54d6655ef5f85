/- Clone and DeleteFunc at values as calls on the abstract heap; pack; pack; pack; pack; pack; pack; pack; tallyref: plainly, truth, width; tallyref: stand; tallyref: bits; tallyref: the place of a word, by sort; tallyref; Plain facts for tallyref; tallyref; tallyref; tallyref. Own work; no condition. -/
import Derived.Test.YtcajncmjlmpkgaaPa49
import Derived.Test.YtcajncmjlmpkgaaPaBri
import Derived.Test.YtcajncmjlmpkgaaPaAbs22
import Derived.Test.YtcajncmjlmpkgaaPa42
import Derived.Test.YtcajncmjlmpkgaaPaAbsP
import Derived.Test.YtcajncmjlmpkgaaPa43
namespace Go.Proofs.Ytcajncmjlmpkgaa
open Go Go.RowKit Go.Deep Go.Sort Go.Shelf
set_option linter.unusedVariables false
set_option linter.unusedSimpArgs false
set_option maxRecDepth 100000
theorem flatC (l : List Val) : (l.map Val.cells).flatten.length = l.length * 3 := by
 induction l with
 | nil => rfl
 | cons x r ih => simp only [List.map_cons, List.flatten_cons, List.length_append, ih, List.length_cons]; rw [show x.cells.length = 3 from rfl]; omega
theorem flatC_at : ∀ (l : List Val) (k : Nat) (c : PV) (u : Value), (l.map Val.cells).flatten[k]? = some c → (flatV l)[k]? = some u → ∀ m, RP m c u ∧ ∀ v, RP m c v → v = u
 | [], k, c, u, h, _, _ => by simp at h
 | x :: r, k, c, u, h, h2, m => by
   simp only [List.map_cons, List.flatten_cons] at h
   have h2' : (encV x ++ flatV r)[k]? = some u := h2
   rw [List.getElem?_append] at h h2'
   have e1 : x.cells.length = 3 := rfl
   have e2 : (encV x).length = 3 := rfl
   rw [e1] at h
   rw [e2] at h2'
   by_cases hk : k < 3
   · rw [if_pos hk] at h h2'
     match k, hk with
     | 0, _ => simp [Val.cells] at h; simp [encV] at h2'; subst h h2'; exact ⟨.int _ _, fun v hv => by cases hv; rfl⟩
     | 1, _ => simp [Val.cells] at h; simp [encV] at h2'; subst h h2'; exact ⟨.int _ _, fun v hv => by cases hv; rfl⟩
     | 2, _ => simp [Val.cells] at h; simp [encV] at h2'; subst h h2'; exact ⟨.str _, fun v hv => by cases hv; rfl⟩
   · rw [if_neg hk] at h h2'
     exact flatC_at r (k - 3) c u h h2' m
theorem putRowK_setRow {w : World} {b : Nat} {old : Array Value} {t : TypeId} {fr : Nat × Nat} (hh : w.heap[b]? = some (.cells old t fr)) (d : Array Val) : putRowK encV 3 w b 0 d = w.setRow b (putCells id 0 (flatK encV 3 d) old) := by
 unfold putRowK putRow
 rw [mapBlock_congr w b _ (fun _ => putCells id 0 (flatK encV 3 d) old) fun c e fr h => by rw [hh] at h; cases h; rfl]
 unfold mapBlock World.setRow
 congr 2
theorem WR.putVecV {B : Base} {G : Ghost} {H : List AObj} {w : World} (wr : WR B G H w) {ob g n : Nat} {v : Value} (rv : RV G (.vec ob g 3 0 n) v) {C : List (List PV)} (hid : H[ob]? = some (.vec g C 3)) (hn : n ≤ C.length) (h0 : n ≠ 0) {zs : List Val} (hz : zs.map Val.cells = C) :
   ∃ b cap, v = .slice (some ⟨b, 0, none⟩) n cap ∧ C.length ≤ cap ∧ b < w.heap.size ∧ HoldsK encV 3 w b 0 zs.toArray ∧
     ∀ (zs' : List Val) W, zs'.length = C.length → SWK encV 3 w b 0 zs'.toArray W → ∃ G', GExt G G' ∧ WR B G' (H.set ob (.vec g (zs'.map Val.cells) 3)) W ∧ (∀ j, G.obj j = none → G'.obj j = none) ∧ ∀ k, k ≤ cap → RV G' (.vec ob g 3 0 k) (.slice (some ⟨b, 0, none⟩) k cap) := by
 subst hz
 obtain ⟨a, cap, own, a', V⟩ := vec_at wr rv hid
 have hc0 : 0 < cap := by have := V.fit; omega
 obtain ⟨b, ha, ha'⟩ := V.adr hc0
 have hlen : zs.length = (zs.map Val.cells).length := by simp
 obtain ⟨h1, h2, h3⟩ := V.row
 rcases h3 with ⟨_, h3⟩ | ⟨b', arr, t, ho, hb', hh, hs, hcell, hm⟩
 · omega
 rw [ha] at hb'
 simp only [Option.some.injEq, Addr.mk.injEq, and_true] at hb'
 subst hb'
 subst ho ha
 have hblt : b < w.heap.size := (Array.getElem?_eq_some_iff.1 hh).1
 refine ⟨b, cap, by rw [V.val, ha']; simp, h1, hblt, fun j hj => ?_, fun zs' W hl hS => ?_⟩
 · rw [flatK_eq] at hj ⊢
   have hj' : j < (flatV zs).length := by simpa using hj
   have hjz : j < zs.length * 3 := by rwa [flatV_len] at hj'
   have hja : j < arr.size := by omega
   rw [Nat.zero_add]
   refine ⟨?_, by simp [World.frozen?, hh]⟩
   have hcj : ((zs.map Val.cells).flatten)[j]? = some ((zs.map Val.cells).flatten[j]'(by rw [flatC]; exact hjz)) := List.getElem?_eq_getElem _
   have hv := hcell j _ (Array.getElem?_eq_getElem hja) _ hcj
   have hu := List.getElem?_eq_getElem hj'
   have e := (flatC_at zs j _ _ hcj hu G.mem).2 _ hv
   rw [cell_of_row w b j arr t (0, 0) hh, Array.getElem?_eq_getElem hja, e, getElem!_pos _ j (by simpa using hj')]
   simp
 · obtain ⟨q, os, rfl⟩ := hS
   have hobj := V.obj
   have hFK : flatK encV 3 zs'.toArray = (flatV zs').toArray := flatK_eq zs'
   have hfl : (flatV zs').length = (zs.map Val.cells).length * 3 := by rw [flatV_len, hl]
   have hcap3 : (zs.map Val.cells).length * 3 ≤ cap * 3 := Nat.mul_le_mul_right 3 h1
   have g1 := wr.vecSet (g' := g) (L' := zs'.map Val.cells) (arr := putCells id 0 (flatV zs').toArray arr) hid hobj hh hm (by simp [putCells, hs]) (by rw [List.length_map]; omega) h2 (fun e he => by obtain ⟨x, _, rfl⟩ := List.mem_map.1 he; rfl) (fun i u c hu hc => by
     have hi : i < (flatV zs').length := by
       have := (List.getElem?_eq_some_iff.1 hc).1
       rw [flatC] at this; rw [flatV_len]; exact this
     have hia : i < arr.size := by omega
     rw [putCells, Array.getElem?_mapIdx, Array.getElem?_eq_getElem hia] at hu
     simp only [Option.map_some, Option.some.injEq] at hu
     rw [if_pos ⟨Nat.zero_le _, by simpa using hi⟩, Nat.sub_zero, getElem!_pos _ i (by simpa using hi)] at hu
     have hu' : (flatV zs')[i]? = some u := by rw [List.getElem?_eq_getElem hi, ← hu]; simp
     exact (flatC_at zs' i c u hc hu' G.mem).1) rfl (Nat.le_refl _)
   refine ⟨_, g1.2.1, ?_, g1.2.2, fun k hk => ?_⟩
   · have hp : putRowK encV 3 (Sort.ahead w q) b 0 zs'.toArray = Sort.ahead (w.setRow b (putCells id 0 (flatV zs').toArray arr)) q := by
       rw [putRowK, putRow_ahead, ← hFK]
       have := putRowK_setRow hh zs'.toArray
       rw [← this]; rfl
     unfold sortWorldK
     rw [hp]
     have hb := below_end (w.setRow b (putCells id 0 (flatV zs').toArray arr)) q os
     refine g1.1.behind (m' := memW (w.setRow b (putCells id 0 (flatV zs').toArray arr))) (fun _ _ _ h => h) (fun x o u hu => ?_) hb
     have hx := cell?_lt hu
     exact (hb.cell (p := ⟨x, o, none⟩) hx).trans hu
   · exact .vec (Ghost.tok_obj _ _ _ _ _ _) (Nat.le_refl _) ⟨_, _, rfl, hk⟩ (fun _ => ⟨some ⟨b, 0, none⟩, cap, some ⟨b, 0, none⟩, rfl, h2, by omega, by rw [Nat.sub_zero], fun _ => ⟨b, rfl, by rw [Nat.zero_mul]⟩⟩)
theorem cloneV_a {H : List AObj} {Q : AV → List AObj → Prop} {C : List (List PV)} {zs : List Val} (hz : zs.map Val.cells = C) (hl : zs.length ≤ 2000000)
   (k : Q (.vec H.length 0 3 0 C.length) (H ++ [.vec 0 C 3])) : ACall Try.prog 33 [.p (.sl C)] H Q := by
 have hlen : C.length = zs.length := by rw [← hz]; simp
 refine ⟨fun B G w vals wr rv => ?_⟩
 obtain ⟨v, rfl⟩ : ∃ v, vals = [v] := by
   have := rv.1
   match vals, this with
   | [v], _ => exact ⟨v, rfl⟩
 have rv0 := rv.2 0 _ v rfl rfl
 have hp : RP G.mem (.sl C) v := by cases rv0; assumption
 obtain ⟨hR, hsl⟩ := hp.rdl hz wr.mem
 refine Runs.of_calls (by kernel_rfl) ((cloneV_w v zs w hR hsl hl).mono ?_)
 rintro e w' ⟨t, rfl, hown, hsin⟩
 have hbel : Go.RowKit.Below w.heap.size w w' := ⟨hsin.os, hsin.tape, hsin.output, hsin.size, fun k hk => hsin.block k hk⟩
 have hmem : ∀ b o v, G.mem b o = some v → w'.cell? ⟨b, o, none⟩ = some v := fun b o v h => by
   have := wr.mem b o v h
   rw [hbel.cell (cell?_lt this)]; exact this
 have hall : ∀ e, e ∈ C → e.length = 3 := fun e he => by rw [← hz] at he; obtain ⟨x, _, rfl⟩ := List.mem_map.1 he; rfl
 have hbb : Go.RowKit.Below B.w.heap.size B.w w' := wr.below.trans (hbel.mono wr.below.size)
 obtain ⟨_, ⟨rfl, h0⟩ | ⟨g, cap, cur, rfl, hg, hh, hcap, hmax, hcs, hcur⟩⟩ := hown
 · have gg := wr.newG (w' := w') (g0 := .tok 0 (.slice none 0 0) none) (x := .vec 0 C 3) hbb hmem (fun b hb => hbel.block b hb) hbel.size (fun b hb => by cases hb)
     ⟨hall, none, 0, none, Ghost.put_obj _ _ _ _, by omega, Nat.zero_le _, .inl ⟨rfl, rfl⟩⟩
   exact ⟨_, _, _, _, rfl, .vec (Ghost.put_obj _ _ _ _) (Nat.le_refl _) ⟨none, 0, by rw [hlen, h0], by omega⟩ (fun _ => ⟨none, 0, none, rfl, Nat.zero_le _, by omega, by rw [hlen, h0], fun h => by omega⟩), gg.2, gg.1, k⟩
 · have hmn : ∀ o, G.mem g o = none := fun o => by
     cases hv : G.mem g o with
     | none => rfl
     | some v => have := cell?_lt (wr.mem _ _ _ hv); simp at this; omega
   have hglt : g < w'.heap.size := (Array.getElem?_eq_some_iff.1 hh).1
   have hcap3 : zs.length * 3 ≤ cap * 3 := Nat.mul_le_mul_right 3 hcap
   have gg := wr.newG (w' := w') (g0 := .tok 0 (.slice (some ⟨g, 0, none⟩) cap cap) (some g)) (x := .vec 0 C 3) hbb hmem (fun b hb => hbel.block b hb) hbel.size (fun b hb => by
       have e : (some g : Option Nat) = some b := hb
       simp only [Option.some.injEq] at e; subst e; exact ⟨hg, hglt⟩)
     ⟨hall, some ⟨g, 0, none⟩, cap, some g, Ghost.put_obj _ _ _ _, by omega, hmax, .inr ⟨g, cur, _, rfl, rfl, hh, hcs, fun j v hv cc hcc => by
       rw [← hz] at hcc
       have hj : j < zs.length * 3 := by have := (List.getElem?_eq_some_iff.1 hcc).1; rwa [flatC] at this
       have hv2 : (flatV zs)[j]? = some v := by
         rw [← hcur, List.getElem?_take_of_lt hj, Array.getElem?_toList]; exact hv
       exact (flatC_at zs j cc v hcc hv2 G.mem).1, hmn⟩⟩
   exact ⟨_, _, _, _, rfl, .vec (Ghost.put_obj _ _ _ _) (Nat.le_refl _) ⟨_, _, by rw [hlen], by omega⟩ (fun _ => ⟨_, cap, _, rfl, hmax, by omega, by rw [hlen, Nat.sub_zero], fun _ => ⟨g, rfl, by rw [Nat.zero_mul]⟩⟩), gg.2, gg.1, k⟩
theorem deleteV_a {H : List AObj} {Q : AV → List AObj → Prop} (ob g n : Nat) {C : List (List PV)} {zs : List Val} (hid : H[ob]? = some (.vec g C 3)) (hz : zs.map Val.cells = C) (hn : C.length = n) (hb : n ≤ 2000000)
   (k : Q (.p (.sl ((stand zs).map Val.cells))) (H.set ob .gone)) : ACall Try.prog 32 [.vec ob g 3 0 n, .fn 34 []] H Q := by
 have hlen : zs.length = n := by rw [← hn, ← hz]; simp
 refine ⟨fun B G w vals wr rv => ?_⟩
 obtain ⟨v, u, rfl⟩ : ∃ v u, vals = [v, u] := by
   have := rv.1
   match vals, this with
   | [v, u], _ => exact ⟨v, u, rfl⟩
 have rv0 := rv.2 0 _ v rfl rfl
 have rv1 := rv.2 1 _ u rfl rfl
 obtain rfl : u = .func (.func 34) #[] #[] := by
   cases rv1 with
   | fn hl hr =>
     rename_i vs
     have : vs = #[] := by
       have : vs.size = 0 := hl
       exact Array.eq_empty_of_size_eq_zero this
     rw [this]
 by_cases h0 : n = 0
 · subst h0
   have hnil : zs = [] := List.length_eq_zero_iff.1 hlen
   subst hnil
   have hv : ∃ a cap, v = .slice a 0 cap := by
     cases rv0 with
     | vec _ _ hs _ => obtain ⟨a, c, e, _⟩ := hs; exact ⟨a, c, e⟩
   obtain ⟨a, cap, rfl⟩ := hv
   refine Runs.of_calls (by kernel_rfl) ((delete_short a cap _ w).mono ?_)
   rintro e w' ⟨rfl, rfl⟩
   obtain ⟨G1, e1, wr1, _, f1⟩ := wr.vecFreeze hid (by decide)
   have r1 := f1 0 0 _ (by omega) rv0
   have hC : C = [] := List.length_eq_zero_iff.1 hn
   subst hC
   exact ⟨_, _, G1, _, rfl, r1, e1, wr1, k⟩
 · obtain ⟨b, cap, rfl, hcap, hblt, hH, hput⟩ := wr.putVecV rv0 hid (by omega) h0 hz
   refine Runs.of_calls (by kernel_rfl) ((delete_w b cap n zs w hH hblt hlen hb (by omega)).mono ?_)
   rintro e w' ⟨rfl, D, hD1, hD2, hS⟩
   obtain ⟨G1, e1, wr1, _, hr⟩ := hput D w' (by omega) hS
   have hlt := (List.getElem?_eq_some_iff.1 hid).1
   have hms : (stand zs).length ≤ zs.length := List.length_filter_le _ _
   obtain ⟨G2, e2, wr2, _, f2⟩ := wr1.vecFreeze (id := ob) (g := g) (L := D.map Val.cells) (sz := 3) (by rw [List.getElem?_set_self hlt]) (by decide)
   have r2 := f2 0 (stand zs).length _ (by rw [List.length_map]; omega) (hr _ (by omega))
   rw [List.drop_zero, ← List.map_take, hD2] at r2
   rw [List.set_set] at wr2
   exact ⟨_, _, G2, _, rfl, r2, e1.trans e2, wr2, k⟩
theorem cloneVCC {cc : FuncId → List AV → List AObj → (AV → List AObj → Prop) → Prop} (hcc : ACall Try.prog = cc) {H : List AObj} {args : List AV} {K : AV → List AObj → Prop} {C : List (List PV)} {zs : List Val} {n : Nat} (ha : args = [.p (.sl C)]) (hz : zs.map Val.cells = C) (hl : zs.length ≤ 2000000) (hn : C.length = n)
   (k : K (.vec (lenX H) 0 3 0 n) (catX H [.vec 0 C 3])) : cc 33 args H K := by
 subst hcc ha hn
 rw [catX_eq, lenX_eq] at k
 exact cloneV_a hz hl k
theorem deleteVCC {cc : FuncId → List AV → List AObj → (AV → List AObj → Prop) → Prop} (hcc : ACall Try.prog = cc) {H : List AObj} {args : List AV} {K : AV → List AObj → Prop} (ob g n : Nat) {C : List (List PV)} (zs : List Val) (ha : args = [.vec ob g 3 0 n, .fn 34 []]) (hid : nth H ob = some (.vec g C 3)) (hz : zs.map Val.cells = C) (hn : C.length = n) (hb : n ≤ 2000000)
   (k : ∀ C', (stand zs).map Val.cells = C' → K (.p (.sl C')) (setX H ob .gone)) : cc 32 args H K := by
 subst hcc ha
 rw [nth_eq] at hid
 have hlt := (List.getElem?_eq_some_iff.1 hid).1
 refine deleteV_a ob g n hid hz hn hb ?_
 have := k _ rfl
 rwa [setX_eq _ _ _ (by omega), if_pos hlt] at this
end Go.Proofs.Ytcajncmjlmpkgaa

namespace Go.Proofs.Ytcajncmjlmpkgaa
open Go Go.RowKit
set_option maxRecDepth 100000
set_option linter.unusedSimpArgs false
set_option linter.unusedVariables false
theorem mintArgCC {P : Program} {cc : FuncId → List AV → List AObj → (AV → List AObj → Prop) → Prop} (hcc : ACall P = cc) {f : FuncId} {args rest : List AV} {l : List (List PV)} {H : List AObj} {K : AV → List AObj → Prop} (size : Nat) (ha : args = .full l :: rest)
   (h : cc f (.tok (lenX H) l :: rest) (catX H [.spare l.length size]) K) : cc f args H K := by
 subst ha
 subst hcc
 rw [catX_eq, lenX_eq] at h
 refine ⟨fun B G w vals wr rv => ?_⟩
 obtain ⟨rl, rr⟩ := rv
 match vals, rl, rr with
 | [], rl, _ => simp at rl
 | v :: vals, rl, rr =>
   obtain ⟨G', e, wr', rv'⟩ := wr.mintV size (rr 0 _ v rfl rfl)
   refine (h.run B G' w (v :: vals) wr' ⟨rl, fun i x y hx hy => ?_⟩).mono ?_
   · match i with
     | 0 =>
       simp only [List.getElem?_cons_zero, Option.some.injEq] at hx hy
       subst hx hy
       exact rv'
     | i + 1 => exact (rr (i + 1) x y hx hy).mono e
   · rintro en w' ⟨v, r, G2, H2, e1, e2, e3, e4, e5⟩
     exact ⟨v, r, G2, H2, e1, e2, e.trans e3, e4, e5⟩
def byO (z : Int) : UInt8 := UInt8.ofNat (IntKind.u8.wrap z).toNat
theorem byO_c (z : Int) : byteC (byO z) = [PV.int .u8 (IntKind.u8.wrap z)] := by
 have := u8_in z
 have e : ((byO z).toNat : Int) = IntKind.u8.wrap z := by
   rw [byO, UInt8.toNat_ofNat']
   omega
 rw [byteC, e]
def markB (v : Vec) : List UInt8 := if (stand (valuesM v)).length = (valuesM v).length then [0] else [1] ++ bitsB 1 (v.null.map fun b => if b then 1 else 0)
def headB (k : Int) (v : Vec) : List UInt8 := [byO k, byO v.kind] ++ byW 4 (u64 (valuesM v).length) ++ markB v
theorem markB_all {v : Vec} (h : (stand (valuesM v)).length = (valuesM v).length) : markB v = [0] := if_pos h
theorem markB_some {v : Vec} (h : ¬ (stand (valuesM v)).length = (valuesM v).length) : markB v = [1] ++ bitsB 1 (v.null.map fun b => if b then 1 else 0) := if_neg h
end Go.Proofs.Ytcajncmjlmpkgaa

namespace Go.Proofs.Ytcajncmjlmpkgaa
open Go Go.RowKit
set_option maxRecDepth 100000
set_option linter.unusedSimpArgs false
set_option linter.unusedVariables false
set_option maxHeartbeats 400000 in
theorem write1_c (a : Int) (B : List Bool) (N : List Int) (S : List ByteArray) (n1 n2 n3 : List (List PV)) (h1 : B.map boolc = n1) (h2 : N.map i64c = n2) (h3 : S.map strc = n3) (hg : goodV ⟨a, B, N, S⟩ = true) (hB : B.length ≤ 4096) (hl : Few (stand (valuesM ⟨a, B, N, S⟩))) (hvl : (valuesM ⟨a, B, N, S⟩).length ≤ 4096) :
   PCall Try.prog 7 [.agg [.int .i64 a, .sl n1, .sl n2, .sl n3], .int .i64 1] fun r => r = [.str (toB (headB 1 ⟨a, B, N, S⟩ ++ plainB (stand (valuesM ⟨a, B, N, S⟩)))), .int .i64 0] := by
 have b1 : n1.length = B.length := by rw [← h1]; simp
 have hm1 := @markB_all ⟨a, B, N, S⟩
 have hm2 := @markB_some ⟨a, B, N, S⟩
 have hhB : headB 1 ⟨a, B, N, S⟩ = [byO 1, byO a] ++ byW 4 (u64 (valuesM ⟨a, B, N, S⟩).length) ++ markB ⟨a, B, N, S⟩ := rfl
 obtain ⟨hd, hhd⟩ : ∃ hd, headB 1 ⟨a, B, N, S⟩ = hd := ⟨_, rfl⟩
 obtain ⟨mk, hmk⟩ : ∃ mk, markB ⟨a, B, N, S⟩ = mk := ⟨_, rfl⟩
 rw [hhd] at hhB ⊢
 rw [hmk] at hhB hm1 hm2
 have hgc := good_c a B N S n1 n2 n3 h1 h2 h3
 rw [hg] at hgc
 have hvc := vvalues_c a B N S n1 n2 n3 h1 h2 h3 (by omega)
 obtain ⟨vs, hvs⟩ : ∃ vs, valuesM ⟨a, B, N, S⟩ = vs := ⟨_, rfl⟩
 obtain ⟨C, hC⟩ : ∃ C, vs.map Val.cells = C := ⟨_, rfl⟩
 rw [hvs] at hl hvl hm1 hm2 hhB ⊢
 rw [hvs, hC] at hvc
 obtain ⟨bits, hbits⟩ : ∃ bits, bitsB 1 (B.map fun b => if b then (1 : Int) else 0) = bits := ⟨_, rfl⟩
 rw [hbits] at hm2
 clear hmk hhd hg hvs
 obtain ⟨nC, hnC⟩ : ∃ nC, C.length = nC := ⟨_, rfl⟩
 have hnv : nC = vs.length := by rw [← hnC, ← hC, List.length_map]
 have hvl2 : vs.length ≤ 2000000 := by omega
 have hnC2 : nC ≤ 2000000 := by omega
 have hpos : ∀ {x m : Int}, IntKind.u64.wrap x = m → 0 ≤ m := fun h => h ▸ u64_pos _
 have htwo : ∀ {z1 z2 : Int}, IntKind.u8.wrap 1 = z1 → IntKind.u8.wrap a = z2 → bl [byO 1, byO a] = [[PV.int .u8 z1], [PV.int .u8 z2]] := by
   rintro z1 z2 rfl rfl
   show [byteC (byO 1), byteC (byO a)] = _
   rw [byO_c, byO_c]
 generalize byO 1 = kb at *
 generalize byO a = ab at *
 have hx1 : ∀ {p : Prop}, decide ((1 : Int) < 1) = true → p := fun h => absurd h (by decide)
 have hx2 : ∀ {p : Prop}, decide ((4 : Int) < 1) = true → p := fun h => absurd h (by decide)
 have hx3 : ¬ decide ((1 : Int) = 4) = true := by decide
 have hx4 : ∀ {p : Prop} {z : Bool}, (!z) = true → true = z → p := by rintro p z h rfl; cases h
 have hx5 : ∀ {p : Prop} {z : Int}, decide (4096 < z) = true → (n1.length : Int) = z → p := by
   intro p z h h2
   have := of_decide_eq_true h
   omega
 have hix0 : ∀ {z1 : Int} {z : Nat}, 0 + z1.toNat * 1 = z → IntKind.i64.wrap (1 - 1) = z1 → z = 1 - 1 := by rintro z1 z rfl rfl; decide
 have hix1 : ∀ {z : Int}, IntKind.i64.wrap (1 - 1) = z → 0 ≤ z ∧ z < ((4 : Nat) : Int) ∧ ¬ (1 : Nat) = 0 := by rintro z rfl; decide
 have hU8 : ∀ {b : List UInt8} {L : List (List PV)}, bl b = L → isU8s L = true := by rintro b L rfl; exact isU8s_bytes b
 have hLhl : ∀ {z : Int}, ([kb, ab] ++ byW 4 z).length ≤ 100000000 := by
   intro z; rw [List.length_append, byW_len]; show 2 + 4 ≤ _; omega
 have hO0 : ∀ {c : UInt8} {d z5 : Int} {Lh L2 : List (List PV)} {m2 : Nat}, bl ([kb, ab] ++ byW 4 z5) = Lh → Lh ++ [[PV.int .u8 d]] = L2 → Lh.length + [[PV.int .u8 d]].length = m2 → (c.toNat : Int) = d → OwnB 1000 ([kb, ab] ++ byW 4 z5 ++ [c]) L2 m2 := by
   rintro c d z5 Lh L2 m2 rfl rfl rfl rfl
   refine .mk' (List.map_append) (by rw [List.length_append]) ?_
   rw [List.length_append, List.length_append, byW_len]; show 2 + 4 + 1 ≤ _; omega
 have hhd : ∀ {z3 z5 : Int}, (C.length : Int) = z3 → IntKind.u64.wrap z3 = z5 → z5 = u64 vs.length := by
   rintro z3 z5 rfl rfl; rw [hnC, hnv]; rfl
 have hst1 : ∀ {C' : List (List PV)} {p q z3 z5 : Int}, (stand vs).map Val.cells = C' → (C'.length : Int) = p → (C.length : Int) = q → decide (p = q) = true → (C.length : Int) = z3 → IntKind.u64.wrap z3 = z5 → hd = [kb, ab] ++ byW 4 z5 ++ [0] := by
   intro C' p q z3 z5 e1 e2 e3 e4 e5 e6
   have := of_decide_eq_true e4
   have hcl : C'.length = (stand vs).length := by rw [← e1, List.length_map]
   rw [hhB, hm1 (by omega), hhd e5 e6]
 have hst0 : ∀ {C' : List (List PV)} {p q z3 z5 : Int}, (stand vs).map Val.cells = C' → (C'.length : Int) = p → (C.length : Int) = q → decide (p = q) = false → (C.length : Int) = z3 → IntKind.u64.wrap z3 = z5 → hd = [kb, ab] ++ byW 4 z5 ++ [1] ++ bits := by
   intro C' p q z3 z5 e1 e2 e3 e4 e5 e6
   have := of_decide_eq_false e4
   have hcl : C'.length = (stand vs).length := by rw [← e1, List.length_map]
   rw [hhB, hm2 (by omega), hhd e5 e6, ← List.append_assoc]
 have h0c : (((0 : UInt8).toNat : Nat) : Int) = 0 := rfl
 have h1c : (((1 : UInt8).toNat : Nat) : Int) = 1 := rfl
 refine PCall.x (nt := 87) (res := [.tmp 4, .tmp 5]) mixed tt_ok [] Try.func7 rfl rfl rfl c7 (Nat.le_of_ble_eq_true rfl) ?_
 intro cp cc lp Q' hcp hcc hlp hQ
 repeat' (first
   | (with_reducible exact absurd (by assumption) hx3)
   | (have hz0 := hix0 (by assumption) (by assumption); subst hz0)
   | (with_reducible refine Nm.mk ?_; intro z hz)
   | (with_reducible refine IfB.mk ?_ ?_ <;> (intro h; cases h))
   | (with_reducible refine Two.l ?_; refine Asm.mk ?_ ?_; focus (decide +kernel))
   | (with_reducible refine Two.r ?_)
   | (with_reducible refine TwoT.r ?_)
   | (with_reducible refine TwoU.r ?_)
   | (with_reducible refine Asm.mk ?_ ?_; focus (first | exact hU8 (by assumption) | exact hix1 (by assumption) | exact (OwnB.mk' (N := 100000000) (by assumption) (by assumption) hLhl).side (by decide) rfl (Nat.le_of_ble_eq_true rfl) | (show (_ : Bool) = true; kernel_rfl)))
   | (with_reducible refine isCP hcp ?_; first | (refine bP hcp (hgc) ?_; intro z hz) | (refine eP hcp (hvc) ?_; rintro r rfl))
   | (with_reducible refine isCC hcc ?_; first | (refine bA hcc (hgc) rfl ?_; intro z hz) | (refine bR hcc (hgc) rfl ?_; intro z hz) | (refine eA hcc (hvc) rfl ?_; rintro r rfl))
   | (with_reducible refine isCC hcc ?_; refine plainCC hcc 2 hC' hl _ rfl ((hO0 (by assumption) (by assumption) (by assumption) h0c).mono (by decide)) rfl ?_; intro Lr mr hLr hmr)
   | (with_reducible refine isCC hcc ?_; refine cloneVCC hcc rfl hC hvl2 hnC ?_)
   | (with_reducible refine isCC hcc ?_; refine deleteVCC hcc 1 0 nC vs rfl rfl hC hnC hnC2 ?_; intro C' hC')
   | (with_reducible refine isCC hcc ?_; refine mintArgCC hcc 1 rfl ?_; refine putWCC hcc 2 4 [kb, ab] rfl (hpos (by assumption)) (by decide) (htwo (by assumption) (by assumption)) rfl (Nat.le_of_ble_eq_true rfl) rfl ?_; intro Lh mh hLh hmh)
   | (with_reducible refine Asm.mk2 ?_ ?_)
   | ((fail_if_success (with_reducible first | refine hQ _ ?_ | refine Side.mk ?_ | refine isCP hcp ?_ | refine isCC hcc ?_ | refine isLP hlp ?_ | refine Ix.mk ?_ | refine SIx.mk ?_ | refine SEx.mk ?_ | refine EIx.mk ?_ | refine RIx.mk ?_ | refine LkX.mk ?_ | show False | refine hR ?_ _ ?_ ?_ ?_ ?_ ?_ | refine hR2 ?_ _ ?_ ?_ ?_ ?_ ?_)); cbv))
 all_goals first | exact hx1 (by assumption) | exact hx2 (by assumption) | exact hx4 (by assumption) (by assumption) | exact hx5 (by assumption) (by assumption) | skip
 · rename_i zc hzc zu hzu zp hzp zq hzq hpq zL hzL zm hzm zi hzi hzi2
   have hh := hst1 hC' hzp hzq hpq hzc hzu
   refine hQ _ ?_
   rw [hh, ← hz, ← hLr, strOf_bytes]
 · rename_i zc hzc zu hzu zp hzp zq hzq hpq
   have hzl : z = (B.length : Int) := by rw [← hz, ← b1]
   clear hz
   have hh := hst0 hC' hzp hzq hpq hzc hzu
   refine mintVX hlp 1 3 0 rfl rfl ?_
   refine loopT (ι := Int × Nat × List (List PV) × Nat) mixed tt_ok hcp hcc hlp [1, 7, 8, 9, 62, 63] (fun p => [(64, .p (.int .i64 p.1))]) (fun p => [.cells [.p (.int .i64 a), .p (.sl n1), .p (.sl n2), .p (.sl n3)], .gone, .spare mh 1, .cells [.vec 4 p.2.1 1 0 p.2.2.2, .p (.int .i64 p.1)], .vec p.2.1 p.2.2.1 1]) (fun p => 0 ≤ p.1 ∧ p.1 ≤ B.length ∧ bl (bitsB 1 ((B.take p.1.toNat).map fun b => if b then (1 : Int) else 0)) = p.2.2.1 ∧ p.2.2.1.length = p.2.2.2) (fun p => (B.length - p.1).toNat) (0, 0, [], 0) 5 (fun _ => rfl) ⟨Int.le_refl _, by show (0 : Int) ≤ _; omega, rfl, rfl⟩ ⟨rfl, trivial⟩ rfl ?_
   rintro R2 ⟨j, g, L, n⟩ ⟨hj0, hj1, hL, hn⟩ hR2
   replace hj0 : 0 ≤ j := hj0
   replace hj1 : j ≤ B.length := hj1
   replace hL : bl (bitsB 1 ((B.take j.toNat).map fun b => if b then (1 : Int) else 0)) = L := hL
   replace hn : L.length = n := hn
   have hA8 : At8 j (bitsB 1 ((B.take j.toNat).map fun b => if b then (1 : Int) else 0)) := by
     have := bitsB_at (W := 1) (by decide) ((B.take j.toNat).map fun b => if b then (1 : Int) else 0)
     rw [List.length_map, List.length_take, show (1 : Int) * ((min j.toNat B.length : Nat) : Int) = j by omega] at this
     exact this
   have hj2 : j ≤ 1000000000 := by omega
   have hLlen : L.length ≤ 100000 := by
     have := hA8.2
     rw [← hL, List.length_map]; omega
   have hdrop : ∀ {y : List (List PV)}, List.take n (List.drop 0 L) = y → okEs 1 y = true ∧ y.length ≤ 1000000000 ∧ y = L := by
     rintro y rfl
     have e : List.take n (List.drop 0 L) = L := by rw [List.drop_zero, ← hn, List.take_length]
     rw [e]
     exact ⟨by rw [← hL]; exact okEs_bl _, by omega, rfl⟩
   have hnL : 0 + n ≤ L.length := by omega
   have hk2 : decide (j < z) = true → j < B.length := fun h => by have := of_decide_eq_true h; omega
   have hgo2 : decide (j < z) = true → 0 ≤ j + 1 ∧ j + 1 ≤ B.length ∧ (B.length - (j + 1)).toNat < (B.length - j).toNat ∧ IntKind.i64.wrap (j + 1) = j + 1 ∧ (j + 1).toNat = j.toNat + 1 ∧ (1 : Int) * ((j.toNat : Nat) : Int) = j := by
     intro h
     have := of_decide_eq_true h
     exact ⟨by omega, by omega, by omega, wrap_in (by omega), by omega, by omega⟩
   have hend2 : decide (j < z) = false → bl bits = L := by
     intro h
     have := of_decide_eq_false h
     rw [← hL, ← hbits, show j.toNat = B.length by omega, List.take_length]
   have hO3 : ∀ {y L2 L4 : List (List PV)} {m2 m4 : Nat}, List.take n (List.drop 0 L) = y → decide (j < z) = false → Lh ++ [[PV.int .u8 1]] = L2 → Lh.length + [[PV.int .u8 1]].length = m2 → L2 ++ y = L4 → L2.length + y.length = m4 → OwnB 40000000 ([kb, ab] ++ byW 4 zu ++ [1] ++ bits) L4 m4 := by
     intro y L2 L4 m2 m4 e1 e2 e3 e4 e5 e6
     have o := hO0 hLh e3 e4 h1c
     have hb := hend2 e2
     refine .mk' ?_ (by rw [← e5, List.length_append]; exact e6) ?_
     · rw [← e5, (hdrop e1).2.2, ← hb, ← o.e]; exact List.map_append
     · have h5 := o.blen
       have h6 := o.le
       have h7 : bits.length = L.length := by rw [← hb, List.length_map]
       rw [List.length_append]; omega
   repeat' (first
     | (have hz0 := hix0 (by assumption) (by assumption); subst hz0)
     | (with_reducible refine Nm.mk ?_; intro z hz)
     | (with_reducible refine IfB.mk ?_ ?_ <;> (intro h; cases h))
     | (with_reducible refine Two.l ?_; refine Asm.mk ?_ ?_; focus (decide +kernel))
     | (with_reducible refine Two.r ?_)
     | (with_reducible refine TwoT.r ?_)
     | (with_reducible refine TwoU.r ?_)
     | (with_reducible refine Asm.mk ?_ ?_; focus (first | exact hU8 (by assumption) | exact hix1 (by assumption) | exact ⟨rfl, rfl, hnL⟩ | exact (OwnB.mk' (N := 100000000) (by assumption) (by assumption) hLhl).side (by decide) rfl (Nat.le_of_ble_eq_true rfl) | exact ((hO0 hLh (by assumption) (by assumption) h1c).mono (by decide : 1000 ≤ 100000000)).side (by decide) (hdrop (by assumption)).1 (hdrop (by assumption)).2.1 | (show (_ : Bool) = true; kernel_rfl)))
     | (with_reducible refine Ix.map h1 (fun _ => rfl) (by decide) hj0 (hk2 (by assumption)) ?_; intro x hx)
     | (with_reducible refine isCC hcc ?_; refine putCC hcc 3 4 (by decide) _ 1 j (by decide) g _ hA8 hj2 hL hn rfl rfl rfl ?_; intro g' L' n' a' hL' hn' ha')
     | (with_reducible refine isCC hcc ?_; refine plainCC hcc 2 hC' hl _ rfl ((hO3 (by assumption) (by assumption) (by assumption) (by assumption) (by assumption) (by assumption)).mono (by decide)) rfl ?_; intro Lr mr hLr hmr)
     | (with_reducible refine Asm.mk2 ?_ ?_)
     | ((fail_if_success (with_reducible first | refine hQ _ ?_ | refine Side.mk ?_ | refine isCP hcp ?_ | refine isCC hcc ?_ | refine isLP hlp ?_ | refine Ix.mk ?_ | refine SIx.mk ?_ | refine SEx.mk ?_ | refine EIx.mk ?_ | refine RIx.mk ?_ | refine LkX.mk ?_ | show False | refine hR ?_ _ ?_ ?_ ?_ ?_ ?_ | refine hR2 ?_ _ ?_ ?_ ?_ ?_ ?_)); cbv))
   · rename_i hjz
     obtain ⟨g1, g2, g3, g4, g5, g6⟩ := hgo2 (by assumption)
     rw [g4] at hz
     subst hz
     subst ha'
     refine hR2 (j + 1, g', L', n') _ ⟨g1, g2, ?_, hn'⟩ g3 ⟨rfl, trivial⟩ ⟨rfl, rfl, rfl, rfl, rfl, rfl, trivial⟩ rfl
     show bl (bitsB 1 ((B.take (j + 1).toNat).map fun b => if b then (1 : Int) else 0)) = L'
     rw [g5, bitsB_succ hx, g6, ← hL']; rfl
   · rename_i hjz
     obtain ⟨g1, g2, g3, g4, g5, g6⟩ := hgo2 (by assumption)
     rw [g4] at hz
     subst hz
     subst ha'
     refine hR2 (j + 1, g', L', n') _ ⟨g1, g2, ?_, hn'⟩ g3 ⟨rfl, trivial⟩ ⟨rfl, rfl, rfl, rfl, rfl, rfl, trivial⟩ rfl
     show bl (bitsB 1 ((B.take (j + 1).toNat).map fun b => if b then (1 : Int) else 0)) = L'
     rw [g5, bitsB_succ hx, g6, ← hL']; rfl
   · refine hQ _ ?_
     rw [hh, ← hz, ← hLr, strOf_bytes]
end Go.Proofs.Ytcajncmjlmpkgaa

namespace Go.Proofs.Ytcajncmjlmpkgaa
open Go Go.RowKit
set_option maxRecDepth 100000
set_option linter.unusedSimpArgs false
set_option linter.unusedVariables false
set_option maxHeartbeats 400000 in
theorem write2_c (a : Int) (B : List Bool) (N : List Int) (S : List ByteArray) (n1 n2 n3 : List (List PV)) (h1 : B.map boolc = n1) (h2 : N.map i64c = n2) (h3 : S.map strc = n3) (hg : goodV ⟨a, B, N, S⟩ = true) (hB : B.length ≤ 4096) (hl : Few (stand (valuesM ⟨a, B, N, S⟩))) (hvl : (valuesM ⟨a, B, N, S⟩).length ≤ 4096) :
   PCall Try.prog 7 [.agg [.int .i64 a, .sl n1, .sl n2, .sl n3], .int .i64 2] fun r => r = [.str (toB (headB 2 ⟨a, B, N, S⟩ ++ runsB (stand (valuesM ⟨a, B, N, S⟩)))), .int .i64 0] := by
 have b1 : n1.length = B.length := by rw [← h1]; simp
 have hm1 := @markB_all ⟨a, B, N, S⟩
 have hm2 := @markB_some ⟨a, B, N, S⟩
 have hhB : headB 2 ⟨a, B, N, S⟩ = [byO 2, byO a] ++ byW 4 (u64 (valuesM ⟨a, B, N, S⟩).length) ++ markB ⟨a, B, N, S⟩ := rfl
 obtain ⟨hd, hhd⟩ : ∃ hd, headB 2 ⟨a, B, N, S⟩ = hd := ⟨_, rfl⟩
 obtain ⟨mk, hmk⟩ : ∃ mk, markB ⟨a, B, N, S⟩ = mk := ⟨_, rfl⟩
 rw [hhd] at hhB ⊢
 rw [hmk] at hhB hm1 hm2
 have hgc := good_c a B N S n1 n2 n3 h1 h2 h3
 rw [hg] at hgc
 have hvc := vvalues_c a B N S n1 n2 n3 h1 h2 h3 (by omega)
 obtain ⟨vs, hvs⟩ : ∃ vs, valuesM ⟨a, B, N, S⟩ = vs := ⟨_, rfl⟩
 obtain ⟨C, hC⟩ : ∃ C, vs.map Val.cells = C := ⟨_, rfl⟩
 rw [hvs] at hl hvl hm1 hm2 hhB ⊢
 rw [hvs, hC] at hvc
 obtain ⟨bits, hbits⟩ : ∃ bits, bitsB 1 (B.map fun b => if b then (1 : Int) else 0) = bits := ⟨_, rfl⟩
 rw [hbits] at hm2
 clear hmk hhd hg hvs
 obtain ⟨nC, hnC⟩ : ∃ nC, C.length = nC := ⟨_, rfl⟩
 have hnv : nC = vs.length := by rw [← hnC, ← hC, List.length_map]
 have hvl2 : vs.length ≤ 2000000 := by omega
 have hnC2 : nC ≤ 2000000 := by omega
 have hpos : ∀ {x m : Int}, IntKind.u64.wrap x = m → 0 ≤ m := fun h => h ▸ u64_pos _
 have htwo : ∀ {z1 z2 : Int}, IntKind.u8.wrap 2 = z1 → IntKind.u8.wrap a = z2 → bl [byO 2, byO a] = [[PV.int .u8 z1], [PV.int .u8 z2]] := by
   rintro z1 z2 rfl rfl
   show [byteC (byO 2), byteC (byO a)] = _
   rw [byO_c, byO_c]
 generalize byO 2 = kb at *
 generalize byO a = ab at *
 have hx1 : ∀ {p : Prop}, decide ((2 : Int) < 1) = true → p := fun h => absurd h (by decide)
 have hx2 : ∀ {p : Prop}, decide ((4 : Int) < 2) = true → p := fun h => absurd h (by decide)
 have hx3 : ¬ decide ((2 : Int) = 4) = true := by decide
 have hx4 : ∀ {p : Prop} {z : Bool}, (!z) = true → true = z → p := by rintro p z h rfl; cases h
 have hx5 : ∀ {p : Prop} {z : Int}, decide (4096 < z) = true → (n1.length : Int) = z → p := by
   intro p z h h2
   have := of_decide_eq_true h
   omega
 have hix0 : ∀ {z1 : Int} {z : Nat}, 0 + z1.toNat * 1 = z → IntKind.i64.wrap (2 - 1) = z1 → z = 2 - 1 := by rintro z1 z rfl rfl; decide
 have hix1 : ∀ {z : Int}, IntKind.i64.wrap (2 - 1) = z → 0 ≤ z ∧ z < ((4 : Nat) : Int) ∧ ¬ (1 : Nat) = 0 := by rintro z rfl; decide
 have hU8 : ∀ {b : List UInt8} {L : List (List PV)}, bl b = L → isU8s L = true := by rintro b L rfl; exact isU8s_bytes b
 have hLhl : ∀ {z : Int}, ([kb, ab] ++ byW 4 z).length ≤ 100000000 := by
   intro z; rw [List.length_append, byW_len]; show 2 + 4 ≤ _; omega
 have hO0 : ∀ {c : UInt8} {d z5 : Int} {Lh L2 : List (List PV)} {m2 : Nat}, bl ([kb, ab] ++ byW 4 z5) = Lh → Lh ++ [[PV.int .u8 d]] = L2 → Lh.length + [[PV.int .u8 d]].length = m2 → (c.toNat : Int) = d → OwnB 1000 ([kb, ab] ++ byW 4 z5 ++ [c]) L2 m2 := by
   rintro c d z5 Lh L2 m2 rfl rfl rfl rfl
   refine .mk' (List.map_append) (by rw [List.length_append]) ?_
   rw [List.length_append, List.length_append, byW_len]; show 2 + 4 + 1 ≤ _; omega
 have hhd : ∀ {z3 z5 : Int}, (C.length : Int) = z3 → IntKind.u64.wrap z3 = z5 → z5 = u64 vs.length := by
   rintro z3 z5 rfl rfl; rw [hnC, hnv]; rfl
 have hst1 : ∀ {C' : List (List PV)} {p q z3 z5 : Int}, (stand vs).map Val.cells = C' → (C'.length : Int) = p → (C.length : Int) = q → decide (p = q) = true → (C.length : Int) = z3 → IntKind.u64.wrap z3 = z5 → hd = [kb, ab] ++ byW 4 z5 ++ [0] := by
   intro C' p q z3 z5 e1 e2 e3 e4 e5 e6
   have := of_decide_eq_true e4
   have hcl : C'.length = (stand vs).length := by rw [← e1, List.length_map]
   rw [hhB, hm1 (by omega), hhd e5 e6]
 have hst0 : ∀ {C' : List (List PV)} {p q z3 z5 : Int}, (stand vs).map Val.cells = C' → (C'.length : Int) = p → (C.length : Int) = q → decide (p = q) = false → (C.length : Int) = z3 → IntKind.u64.wrap z3 = z5 → hd = [kb, ab] ++ byW 4 z5 ++ [1] ++ bits := by
   intro C' p q z3 z5 e1 e2 e3 e4 e5 e6
   have := of_decide_eq_false e4
   have hcl : C'.length = (stand vs).length := by rw [← e1, List.length_map]
   rw [hhB, hm2 (by omega), hhd e5 e6, ← List.append_assoc]
 have h0c : (((0 : UInt8).toNat : Nat) : Int) = 0 := rfl
 have h1c : (((1 : UInt8).toNat : Nat) : Int) = 1 := rfl
 refine PCall.x (nt := 87) (res := [.tmp 4, .tmp 5]) mixed tt_ok [] Try.func7 rfl rfl rfl c7 (Nat.le_of_ble_eq_true rfl) ?_
 intro cp cc lp Q' hcp hcc hlp hQ
 repeat' (first
   | (with_reducible exact absurd (by assumption) hx3)
   | (have hz0 := hix0 (by assumption) (by assumption); subst hz0)
   | (with_reducible refine Nm.mk ?_; intro z hz)
   | (with_reducible refine IfB.mk ?_ ?_ <;> (intro h; cases h))
   | (with_reducible refine Two.l ?_; refine Asm.mk ?_ ?_; focus (decide +kernel))
   | (with_reducible refine Two.r ?_)
   | (with_reducible refine TwoT.r ?_)
   | (with_reducible refine TwoU.r ?_)
   | (with_reducible refine Asm.mk ?_ ?_; focus (first | exact hU8 (by assumption) | exact hix1 (by assumption) | exact (OwnB.mk' (N := 100000000) (by assumption) (by assumption) hLhl).side (by decide) rfl (Nat.le_of_ble_eq_true rfl) | (show (_ : Bool) = true; kernel_rfl)))
   | (with_reducible refine isCP hcp ?_; first | (refine bP hcp (hgc) ?_; intro z hz) | (refine eP hcp (hvc) ?_; rintro r rfl))
   | (with_reducible refine isCC hcc ?_; first | (refine bA hcc (hgc) rfl ?_; intro z hz) | (refine bR hcc (hgc) rfl ?_; intro z hz) | (refine eA hcc (hvc) rfl ?_; rintro r rfl))
   | (with_reducible refine isCC hcc ?_; refine runsCC hcc 2 hC' hl _ rfl ((hO0 (by assumption) (by assumption) (by assumption) h0c).mono (by decide)) rfl ?_; intro Lr mr hLr hmr)
   | (with_reducible refine isCC hcc ?_; refine cloneVCC hcc rfl hC hvl2 hnC ?_)
   | (with_reducible refine isCC hcc ?_; refine deleteVCC hcc 1 0 nC vs rfl rfl hC hnC hnC2 ?_; intro C' hC')
   | (with_reducible refine isCC hcc ?_; refine mintArgCC hcc 1 rfl ?_; refine putWCC hcc 2 4 [kb, ab] rfl (hpos (by assumption)) (by decide) (htwo (by assumption) (by assumption)) rfl (Nat.le_of_ble_eq_true rfl) rfl ?_; intro Lh mh hLh hmh)
   | (with_reducible refine Asm.mk2 ?_ ?_)
   | ((fail_if_success (with_reducible first | refine hQ _ ?_ | refine Side.mk ?_ | refine isCP hcp ?_ | refine isCC hcc ?_ | refine isLP hlp ?_ | refine Ix.mk ?_ | refine SIx.mk ?_ | refine SEx.mk ?_ | refine EIx.mk ?_ | refine RIx.mk ?_ | refine LkX.mk ?_ | show False | refine hR ?_ _ ?_ ?_ ?_ ?_ ?_ | refine hR2 ?_ _ ?_ ?_ ?_ ?_ ?_)); cbv))
 all_goals first | exact hx1 (by assumption) | exact hx2 (by assumption) | exact hx4 (by assumption) (by assumption) | exact hx5 (by assumption) (by assumption) | skip
 · rename_i zc hzc zu hzu zp hzp zq hzq hpq zL hzL zm hzm zi hzi hzi2
   have hh := hst1 hC' hzp hzq hpq hzc hzu
   refine hQ _ ?_
   rw [hh, ← hz, ← hLr, strOf_bytes]
 · rename_i zc hzc zu hzu zp hzp zq hzq hpq
   have hzl : z = (B.length : Int) := by rw [← hz, ← b1]
   clear hz
   have hh := hst0 hC' hzp hzq hpq hzc hzu
   refine mintVX hlp 1 3 0 rfl rfl ?_
   refine loopT (ι := Int × Nat × List (List PV) × Nat) mixed tt_ok hcp hcc hlp [1, 7, 8, 9, 62, 63] (fun p => [(64, .p (.int .i64 p.1))]) (fun p => [.cells [.p (.int .i64 a), .p (.sl n1), .p (.sl n2), .p (.sl n3)], .gone, .spare mh 1, .cells [.vec 4 p.2.1 1 0 p.2.2.2, .p (.int .i64 p.1)], .vec p.2.1 p.2.2.1 1]) (fun p => 0 ≤ p.1 ∧ p.1 ≤ B.length ∧ bl (bitsB 1 ((B.take p.1.toNat).map fun b => if b then (1 : Int) else 0)) = p.2.2.1 ∧ p.2.2.1.length = p.2.2.2) (fun p => (B.length - p.1).toNat) (0, 0, [], 0) 5 (fun _ => rfl) ⟨Int.le_refl _, by show (0 : Int) ≤ _; omega, rfl, rfl⟩ ⟨rfl, trivial⟩ rfl ?_
   rintro R2 ⟨j, g, L, n⟩ ⟨hj0, hj1, hL, hn⟩ hR2
   replace hj0 : 0 ≤ j := hj0
   replace hj1 : j ≤ B.length := hj1
   replace hL : bl (bitsB 1 ((B.take j.toNat).map fun b => if b then (1 : Int) else 0)) = L := hL
   replace hn : L.length = n := hn
   have hA8 : At8 j (bitsB 1 ((B.take j.toNat).map fun b => if b then (1 : Int) else 0)) := by
     have := bitsB_at (W := 1) (by decide) ((B.take j.toNat).map fun b => if b then (1 : Int) else 0)
     rw [List.length_map, List.length_take, show (1 : Int) * ((min j.toNat B.length : Nat) : Int) = j by omega] at this
     exact this
   have hj2 : j ≤ 1000000000 := by omega
   have hLlen : L.length ≤ 100000 := by
     have := hA8.2
     rw [← hL, List.length_map]; omega
   have hdrop : ∀ {y : List (List PV)}, List.take n (List.drop 0 L) = y → okEs 1 y = true ∧ y.length ≤ 1000000000 ∧ y = L := by
     rintro y rfl
     have e : List.take n (List.drop 0 L) = L := by rw [List.drop_zero, ← hn, List.take_length]
     rw [e]
     exact ⟨by rw [← hL]; exact okEs_bl _, by omega, rfl⟩
   have hnL : 0 + n ≤ L.length := by omega
   have hk2 : decide (j < z) = true → j < B.length := fun h => by have := of_decide_eq_true h; omega
   have hgo2 : decide (j < z) = true → 0 ≤ j + 1 ∧ j + 1 ≤ B.length ∧ (B.length - (j + 1)).toNat < (B.length - j).toNat ∧ IntKind.i64.wrap (j + 1) = j + 1 ∧ (j + 1).toNat = j.toNat + 1 ∧ (1 : Int) * ((j.toNat : Nat) : Int) = j := by
     intro h
     have := of_decide_eq_true h
     exact ⟨by omega, by omega, by omega, wrap_in (by omega), by omega, by omega⟩
   have hend2 : decide (j < z) = false → bl bits = L := by
     intro h
     have := of_decide_eq_false h
     rw [← hL, ← hbits, show j.toNat = B.length by omega, List.take_length]
   have hO3 : ∀ {y L2 L4 : List (List PV)} {m2 m4 : Nat}, List.take n (List.drop 0 L) = y → decide (j < z) = false → Lh ++ [[PV.int .u8 1]] = L2 → Lh.length + [[PV.int .u8 1]].length = m2 → L2 ++ y = L4 → L2.length + y.length = m4 → OwnB 40000000 ([kb, ab] ++ byW 4 zu ++ [1] ++ bits) L4 m4 := by
     intro y L2 L4 m2 m4 e1 e2 e3 e4 e5 e6
     have o := hO0 hLh e3 e4 h1c
     have hb := hend2 e2
     refine .mk' ?_ (by rw [← e5, List.length_append]; exact e6) ?_
     · rw [← e5, (hdrop e1).2.2, ← hb, ← o.e]; exact List.map_append
     · have h5 := o.blen
       have h6 := o.le
       have h7 : bits.length = L.length := by rw [← hb, List.length_map]
       rw [List.length_append]; omega
   repeat' (first
     | (have hz0 := hix0 (by assumption) (by assumption); subst hz0)
     | (with_reducible refine Nm.mk ?_; intro z hz)
     | (with_reducible refine IfB.mk ?_ ?_ <;> (intro h; cases h))
     | (with_reducible refine Two.l ?_; refine Asm.mk ?_ ?_; focus (decide +kernel))
     | (with_reducible refine Two.r ?_)
     | (with_reducible refine TwoT.r ?_)
     | (with_reducible refine TwoU.r ?_)
     | (with_reducible refine Asm.mk ?_ ?_; focus (first | exact hU8 (by assumption) | exact hix1 (by assumption) | exact ⟨rfl, rfl, hnL⟩ | exact (OwnB.mk' (N := 100000000) (by assumption) (by assumption) hLhl).side (by decide) rfl (Nat.le_of_ble_eq_true rfl) | exact ((hO0 hLh (by assumption) (by assumption) h1c).mono (by decide : 1000 ≤ 100000000)).side (by decide) (hdrop (by assumption)).1 (hdrop (by assumption)).2.1 | (show (_ : Bool) = true; kernel_rfl)))
     | (with_reducible refine Ix.map h1 (fun _ => rfl) (by decide) hj0 (hk2 (by assumption)) ?_; intro x hx)
     | (with_reducible refine isCC hcc ?_; refine putCC hcc 3 4 (by decide) _ 1 j (by decide) g _ hA8 hj2 hL hn rfl rfl rfl ?_; intro g' L' n' a' hL' hn' ha')
     | (with_reducible refine isCC hcc ?_; refine runsCC hcc 2 hC' hl _ rfl ((hO3 (by assumption) (by assumption) (by assumption) (by assumption) (by assumption) (by assumption)).mono (by decide)) rfl ?_; intro Lr mr hLr hmr)
     | (with_reducible refine Asm.mk2 ?_ ?_)
     | ((fail_if_success (with_reducible first | refine hQ _ ?_ | refine Side.mk ?_ | refine isCP hcp ?_ | refine isCC hcc ?_ | refine isLP hlp ?_ | refine Ix.mk ?_ | refine SIx.mk ?_ | refine SEx.mk ?_ | refine EIx.mk ?_ | refine RIx.mk ?_ | refine LkX.mk ?_ | show False | refine hR ?_ _ ?_ ?_ ?_ ?_ ?_ | refine hR2 ?_ _ ?_ ?_ ?_ ?_ ?_)); cbv))
   · rename_i hjz
     obtain ⟨g1, g2, g3, g4, g5, g6⟩ := hgo2 (by assumption)
     rw [g4] at hz
     subst hz
     subst ha'
     refine hR2 (j + 1, g', L', n') _ ⟨g1, g2, ?_, hn'⟩ g3 ⟨rfl, trivial⟩ ⟨rfl, rfl, rfl, rfl, rfl, rfl, trivial⟩ rfl
     show bl (bitsB 1 ((B.take (j + 1).toNat).map fun b => if b then (1 : Int) else 0)) = L'
     rw [g5, bitsB_succ hx, g6, ← hL']; rfl
   · rename_i hjz
     obtain ⟨g1, g2, g3, g4, g5, g6⟩ := hgo2 (by assumption)
     rw [g4] at hz
     subst hz
     subst ha'
     refine hR2 (j + 1, g', L', n') _ ⟨g1, g2, ?_, hn'⟩ g3 ⟨rfl, trivial⟩ ⟨rfl, rfl, rfl, rfl, rfl, rfl, trivial⟩ rfl
     show bl (bitsB 1 ((B.take (j + 1).toNat).map fun b => if b then (1 : Int) else 0)) = L'
     rw [g5, bitsB_succ hx, g6, ← hL']; rfl
   · refine hQ _ ?_
     rw [hh, ← hz, ← hLr, strOf_bytes]
end Go.Proofs.Ytcajncmjlmpkgaa

namespace Go.Proofs.Ytcajncmjlmpkgaa
open Go Go.RowKit
set_option maxRecDepth 100000
set_option linter.unusedSimpArgs false
set_option linter.unusedVariables false
set_option maxHeartbeats 400000 in
theorem write3_c (a : Int) (B : List Bool) (N : List Int) (S : List ByteArray) (n1 n2 n3 : List (List PV)) (h1 : B.map boolc = n1) (h2 : N.map i64c = n2) (h3 : S.map strc = n3) (hg : goodV ⟨a, B, N, S⟩ = true) (hB : B.length ≤ 4096) (hl : Few (stand (valuesM ⟨a, B, N, S⟩))) (hvl : (valuesM ⟨a, B, N, S⟩).length ≤ 4096) (hcl : Clean (stand (valuesM ⟨a, B, N, S⟩))) :
   PCall Try.prog 7 [.agg [.int .i64 a, .sl n1, .sl n2, .sl n3], .int .i64 3] fun r => r = [.str (toB (headB 3 ⟨a, B, N, S⟩ ++ wordsB (stand (valuesM ⟨a, B, N, S⟩)))), .int .i64 0] := by
 have b1 : n1.length = B.length := by rw [← h1]; simp
 have hm1 := @markB_all ⟨a, B, N, S⟩
 have hm2 := @markB_some ⟨a, B, N, S⟩
 have hhB : headB 3 ⟨a, B, N, S⟩ = [byO 3, byO a] ++ byW 4 (u64 (valuesM ⟨a, B, N, S⟩).length) ++ markB ⟨a, B, N, S⟩ := rfl
 obtain ⟨hd, hhd⟩ : ∃ hd, headB 3 ⟨a, B, N, S⟩ = hd := ⟨_, rfl⟩
 obtain ⟨mk, hmk⟩ : ∃ mk, markB ⟨a, B, N, S⟩ = mk := ⟨_, rfl⟩
 rw [hhd] at hhB ⊢
 rw [hmk] at hhB hm1 hm2
 have hgc := good_c a B N S n1 n2 n3 h1 h2 h3
 rw [hg] at hgc
 have hvc := vvalues_c a B N S n1 n2 n3 h1 h2 h3 (by omega)
 obtain ⟨vs, hvs⟩ : ∃ vs, valuesM ⟨a, B, N, S⟩ = vs := ⟨_, rfl⟩
 obtain ⟨C, hC⟩ : ∃ C, vs.map Val.cells = C := ⟨_, rfl⟩
 rw [hvs] at hl hvl hm1 hm2 hhB hcl ⊢
 rw [hvs, hC] at hvc
 obtain ⟨bits, hbits⟩ : ∃ bits, bitsB 1 (B.map fun b => if b then (1 : Int) else 0) = bits := ⟨_, rfl⟩
 rw [hbits] at hm2
 clear hmk hhd hg hvs
 obtain ⟨nC, hnC⟩ : ∃ nC, C.length = nC := ⟨_, rfl⟩
 have hnv : nC = vs.length := by rw [← hnC, ← hC, List.length_map]
 have hvl2 : vs.length ≤ 2000000 := by omega
 have hnC2 : nC ≤ 2000000 := by omega
 have hpos : ∀ {x m : Int}, IntKind.u64.wrap x = m → 0 ≤ m := fun h => h ▸ u64_pos _
 have htwo : ∀ {z1 z2 : Int}, IntKind.u8.wrap 3 = z1 → IntKind.u8.wrap a = z2 → bl [byO 3, byO a] = [[PV.int .u8 z1], [PV.int .u8 z2]] := by
   rintro z1 z2 rfl rfl
   show [byteC (byO 3), byteC (byO a)] = _
   rw [byO_c, byO_c]
 generalize byO 3 = kb at *
 generalize byO a = ab at *
 have hx1 : ∀ {p : Prop}, decide ((3 : Int) < 1) = true → p := fun h => absurd h (by decide)
 have hx2 : ∀ {p : Prop}, decide ((4 : Int) < 3) = true → p := fun h => absurd h (by decide)
 have hx3 : ¬ decide ((3 : Int) = 4) = true := by decide
 have hx4 : ∀ {p : Prop} {z : Bool}, (!z) = true → true = z → p := by rintro p z h rfl; cases h
 have hx5 : ∀ {p : Prop} {z : Int}, decide (4096 < z) = true → (n1.length : Int) = z → p := by
   intro p z h h2
   have := of_decide_eq_true h
   omega
 have hix0 : ∀ {z1 : Int} {z : Nat}, 0 + z1.toNat * 1 = z → IntKind.i64.wrap (3 - 1) = z1 → z = 3 - 1 := by rintro z1 z rfl rfl; decide
 have hix1 : ∀ {z : Int}, IntKind.i64.wrap (3 - 1) = z → 0 ≤ z ∧ z < ((4 : Nat) : Int) ∧ ¬ (1 : Nat) = 0 := by rintro z rfl; decide
 have hU8 : ∀ {b : List UInt8} {L : List (List PV)}, bl b = L → isU8s L = true := by rintro b L rfl; exact isU8s_bytes b
 have hLhl : ∀ {z : Int}, ([kb, ab] ++ byW 4 z).length ≤ 100000000 := by
   intro z; rw [List.length_append, byW_len]; show 2 + 4 ≤ _; omega
 have hO0 : ∀ {c : UInt8} {d z5 : Int} {Lh L2 : List (List PV)} {m2 : Nat}, bl ([kb, ab] ++ byW 4 z5) = Lh → Lh ++ [[PV.int .u8 d]] = L2 → Lh.length + [[PV.int .u8 d]].length = m2 → (c.toNat : Int) = d → OwnB 1000 ([kb, ab] ++ byW 4 z5 ++ [c]) L2 m2 := by
   rintro c d z5 Lh L2 m2 rfl rfl rfl rfl
   refine .mk' (List.map_append) (by rw [List.length_append]) ?_
   rw [List.length_append, List.length_append, byW_len]; show 2 + 4 + 1 ≤ _; omega
 have hhd : ∀ {z3 z5 : Int}, (C.length : Int) = z3 → IntKind.u64.wrap z3 = z5 → z5 = u64 vs.length := by
   rintro z3 z5 rfl rfl; rw [hnC, hnv]; rfl
 have hst1 : ∀ {C' : List (List PV)} {p q z3 z5 : Int}, (stand vs).map Val.cells = C' → (C'.length : Int) = p → (C.length : Int) = q → decide (p = q) = true → (C.length : Int) = z3 → IntKind.u64.wrap z3 = z5 → hd = [kb, ab] ++ byW 4 z5 ++ [0] := by
   intro C' p q z3 z5 e1 e2 e3 e4 e5 e6
   have := of_decide_eq_true e4
   have hcl : C'.length = (stand vs).length := by rw [← e1, List.length_map]
   rw [hhB, hm1 (by omega), hhd e5 e6]
 have hst0 : ∀ {C' : List (List PV)} {p q z3 z5 : Int}, (stand vs).map Val.cells = C' → (C'.length : Int) = p → (C.length : Int) = q → decide (p = q) = false → (C.length : Int) = z3 → IntKind.u64.wrap z3 = z5 → hd = [kb, ab] ++ byW 4 z5 ++ [1] ++ bits := by
   intro C' p q z3 z5 e1 e2 e3 e4 e5 e6
   have := of_decide_eq_false e4
   have hcl : C'.length = (stand vs).length := by rw [← e1, List.length_map]
   rw [hhB, hm2 (by omega), hhd e5 e6, ← List.append_assoc]
 have h0c : (((0 : UInt8).toNat : Nat) : Int) = 0 := rfl
 have h1c : (((1 : UInt8).toNat : Nat) : Int) = 1 := rfl
 refine PCall.x (nt := 87) (res := [.tmp 4, .tmp 5]) mixed tt_ok [] Try.func7 rfl rfl rfl c7 (Nat.le_of_ble_eq_true rfl) ?_
 intro cp cc lp Q' hcp hcc hlp hQ
 repeat' (first
   | (with_reducible exact absurd (by assumption) hx3)
   | (have hz0 := hix0 (by assumption) (by assumption); subst hz0)
   | (with_reducible refine Nm.mk ?_; intro z hz)
   | (with_reducible refine IfB.mk ?_ ?_ <;> (intro h; cases h))
   | (with_reducible refine Two.l ?_; refine Asm.mk ?_ ?_; focus (decide +kernel))
   | (with_reducible refine Two.r ?_)
   | (with_reducible refine TwoT.r ?_)
   | (with_reducible refine TwoU.r ?_)
   | (with_reducible refine Asm.mk ?_ ?_; focus (first | exact hU8 (by assumption) | exact hix1 (by assumption) | exact (OwnB.mk' (N := 100000000) (by assumption) (by assumption) hLhl).side (by decide) rfl (Nat.le_of_ble_eq_true rfl) | (show (_ : Bool) = true; kernel_rfl)))
   | (with_reducible refine isCP hcp ?_; first | (refine bP hcp (hgc) ?_; intro z hz) | (refine eP hcp (hvc) ?_; rintro r rfl))
   | (with_reducible refine isCC hcc ?_; first | (refine bA hcc (hgc) rfl ?_; intro z hz) | (refine bR hcc (hgc) rfl ?_; intro z hz) | (refine eA hcc (hvc) rfl ?_; rintro r rfl))
   | (with_reducible refine isCC hcc ?_; refine wordsCC hcc 2 hC' hl hcl _ rfl ((hO0 (by assumption) (by assumption) (by assumption) h0c).mono (by decide)) rfl ?_; intro Lr mr hLr hmr)
   | (with_reducible refine isCC hcc ?_; refine cloneVCC hcc rfl hC hvl2 hnC ?_)
   | (with_reducible refine isCC hcc ?_; refine deleteVCC hcc 1 0 nC vs rfl rfl hC hnC hnC2 ?_; intro C' hC')
   | (with_reducible refine isCC hcc ?_; refine mintArgCC hcc 1 rfl ?_; refine putWCC hcc 2 4 [kb, ab] rfl (hpos (by assumption)) (by decide) (htwo (by assumption) (by assumption)) rfl (Nat.le_of_ble_eq_true rfl) rfl ?_; intro Lh mh hLh hmh)
   | (with_reducible refine Asm.mk2 ?_ ?_)
   | ((fail_if_success (with_reducible first | refine hQ _ ?_ | refine Side.mk ?_ | refine isCP hcp ?_ | refine isCC hcc ?_ | refine isLP hlp ?_ | refine Ix.mk ?_ | refine SIx.mk ?_ | refine SEx.mk ?_ | refine EIx.mk ?_ | refine RIx.mk ?_ | refine LkX.mk ?_ | show False | refine hR ?_ _ ?_ ?_ ?_ ?_ ?_ | refine hR2 ?_ _ ?_ ?_ ?_ ?_ ?_)); cbv))
 all_goals first | exact hx1 (by assumption) | exact hx2 (by assumption) | exact hx4 (by assumption) (by assumption) | exact hx5 (by assumption) (by assumption) | skip
 · rename_i zc hzc zu hzu zp hzp zq hzq hpq zL hzL zm hzm zi hzi hzi2
   have hh := hst1 hC' hzp hzq hpq hzc hzu
   refine hQ _ ?_
   rw [hh, ← hz, ← hLr, strOf_bytes]
 · rename_i zc hzc zu hzu zp hzp zq hzq hpq
   have hzl : z = (B.length : Int) := by rw [← hz, ← b1]
   clear hz
   have hh := hst0 hC' hzp hzq hpq hzc hzu
   refine mintVX hlp 1 3 0 rfl rfl ?_
   refine loopT (ι := Int × Nat × List (List PV) × Nat) mixed tt_ok hcp hcc hlp [1, 7, 8, 9, 62, 63] (fun p => [(64, .p (.int .i64 p.1))]) (fun p => [.cells [.p (.int .i64 a), .p (.sl n1), .p (.sl n2), .p (.sl n3)], .gone, .spare mh 1, .cells [.vec 4 p.2.1 1 0 p.2.2.2, .p (.int .i64 p.1)], .vec p.2.1 p.2.2.1 1]) (fun p => 0 ≤ p.1 ∧ p.1 ≤ B.length ∧ bl (bitsB 1 ((B.take p.1.toNat).map fun b => if b then (1 : Int) else 0)) = p.2.2.1 ∧ p.2.2.1.length = p.2.2.2) (fun p => (B.length - p.1).toNat) (0, 0, [], 0) 5 (fun _ => rfl) ⟨Int.le_refl _, by show (0 : Int) ≤ _; omega, rfl, rfl⟩ ⟨rfl, trivial⟩ rfl ?_
   rintro R2 ⟨j, g, L, n⟩ ⟨hj0, hj1, hL, hn⟩ hR2
   replace hj0 : 0 ≤ j := hj0
   replace hj1 : j ≤ B.length := hj1
   replace hL : bl (bitsB 1 ((B.take j.toNat).map fun b => if b then (1 : Int) else 0)) = L := hL
   replace hn : L.length = n := hn
   have hA8 : At8 j (bitsB 1 ((B.take j.toNat).map fun b => if b then (1 : Int) else 0)) := by
     have := bitsB_at (W := 1) (by decide) ((B.take j.toNat).map fun b => if b then (1 : Int) else 0)
     rw [List.length_map, List.length_take, show (1 : Int) * ((min j.toNat B.length : Nat) : Int) = j by omega] at this
     exact this
   have hj2 : j ≤ 1000000000 := by omega
   have hLlen : L.length ≤ 100000 := by
     have := hA8.2
     rw [← hL, List.length_map]; omega
   have hdrop : ∀ {y : List (List PV)}, List.take n (List.drop 0 L) = y → okEs 1 y = true ∧ y.length ≤ 1000000000 ∧ y = L := by
     rintro y rfl
     have e : List.take n (List.drop 0 L) = L := by rw [List.drop_zero, ← hn, List.take_length]
     rw [e]
     exact ⟨by rw [← hL]; exact okEs_bl _, by omega, rfl⟩
   have hnL : 0 + n ≤ L.length := by omega
   have hk2 : decide (j < z) = true → j < B.length := fun h => by have := of_decide_eq_true h; omega
   have hgo2 : decide (j < z) = true → 0 ≤ j + 1 ∧ j + 1 ≤ B.length ∧ (B.length - (j + 1)).toNat < (B.length - j).toNat ∧ IntKind.i64.wrap (j + 1) = j + 1 ∧ (j + 1).toNat = j.toNat + 1 ∧ (1 : Int) * ((j.toNat : Nat) : Int) = j := by
     intro h
     have := of_decide_eq_true h
     exact ⟨by omega, by omega, by omega, wrap_in (by omega), by omega, by omega⟩
   have hend2 : decide (j < z) = false → bl bits = L := by
     intro h
     have := of_decide_eq_false h
     rw [← hL, ← hbits, show j.toNat = B.length by omega, List.take_length]
   have hO3 : ∀ {y L2 L4 : List (List PV)} {m2 m4 : Nat}, List.take n (List.drop 0 L) = y → decide (j < z) = false → Lh ++ [[PV.int .u8 1]] = L2 → Lh.length + [[PV.int .u8 1]].length = m2 → L2 ++ y = L4 → L2.length + y.length = m4 → OwnB 40000000 ([kb, ab] ++ byW 4 zu ++ [1] ++ bits) L4 m4 := by
     intro y L2 L4 m2 m4 e1 e2 e3 e4 e5 e6
     have o := hO0 hLh e3 e4 h1c
     have hb := hend2 e2
     refine .mk' ?_ (by rw [← e5, List.length_append]; exact e6) ?_
     · rw [← e5, (hdrop e1).2.2, ← hb, ← o.e]; exact List.map_append
     · have h5 := o.blen
       have h6 := o.le
       have h7 : bits.length = L.length := by rw [← hb, List.length_map]
       rw [List.length_append]; omega
   repeat' (first
     | (have hz0 := hix0 (by assumption) (by assumption); subst hz0)
     | (with_reducible refine Nm.mk ?_; intro z hz)
     | (with_reducible refine IfB.mk ?_ ?_ <;> (intro h; cases h))
     | (with_reducible refine Two.l ?_; refine Asm.mk ?_ ?_; focus (decide +kernel))
     | (with_reducible refine Two.r ?_)
     | (with_reducible refine TwoT.r ?_)
     | (with_reducible refine TwoU.r ?_)
     | (with_reducible refine Asm.mk ?_ ?_; focus (first | exact hU8 (by assumption) | exact hix1 (by assumption) | exact ⟨rfl, rfl, hnL⟩ | exact (OwnB.mk' (N := 100000000) (by assumption) (by assumption) hLhl).side (by decide) rfl (Nat.le_of_ble_eq_true rfl) | exact ((hO0 hLh (by assumption) (by assumption) h1c).mono (by decide : 1000 ≤ 100000000)).side (by decide) (hdrop (by assumption)).1 (hdrop (by assumption)).2.1 | (show (_ : Bool) = true; kernel_rfl)))
     | (with_reducible refine Ix.map h1 (fun _ => rfl) (by decide) hj0 (hk2 (by assumption)) ?_; intro x hx)
     | (with_reducible refine isCC hcc ?_; refine putCC hcc 3 4 (by decide) _ 1 j (by decide) g _ hA8 hj2 hL hn rfl rfl rfl ?_; intro g' L' n' a' hL' hn' ha')
     | (with_reducible refine isCC hcc ?_; refine wordsCC hcc 2 hC' hl hcl _ rfl ((hO3 (by assumption) (by assumption) (by assumption) (by assumption) (by assumption) (by assumption)).mono (by decide)) rfl ?_; intro Lr mr hLr hmr)
     | (with_reducible refine Asm.mk2 ?_ ?_)
     | ((fail_if_success (with_reducible first | refine hQ _ ?_ | refine Side.mk ?_ | refine isCP hcp ?_ | refine isCC hcc ?_ | refine isLP hlp ?_ | refine Ix.mk ?_ | refine SIx.mk ?_ | refine SEx.mk ?_ | refine EIx.mk ?_ | refine RIx.mk ?_ | refine LkX.mk ?_ | show False | refine hR ?_ _ ?_ ?_ ?_ ?_ ?_ | refine hR2 ?_ _ ?_ ?_ ?_ ?_ ?_)); cbv))
   · rename_i hjz
     obtain ⟨g1, g2, g3, g4, g5, g6⟩ := hgo2 (by assumption)
     rw [g4] at hz
     subst hz
     subst ha'
     refine hR2 (j + 1, g', L', n') _ ⟨g1, g2, ?_, hn'⟩ g3 ⟨rfl, trivial⟩ ⟨rfl, rfl, rfl, rfl, rfl, rfl, trivial⟩ rfl
     show bl (bitsB 1 ((B.take (j + 1).toNat).map fun b => if b then (1 : Int) else 0)) = L'
     rw [g5, bitsB_succ hx, g6, ← hL']; rfl
   · rename_i hjz
     obtain ⟨g1, g2, g3, g4, g5, g6⟩ := hgo2 (by assumption)
     rw [g4] at hz
     subst hz
     subst ha'
     refine hR2 (j + 1, g', L', n') _ ⟨g1, g2, ?_, hn'⟩ g3 ⟨rfl, trivial⟩ ⟨rfl, rfl, rfl, rfl, rfl, rfl, trivial⟩ rfl
     show bl (bitsB 1 ((B.take (j + 1).toNat).map fun b => if b then (1 : Int) else 0)) = L'
     rw [g5, bitsB_succ hx, g6, ← hL']; rfl
   · refine hQ _ ?_
     rw [hh, ← hz, ← hLr, strOf_bytes]
end Go.Proofs.Ytcajncmjlmpkgaa

namespace Go.Proofs.Ytcajncmjlmpkgaa
open Go Go.RowKit
set_option maxRecDepth 100000
set_option linter.unusedSimpArgs false
set_option linter.unusedVariables false
set_option maxHeartbeats 400000 in
theorem write4_c (a : Int) (B : List Bool) (N : List Int) (S : List ByteArray) (n1 n2 n3 : List (List PV)) (h1 : B.map boolc = n1) (h2 : N.map i64c = n2) (h3 : S.map strc = n3) (hg : goodV ⟨a, B, N, S⟩ = true) (hB : B.length ≤ 4096) (hl : Few (stand (valuesM ⟨a, B, N, S⟩))) (hvl : (valuesM ⟨a, B, N, S⟩).length ≤ 4096) (ha1 : a = 1) :
   PCall Try.prog 7 [.agg [.int .i64 a, .sl n1, .sl n2, .sl n3], .int .i64 4] fun r => r = [.str (toB (headB 4 ⟨a, B, N, S⟩ ++ offsB (stand (valuesM ⟨a, B, N, S⟩)))), .int .i64 0] := by
 have b1 : n1.length = B.length := by rw [← h1]; simp
 have hm1 := @markB_all ⟨a, B, N, S⟩
 have hm2 := @markB_some ⟨a, B, N, S⟩
 have hhB : headB 4 ⟨a, B, N, S⟩ = [byO 4, byO a] ++ byW 4 (u64 (valuesM ⟨a, B, N, S⟩).length) ++ markB ⟨a, B, N, S⟩ := rfl
 obtain ⟨hd, hhd⟩ : ∃ hd, headB 4 ⟨a, B, N, S⟩ = hd := ⟨_, rfl⟩
 obtain ⟨mk, hmk⟩ : ∃ mk, markB ⟨a, B, N, S⟩ = mk := ⟨_, rfl⟩
 rw [hhd] at hhB ⊢
 rw [hmk] at hhB hm1 hm2
 have hgc := good_c a B N S n1 n2 n3 h1 h2 h3
 rw [hg] at hgc
 have hvc := vvalues_c a B N S n1 n2 n3 h1 h2 h3 (by omega)
 obtain ⟨vs, hvs⟩ : ∃ vs, valuesM ⟨a, B, N, S⟩ = vs := ⟨_, rfl⟩
 obtain ⟨C, hC⟩ : ∃ C, vs.map Val.cells = C := ⟨_, rfl⟩
 rw [hvs] at hl hvl hm1 hm2 hhB ⊢
 rw [hvs, hC] at hvc
 obtain ⟨bits, hbits⟩ : ∃ bits, bitsB 1 (B.map fun b => if b then (1 : Int) else 0) = bits := ⟨_, rfl⟩
 rw [hbits] at hm2
 clear hmk hhd hg hvs
 obtain ⟨nC, hnC⟩ : ∃ nC, C.length = nC := ⟨_, rfl⟩
 have hnv : nC = vs.length := by rw [← hnC, ← hC, List.length_map]
 have hvl2 : vs.length ≤ 2000000 := by omega
 have hnC2 : nC ≤ 2000000 := by omega
 have hpos : ∀ {x m : Int}, IntKind.u64.wrap x = m → 0 ≤ m := fun h => h ▸ u64_pos _
 have htwo : ∀ {z1 z2 : Int}, IntKind.u8.wrap 4 = z1 → IntKind.u8.wrap a = z2 → bl [byO 4, byO a] = [[PV.int .u8 z1], [PV.int .u8 z2]] := by
   rintro z1 z2 rfl rfl
   show [byteC (byO 4), byteC (byO a)] = _
   rw [byO_c, byO_c]
 generalize byO 4 = kb at *
 generalize byO a = ab at *
 have hx1 : ∀ {p : Prop}, decide ((4 : Int) < 1) = true → p := fun h => absurd h (by decide)
 have hx2 : ∀ {p : Prop}, decide ((4 : Int) < 4) = true → p := fun h => absurd h (by decide)
 have hx3 : ¬ decide ((4 : Int) = 4) = false := by decide
 have hx6 : ∀ {p : Prop}, decide (a = 2) = true → p := fun h => absurd (of_decide_eq_true h) (by omega)
 have hx4 : ∀ {p : Prop} {z : Bool}, (!z) = true → true = z → p := by rintro p z h rfl; cases h
 have hx5 : ∀ {p : Prop} {z : Int}, decide (4096 < z) = true → (n1.length : Int) = z → p := by
   intro p z h h2
   have := of_decide_eq_true h
   omega
 have hix0 : ∀ {z1 : Int} {z : Nat}, 0 + z1.toNat * 1 = z → IntKind.i64.wrap (4 - 1) = z1 → z = 4 - 1 := by rintro z1 z rfl rfl; decide
 have hix1 : ∀ {z : Int}, IntKind.i64.wrap (4 - 1) = z → 0 ≤ z ∧ z < ((4 : Nat) : Int) ∧ ¬ (1 : Nat) = 0 := by rintro z rfl; decide
 have hU8 : ∀ {b : List UInt8} {L : List (List PV)}, bl b = L → isU8s L = true := by rintro b L rfl; exact isU8s_bytes b
 have hLhl : ∀ {z : Int}, ([kb, ab] ++ byW 4 z).length ≤ 100000000 := by
   intro z; rw [List.length_append, byW_len]; show 2 + 4 ≤ _; omega
 have hO0 : ∀ {c : UInt8} {d z5 : Int} {Lh L2 : List (List PV)} {m2 : Nat}, bl ([kb, ab] ++ byW 4 z5) = Lh → Lh ++ [[PV.int .u8 d]] = L2 → Lh.length + [[PV.int .u8 d]].length = m2 → (c.toNat : Int) = d → OwnB 1000 ([kb, ab] ++ byW 4 z5 ++ [c]) L2 m2 := by
   rintro c d z5 Lh L2 m2 rfl rfl rfl rfl
   refine .mk' (List.map_append) (by rw [List.length_append]) ?_
   rw [List.length_append, List.length_append, byW_len]; show 2 + 4 + 1 ≤ _; omega
 have hhd : ∀ {z3 z5 : Int}, (C.length : Int) = z3 → IntKind.u64.wrap z3 = z5 → z5 = u64 vs.length := by
   rintro z3 z5 rfl rfl; rw [hnC, hnv]; rfl
 have hst1 : ∀ {C' : List (List PV)} {p q z3 z5 : Int}, (stand vs).map Val.cells = C' → (C'.length : Int) = p → (C.length : Int) = q → decide (p = q) = true → (C.length : Int) = z3 → IntKind.u64.wrap z3 = z5 → hd = [kb, ab] ++ byW 4 z5 ++ [0] := by
   intro C' p q z3 z5 e1 e2 e3 e4 e5 e6
   have := of_decide_eq_true e4
   have hcl : C'.length = (stand vs).length := by rw [← e1, List.length_map]
   rw [hhB, hm1 (by omega), hhd e5 e6]
 have hst0 : ∀ {C' : List (List PV)} {p q z3 z5 : Int}, (stand vs).map Val.cells = C' → (C'.length : Int) = p → (C.length : Int) = q → decide (p = q) = false → (C.length : Int) = z3 → IntKind.u64.wrap z3 = z5 → hd = [kb, ab] ++ byW 4 z5 ++ [1] ++ bits := by
   intro C' p q z3 z5 e1 e2 e3 e4 e5 e6
   have := of_decide_eq_false e4
   have hcl : C'.length = (stand vs).length := by rw [← e1, List.length_map]
   rw [hhB, hm2 (by omega), hhd e5 e6, ← List.append_assoc]
 have h0c : (((0 : UInt8).toNat : Nat) : Int) = 0 := rfl
 have h1c : (((1 : UInt8).toNat : Nat) : Int) = 1 := rfl
 refine PCall.x (nt := 87) (res := [.tmp 4, .tmp 5]) mixed tt_ok [] Try.func7 rfl rfl rfl c7 (Nat.le_of_ble_eq_true rfl) ?_
 intro cp cc lp Q' hcp hcc hlp hQ
 repeat' (first
   | (with_reducible exact absurd (by assumption) hx3)
   | (have hz0 := hix0 (by assumption) (by assumption); subst hz0)
   | (with_reducible refine Nm.mk ?_; intro z hz)
   | (with_reducible refine IfB.mk ?_ ?_ <;> (intro h; cases h))
   | (with_reducible refine Two.l ?_; refine Asm.mk ?_ ?_; focus (decide +kernel))
   | (with_reducible refine Two.r ?_)
   | (with_reducible refine TwoT.r ?_)
   | (with_reducible refine TwoU.r ?_)
   | (with_reducible refine Asm.mk ?_ ?_; focus (first | exact hU8 (by assumption) | exact hix1 (by assumption) | exact (OwnB.mk' (N := 100000000) (by assumption) (by assumption) hLhl).side (by decide) rfl (Nat.le_of_ble_eq_true rfl) | (show (_ : Bool) = true; kernel_rfl)))
   | (with_reducible refine isCP hcp ?_; first | (refine bP hcp (hgc) ?_; intro z hz) | (refine eP hcp (hvc) ?_; rintro r rfl))
   | (with_reducible refine isCC hcc ?_; first | (refine bA hcc (hgc) rfl ?_; intro z hz) | (refine bR hcc (hgc) rfl ?_; intro z hz) | (refine eA hcc (hvc) rfl ?_; rintro r rfl))
   | (with_reducible refine isCC hcc ?_; refine offsCC hcc 2 hC' hl _ rfl ((hO0 (by assumption) (by assumption) (by assumption) h0c).mono (by decide)) rfl ?_; intro Lr mr hLr hmr)
   | (with_reducible refine isCC hcc ?_; refine cloneVCC hcc rfl hC hvl2 hnC ?_)
   | (with_reducible refine isCC hcc ?_; refine deleteVCC hcc 1 0 nC vs rfl rfl hC hnC hnC2 ?_; intro C' hC')
   | (with_reducible refine isCC hcc ?_; refine mintArgCC hcc 1 rfl ?_; refine putWCC hcc 2 4 [kb, ab] rfl (hpos (by assumption)) (by decide) (htwo (by assumption) (by assumption)) rfl (Nat.le_of_ble_eq_true rfl) rfl ?_; intro Lh mh hLh hmh)
   | (with_reducible refine Asm.mk2 ?_ ?_)
   | ((fail_if_success (with_reducible first | refine hQ _ ?_ | refine Side.mk ?_ | refine isCP hcp ?_ | refine isCC hcc ?_ | refine isLP hlp ?_ | refine Ix.mk ?_ | refine SIx.mk ?_ | refine SEx.mk ?_ | refine EIx.mk ?_ | refine RIx.mk ?_ | refine LkX.mk ?_ | show False | refine hR ?_ _ ?_ ?_ ?_ ?_ ?_ | refine hR2 ?_ _ ?_ ?_ ?_ ?_ ?_)); cbv))
 all_goals first | exact hx1 (by assumption) | exact hx2 (by assumption) | exact hx4 (by assumption) (by assumption) | exact hx5 (by assumption) (by assumption) | exact hx6 (by assumption) | skip
 · rename_i zc hzc zu hzu zp hzp zq hzq hpq zL hzL zm hzm zi hzi hzi2
   have hh := hst1 hC' hzp hzq hpq hzc hzu
   refine hQ _ ?_
   rw [hh, ← hz, ← hLr, strOf_bytes]
 · rename_i zc hzc zu hzu zp hzp zq hzq hpq
   have hzl : z = (B.length : Int) := by rw [← hz, ← b1]
   clear hz
   have hh := hst0 hC' hzp hzq hpq hzc hzu
   refine mintVX hlp 1 3 0 rfl rfl ?_
   refine loopT (ι := Int × Nat × List (List PV) × Nat) mixed tt_ok hcp hcc hlp [1, 7, 8, 9, 62, 63] (fun p => [(64, .p (.int .i64 p.1))]) (fun p => [.cells [.p (.int .i64 a), .p (.sl n1), .p (.sl n2), .p (.sl n3)], .gone, .spare mh 1, .cells [.vec 4 p.2.1 1 0 p.2.2.2, .p (.int .i64 p.1)], .vec p.2.1 p.2.2.1 1]) (fun p => 0 ≤ p.1 ∧ p.1 ≤ B.length ∧ bl (bitsB 1 ((B.take p.1.toNat).map fun b => if b then (1 : Int) else 0)) = p.2.2.1 ∧ p.2.2.1.length = p.2.2.2) (fun p => (B.length - p.1).toNat) (0, 0, [], 0) 5 (fun _ => rfl) ⟨Int.le_refl _, by show (0 : Int) ≤ _; omega, rfl, rfl⟩ ⟨rfl, trivial⟩ rfl ?_
   rintro R2 ⟨j, g, L, n⟩ ⟨hj0, hj1, hL, hn⟩ hR2
   replace hj0 : 0 ≤ j := hj0
   replace hj1 : j ≤ B.length := hj1
   replace hL : bl (bitsB 1 ((B.take j.toNat).map fun b => if b then (1 : Int) else 0)) = L := hL
   replace hn : L.length = n := hn
   have hA8 : At8 j (bitsB 1 ((B.take j.toNat).map fun b => if b then (1 : Int) else 0)) := by
     have := bitsB_at (W := 1) (by decide) ((B.take j.toNat).map fun b => if b then (1 : Int) else 0)
     rw [List.length_map, List.length_take, show (1 : Int) * ((min j.toNat B.length : Nat) : Int) = j by omega] at this
     exact this
   have hj2 : j ≤ 1000000000 := by omega
   have hLlen : L.length ≤ 100000 := by
     have := hA8.2
     rw [← hL, List.length_map]; omega
   have hdrop : ∀ {y : List (List PV)}, List.take n (List.drop 0 L) = y → okEs 1 y = true ∧ y.length ≤ 1000000000 ∧ y = L := by
     rintro y rfl
     have e : List.take n (List.drop 0 L) = L := by rw [List.drop_zero, ← hn, List.take_length]
     rw [e]
     exact ⟨by rw [← hL]; exact okEs_bl _, by omega, rfl⟩
   have hnL : 0 + n ≤ L.length := by omega
   have hk2 : decide (j < z) = true → j < B.length := fun h => by have := of_decide_eq_true h; omega
   have hgo2 : decide (j < z) = true → 0 ≤ j + 1 ∧ j + 1 ≤ B.length ∧ (B.length - (j + 1)).toNat < (B.length - j).toNat ∧ IntKind.i64.wrap (j + 1) = j + 1 ∧ (j + 1).toNat = j.toNat + 1 ∧ (1 : Int) * ((j.toNat : Nat) : Int) = j := by
     intro h
     have := of_decide_eq_true h
     exact ⟨by omega, by omega, by omega, wrap_in (by omega), by omega, by omega⟩
   have hend2 : decide (j < z) = false → bl bits = L := by
     intro h
     have := of_decide_eq_false h
     rw [← hL, ← hbits, show j.toNat = B.length by omega, List.take_length]
   have hO3 : ∀ {y L2 L4 : List (List PV)} {m2 m4 : Nat}, List.take n (List.drop 0 L) = y → decide (j < z) = false → Lh ++ [[PV.int .u8 1]] = L2 → Lh.length + [[PV.int .u8 1]].length = m2 → L2 ++ y = L4 → L2.length + y.length = m4 → OwnB 40000000 ([kb, ab] ++ byW 4 zu ++ [1] ++ bits) L4 m4 := by
     intro y L2 L4 m2 m4 e1 e2 e3 e4 e5 e6
     have o := hO0 hLh e3 e4 h1c
     have hb := hend2 e2
     refine .mk' ?_ (by rw [← e5, List.length_append]; exact e6) ?_
     · rw [← e5, (hdrop e1).2.2, ← hb, ← o.e]; exact List.map_append
     · have h5 := o.blen
       have h6 := o.le
       have h7 : bits.length = L.length := by rw [← hb, List.length_map]
       rw [List.length_append]; omega
   repeat' (first
     | (have hz0 := hix0 (by assumption) (by assumption); subst hz0)
     | (with_reducible refine Nm.mk ?_; intro z hz)
     | (with_reducible refine IfB.mk ?_ ?_ <;> (intro h; cases h))
     | (with_reducible refine Two.l ?_; refine Asm.mk ?_ ?_; focus (decide +kernel))
     | (with_reducible refine Two.r ?_)
     | (with_reducible refine TwoT.r ?_)
     | (with_reducible refine TwoU.r ?_)
     | (with_reducible refine Asm.mk ?_ ?_; focus (first | exact hU8 (by assumption) | exact hix1 (by assumption) | exact ⟨rfl, rfl, hnL⟩ | exact (OwnB.mk' (N := 100000000) (by assumption) (by assumption) hLhl).side (by decide) rfl (Nat.le_of_ble_eq_true rfl) | exact ((hO0 hLh (by assumption) (by assumption) h1c).mono (by decide : 1000 ≤ 100000000)).side (by decide) (hdrop (by assumption)).1 (hdrop (by assumption)).2.1 | (show (_ : Bool) = true; kernel_rfl)))
     | (with_reducible refine Ix.map h1 (fun _ => rfl) (by decide) hj0 (hk2 (by assumption)) ?_; intro x hx)
     | (with_reducible refine isCC hcc ?_; refine putCC hcc 3 4 (by decide) _ 1 j (by decide) g _ hA8 hj2 hL hn rfl rfl rfl ?_; intro g' L' n' a' hL' hn' ha')
     | (with_reducible refine isCC hcc ?_; refine offsCC hcc 2 hC' hl _ rfl ((hO3 (by assumption) (by assumption) (by assumption) (by assumption) (by assumption) (by assumption)).mono (by decide)) rfl ?_; intro Lr mr hLr hmr)
     | (with_reducible refine Asm.mk2 ?_ ?_)
     | ((fail_if_success (with_reducible first | refine hQ _ ?_ | refine Side.mk ?_ | refine isCP hcp ?_ | refine isCC hcc ?_ | refine isLP hlp ?_ | refine Ix.mk ?_ | refine SIx.mk ?_ | refine SEx.mk ?_ | refine EIx.mk ?_ | refine RIx.mk ?_ | refine LkX.mk ?_ | show False | refine hR ?_ _ ?_ ?_ ?_ ?_ ?_ | refine hR2 ?_ _ ?_ ?_ ?_ ?_ ?_)); cbv))
   · rename_i hjz
     obtain ⟨g1, g2, g3, g4, g5, g6⟩ := hgo2 (by assumption)
     rw [g4] at hz
     subst hz
     subst ha'
     refine hR2 (j + 1, g', L', n') _ ⟨g1, g2, ?_, hn'⟩ g3 ⟨rfl, trivial⟩ ⟨rfl, rfl, rfl, rfl, rfl, rfl, trivial⟩ rfl
     show bl (bitsB 1 ((B.take (j + 1).toNat).map fun b => if b then (1 : Int) else 0)) = L'
     rw [g5, bitsB_succ hx, g6, ← hL']; rfl
   · rename_i hjz
     obtain ⟨g1, g2, g3, g4, g5, g6⟩ := hgo2 (by assumption)
     rw [g4] at hz
     subst hz
     subst ha'
     refine hR2 (j + 1, g', L', n') _ ⟨g1, g2, ?_, hn'⟩ g3 ⟨rfl, trivial⟩ ⟨rfl, rfl, rfl, rfl, rfl, rfl, trivial⟩ rfl
     show bl (bitsB 1 ((B.take (j + 1).toNat).map fun b => if b then (1 : Int) else 0)) = L'
     rw [g5, bitsB_succ hx, g6, ← hL']; rfl
   · refine hQ _ ?_
     rw [hh, ← hz, ← hLr, strOf_bytes]
end Go.Proofs.Ytcajncmjlmpkgaa

namespace Go.Proofs.Ytcajncmjlmpkgaa
open Go Go.RowKit
set_option maxRecDepth 100000
set_option linter.unusedSimpArgs false
set_option linter.unusedVariables false
def badW (k : Int) (v : Vec) : Bool := !goodV v || decide (k < 1) || decide (4 < k) || (decide (k = 4) && decide (v.kind = 2))
def errW (k : Int) (v : Vec) : Int := if badW k v = true then 1 else 3
set_option maxHeartbeats 400000 in
theorem writeE_c (k a : Int) (B : List Bool) (N : List Int) (S : List ByteArray) (n1 n2 n3 : List (List PV)) (h1 : B.map boolc = n1) (h2 : N.map i64c = n2) (h3 : S.map strc = n3) (hE : badW k ⟨a, B, N, S⟩ = true ∨ 4096 < B.length) :
   PCall Try.prog 7 [.agg [.int .i64 a, .sl n1, .sl n2, .sl n3], .int .i64 k] fun r => r = [.str ⟨⟨[]⟩⟩, .int .i64 (errW k ⟨a, B, N, S⟩)] := by
 have b1 : n1.length = B.length := by rw [← h1]; simp
 obtain ⟨C, hC⟩ : ∃ C, (valuesM ⟨a, B, N, S⟩).map Val.cells = C := ⟨_, rfl⟩
 obtain ⟨gd, hgd⟩ : ∃ gd, goodV ⟨a, B, N, S⟩ = gd := ⟨_, rfl⟩
 have hgc := good_c a B N S n1 n2 n3 h1 h2 h3
 have hvc : B.length ≤ 4096 → PCall Try.prog 17 [.agg [.int .i64 a, .sl n1, .sl n2, .sl n3]] fun r => r = [.sl C] := by
   intro h
   have := vvalues_c a B N S n1 n2 n3 h1 h2 h3 (by omega)
   rw [hC] at this
   exact this
 rw [hgd] at hgc
 obtain ⟨bd, hbd⟩ : ∃ bd, badW k ⟨a, B, N, S⟩ = bd := ⟨_, rfl⟩
 have hbe : bd = (!gd || decide (k < 1) || decide (4 < k) || (decide (k = 4) && decide (a = 2))) := by rw [← hbd, ← hgd]; rfl
 obtain ⟨ec, hec⟩ : ∃ ec, errW k ⟨a, B, N, S⟩ = ec := ⟨_, rfl⟩
 have hee : ec = if bd = true then 1 else 3 := by rw [← hec, errW, hbd]
 rw [hec]
 rw [hbd] at hE
 clear hgd hbd hec
 have hsm : ∀ {z : Int}, (n1.length : Int) = z → decide (4096 < z) = false → B.length ≤ 4096 := by
   intro z h h'
   have := of_decide_eq_false h'
   omega
 have e1 : ∀ {z : Bool}, gd = z → (!z) = true → ec = 1 := by
   rintro z rfl h; rw [hee, hbe, h]; rfl
 have e2 : decide (k < 1) = true → ec = 1 := by
   intro h; rw [hee, hbe, h]; simp
 have e3 : decide (4 < k) = true → ec = 1 := by
   intro h; rw [hee, hbe, h]; simp
 have e4 : decide (k = 4) = true → decide (a = 2) = true → ec = 1 := by
   intro h h'; rw [hee, hbe, h, h']; simp
 have e5 : ∀ {z : Bool}, gd = z → (!z) = false → decide (k < 1) = false → decide (4 < k) = false → decide (k = 4) = true → decide (a = 2) = false → bd = false := by
   rintro z rfl h1 h2 h3 h4 h5; rw [hbe, h1, h2, h3, h4, h5]; rfl
 have e6 : ∀ {z : Bool}, gd = z → (!z) = false → decide (k < 1) = false → decide (4 < k) = false → decide (k = 4) = false → bd = false := by
   rintro z rfl h1 h2 h3 h4; rw [hbe, h1, h2, h3, h4]; rfl
 have e7 : bd = false → ec = 3 := by rintro rfl; rw [hee]; rfl
 have e8 : bd = false → ∀ {p : Prop} {z : Int}, (n1.length : Int) = z → decide (4096 < z) = false → p := by
   rintro rfl p z h h'
   have := hsm h h'
   rcases hE with h9 | h9
   · cases h9
   · omega
 refine PCall.x (nt := 87) (res := [.tmp 4, .tmp 5]) mixed tt_ok [] Try.func7 rfl rfl rfl c7 (Nat.le_of_ble_eq_true rfl) ?_
 intro cp cc lp Q' hcp hcc hlp hQ
 repeat' (first
   | (with_reducible refine Nm.mk ?_; intro z hz)
   | (with_reducible refine IfB.mk ?_ ?_ <;> (intro h; cases h))
   | (with_reducible refine Two.l ?_; refine Asm.mk ?_ ?_; focus (decide +kernel))
   | (with_reducible refine Two.r ?_)
   | (with_reducible refine TwoT.r ?_)
   | (with_reducible refine TwoU.r ?_)
   | (with_reducible refine Asm.mk ?_ ?_; focus (first | (show (_ : Bool) = true; kernel_rfl)))
   | (with_reducible refine isCP hcp ?_; first | (refine bP hcp (hgc) ?_; intro z hz) | (refine eP hcp (hvc (hsm (by assumption) (by assumption))) ?_; rintro r rfl))
   | (with_reducible refine isCC hcc ?_; first | (refine bA hcc (hgc) rfl ?_; intro z hz) | (refine bR hcc (hgc) rfl ?_; intro z hz) | (refine eA hcc (hvc (hsm (by assumption) (by assumption))) rfl ?_; rintro r rfl))
   | (with_reducible refine Asm.mk2 ?_ ?_)
   | ((fail_if_success (with_reducible first | refine hQ _ ?_ | refine Side.mk ?_ | refine isCP hcp ?_ | refine isCC hcc ?_ | refine isLP hlp ?_ | refine Ix.mk ?_ | refine SIx.mk ?_ | refine SEx.mk ?_ | refine EIx.mk ?_ | refine RIx.mk ?_ | refine LkX.mk ?_ | show False | refine hR ?_ _ ?_ ?_ ?_ ?_ ?_ | refine hR2 ?_ _ ?_ ?_ ?_ ?_ ?_)); cbv))
 all_goals first
   | exact e8 (e5 (by assumption) (by assumption) (by assumption) (by assumption) (by assumption) (by assumption)) (by assumption) (by assumption)
   | exact e8 (e6 (by assumption) (by assumption) (by assumption) (by assumption) (by assumption)) (by assumption) (by assumption)
   | exact hQ _ (by rw [e1 (by assumption) (by assumption)])
   | exact hQ _ (by rw [e2 (by assumption)])
   | exact hQ _ (by rw [e3 (by assumption)])
   | exact hQ _ (by rw [e4 (by assumption) (by assumption)])
   | exact hQ _ (by rw [e7 (e5 (by assumption) (by assumption) (by assumption) (by assumption) (by assumption) (by assumption))])
   | exact hQ _ (by rw [e7 (e6 (by assumption) (by assumption) (by assumption) (by assumption) (by assumption))])
end Go.Proofs.Ytcajncmjlmpkgaa

namespace Go.Proofs.Ytcajncmjlmpkgaa
open Go Go.RowKit
set_option maxRecDepth 100000
set_option linter.unusedSimpArgs false
set_option linter.unusedVariables false
theorem allUp_at {f : Nat → Bool} : ∀ {n i : Nat}, allUp f n = true → i < n → f i = true
 | n + 1, i, h, hi => by
   simp only [allUp, Bool.and_eq_true] at h
   rcases Nat.lt_or_ge i n with g | g
   · exact allUp_at h.1 g
   · rw [show i = n by omega]; exact h.2
theorem good_kind {v : Vec} (h : goodV v = true) : v.kind = 1 ∨ v.kind = 2 := by
 unfold goodV at h
 split at h
 · exact .inl (by assumption)
 · split at h
   · exact .inr (by assumption)
   · cases h
theorem values_len (v : Vec) : (valuesM v).length ≤ v.null.length := by unfold valuesM; split <;> simp
theorem values_ok {v : Vec} {x : Val} (h : x ∈ valuesM v) : clean x = x ∧ x.s.size ≤ 1000 := by
 unfold valuesM at h
 split at h
 · rename_i hg
   obtain ⟨i, hi, rfl⟩ := List.mem_map.1 h
   rw [List.mem_range] at hi
   rw [atV]
   split
   · exact ⟨by simp [clean, Val.zero], by show (0 : Nat) ≤ 1000; decide⟩
   · split
     · exact ⟨by simp [clean, num], by show (0 : Nat) ≤ 1000; decide⟩
     · rename_i hk
       have hk2 : v.kind = 2 := (good_kind hg).resolve_left hk
       refine ⟨by simp [clean, str], ?_⟩
       unfold goodV at hg
       rw [if_neg hk, if_pos hk2] at hg
       simp only [Bool.and_eq_true, decide_eq_true_eq] at hg
       have := allUp_at hg.2 (i := i) (by omega)
       simp only [okS, Bool.and_eq_true, Bool.not_eq_true', decide_eq_false_iff_not] at this
       have h2 := this.2
       show ((v.ss[i]?).getD ⟨⟨[]⟩⟩).size ≤ 1000
       omega
 · cases h
theorem stand_mem {l : List Val} {x : Val} (h : x ∈ stand l) : x ∈ l := (List.mem_filter.1 h).1
theorem stand_few {v : Vec} (h : v.null.length ≤ 4096) : Few (stand (valuesM v)) :=
 ⟨Nat.le_trans (List.length_filter_le _ _) (Nat.le_trans (values_len v) h), fun x hx => (values_ok (stand_mem hx)).2⟩
theorem stand_clean (v : Vec) : Clean (stand (valuesM v)) := fun x hx => (values_ok (stand_mem hx)).1
def schemeB (k : Int) (l : List Val) : List UInt8 := if k = 1 then plainB l else if k = 2 then runsB l else if k = 3 then wordsB l else offsB l
def refuseW (k : Int) (v : Vec) : Bool := badW k v || decide (4096 < v.null.length)
def outW (k : Int) (v : Vec) : ByteArray := if refuseW k v = true then ⟨⟨[]⟩⟩ else toB (headB k v ++ schemeB k (stand (valuesM v)))
def outE (k : Int) (v : Vec) : Int := if refuseW k v = true then errW k v else 0
theorem write_c (k a : Int) (B : List Bool) (N : List Int) (S : List ByteArray) (n1 n2 n3 : List (List PV)) (h1 : B.map boolc = n1) (h2 : N.map i64c = n2) (h3 : S.map strc = n3) :
   PCall Try.prog 7 [.agg [.int .i64 a, .sl n1, .sl n2, .sl n3], .int .i64 k] fun r => r = [.str (outW k ⟨a, B, N, S⟩), .int .i64 (outE k ⟨a, B, N, S⟩)] := by
 by_cases hr : refuseW k ⟨a, B, N, S⟩ = true
 · rw [outW, outE, if_pos hr, if_pos hr]
   refine writeE_c k a B N S n1 n2 n3 h1 h2 h3 ?_
   rw [refuseW, Bool.or_eq_true] at hr
   exact hr.imp id of_decide_eq_true
 · rw [outW, outE, if_neg hr, if_neg hr]
   rw [refuseW, Bool.or_eq_true] at hr
   have hb : badW k ⟨a, B, N, S⟩ = false := by
     cases h : badW k ⟨a, B, N, S⟩ with
     | true => exact absurd (.inl h) hr
     | false => rfl
   have hB : B.length ≤ 4096 := by
     rcases Nat.lt_or_ge 4096 B.length with h | h
     · exact absurd (.inr (decide_eq_true h)) hr
     · exact h
   simp only [badW, Bool.or_eq_false_iff, Bool.not_eq_false', decide_eq_false_iff_not, Bool.and_eq_false_iff] at hb
   obtain ⟨⟨⟨hg, hk1⟩, hk4⟩, hk42⟩ := hb
   have hvl : (valuesM ⟨a, B, N, S⟩).length ≤ 4096 := Nat.le_trans (values_len _) hB
   have hf := stand_few (v := ⟨a, B, N, S⟩) hB
   have hkk : k = 1 ∨ k = 2 ∨ k = 3 ∨ k = 4 := by omega
   rcases hkk with rfl | rfl | rfl | rfl
   · exact write1_c a B N S n1 n2 n3 h1 h2 h3 hg hB hf hvl
   · exact write2_c a B N S n1 n2 n3 h1 h2 h3 hg hB hf hvl
   · exact write3_c a B N S n1 n2 n3 h1 h2 h3 hg hB hf hvl (stand_clean _)
   · refine write4_c a B N S n1 n2 n3 h1 h2 h3 hg hB hf hvl ?_
     rcases good_kind hg with h | h
     · exact h
     · rcases hk42 with h5 | h5
       · exact absurd rfl h5
       · exact absurd h h5
def takeW (v : Vec) (b : ByteArray) (k : Int) : ByteArray := if outE k v = 0 ∧ (outW k v).size < b.size then outW k v else b
def bestW (v : Vec) : Nat → ByteArray
 | 0 => outW 1 v
 | n + 1 => takeW v (bestW v n) (n + 2)
def packOut (v : Vec) : ByteArray := if outE 1 v = 0 then bestW v 3 else ⟨⟨[]⟩⟩
theorem wrP {P : Program} {cp : FuncId → List PV → (CR → Prop) → Prop} (hcp : PC1 P = cp) {f : FuncId} {args : List PV} {X : ByteArray} {E : Int} {K : CR → Prop} (h : PCall P f args fun r => r = [.str X, .int .i64 E]) (k : ∀ s e, X = s → E = e → K (.pure [.str s, .int .i64 e])) : cp f args K := eP hcp h fun r hr => hr ▸ k _ _ rfl rfl
theorem wrA {P : Program} {cc : FuncId → List AV → List AObj → (AV → List AObj → Prop) → Prop} (hcc : ACall P = cc) {f : FuncId} {aargs : List AV} {args : List PV} {H : List AObj} {X : ByteArray} {E : Int} {K : AV → List AObj → Prop} (h : PCall P f args fun r => r = [.str X, .int .i64 E]) (ha : optL pureX aargs = some args) (k : ∀ s e, X = s → E = e → K (packV (mapX .p [.str s, .int .i64 e])) H) : cc f aargs H K := eA hcc h ha fun r hr => hr ▸ k _ _ rfl rfl
set_option maxHeartbeats 400000 in
theorem pack_c (a : Int) (B : List Bool) (N : List Int) (S : List ByteArray) (n1 n2 n3 : List (List PV)) (h1 : B.map boolc = n1) (h2 : N.map i64c = n2) (h3 : S.map strc = n3) :
   PCall Try.prog 8 [.agg [.int .i64 a, .sl n1, .sl n2, .sl n3]] fun r => r = [.str (packOut ⟨a, B, N, S⟩), .int .i64 (outE 1 ⟨a, B, N, S⟩)] := by
 obtain ⟨V, hV⟩ : ∃ V : Vec, ⟨a, B, N, S⟩ = V := ⟨_, rfl⟩
 have hw : ∀ k : Int, PCall Try.prog 7 [.agg [.int .i64 a, .sl n1, .sl n2, .sl n3], .int .i64 k] fun r => r = [.str (outW k V), .int .i64 (outE k V)] := by
   intro k; rw [← hV]; exact write_c k a B N S n1 n2 n3 h1 h2 h3
 rw [hV]
 refine PCall.x (nt := 38) (res := [.tmp 2, .tmp 3]) mixed tt_ok [] Try.func8 rfl rfl rfl c8 (Nat.le_of_ble_eq_true rfl) ?_
 intro cp cc lp Q' hcp hcc hlp hQ
 repeat' (first
   | (with_reducible refine Nm.mk ?_; intro z hz)
   | (with_reducible refine IfB.mk ?_ ?_ <;> (intro h; cases h))
   | (with_reducible refine Two.l ?_; refine Asm.mk ?_ ?_; focus (decide +kernel))
   | (with_reducible refine Two.r ?_)
   | (with_reducible refine TwoT.r ?_)
   | (with_reducible refine TwoU.r ?_)
   | (with_reducible refine Asm.mk ?_ ?_; focus (first | (show (_ : Bool) = true; kernel_rfl)))
   | (with_reducible refine isCP hcp ?_; first | (refine wrP hcp (hw _) ?_; intro s e hs he))
   | (with_reducible refine isCC hcc ?_; first | (refine wrA hcc (hw _) rfl ?_; intro s e hs he))
   | (with_reducible refine Asm.mk2 ?_ ?_)
   | ((fail_if_success (with_reducible first | refine hQ _ ?_ | refine Side.mk ?_ | refine isCP hcp ?_ | refine isCC hcc ?_ | refine isLP hlp ?_ | refine Ix.mk ?_ | refine SIx.mk ?_ | refine SEx.mk ?_ | refine EIx.mk ?_ | refine RIx.mk ?_ | refine LkX.mk ?_ | show False | refine hR ?_ _ ?_ ?_ ?_ ?_ ?_ | refine hR2 ?_ _ ?_ ?_ ?_ ?_ ?_)); cbv))
 · refine hQ _ ?_
   have h0 : ¬ outE 1 V = 0 := by
     rw [he]; intro h; rw [h] at hz; cases hz
   rw [packOut, if_neg h0, he]
 · have h0 : outE 1 V = 0 := by
     rw [he]; simpa using hz
   have hp0 : packOut V = bestW V 3 := by rw [packOut, if_pos h0]
   refine loopT (ι := Int × ByteArray) mixed tt_ok hcp hcc hlp [1] (fun p => [(6, .p (.int .i64 p.1)), (4, .p (.str p.2))]) (fun _ => [.cells [.p (.int .i64 a), .p (.sl n1), .p (.sl n2), .p (.sl n3)]]) (fun p => 2 ≤ p.1 ∧ p.1 ≤ 5 ∧ bestW V (p.1 - 2).toNat = p.2) (fun p => (5 - p.1).toNat) (2, s) 1 (fun _ => rfl) ⟨by show (2 : Int) ≤ 2; decide, by show (2 : Int) ≤ 5; decide, hs⟩ ⟨rfl, rfl, trivial⟩ rfl ?_
   rintro R ⟨k, b⟩ ⟨hk2, hk5, hb⟩ hR
   replace hk2 : 2 ≤ k := hk2
   replace hk5 : k ≤ 5 := hk5
   replace hb : bestW V (k - 2).toNat = b := hb
   clear hs he
   have hgo : decide (k ≤ 4) = true → 2 ≤ k + 1 ∧ k + 1 ≤ 5 ∧ (5 - (k + 1)).toNat < (5 - k).toNat ∧ IntKind.i64.wrap (k + 1) = k + 1 ∧ bestW V (k + 1 - 2).toNat = takeW V b k := by
     intro h
     have := of_decide_eq_true h
     refine ⟨by omega, by omega, by omega, wrap_in (by omega), ?_⟩
     rw [show (k + 1 - 2).toNat = (k - 2).toNat + 1 by omega, bestW, hb, show (((k - 2).toNat : Nat) : Int) + 2 = k by omega]
   have hend : decide (k ≤ 4) = false → bestW V 3 = b := by
     intro h
     have := of_decide_eq_false h
     rw [← hb, show (k - 2).toNat = 3 by omega]
   have hyes : ∀ {s2 : ByteArray} {e2 x y : Int}, outW k V = s2 → outE k V = e2 → decide (e2 = 0) = true → (s2.size : Int) = x → (b.size : Int) = y → decide (x < y) = true → takeW V b k = s2 := by
     intro s2 e2 x y g1 g2 g3 g4 g5 g6
     have g7 := of_decide_eq_true g6
     rw [takeW, if_pos ⟨by rw [g2]; exact of_decide_eq_true g3, by rw [g1]; omega⟩, g1]
   have hno1 : ∀ {s2 : ByteArray} {x y : Int}, outW k V = s2 → (s2.size : Int) = x → (b.size : Int) = y → decide (x < y) = false → takeW V b k = b := by
     intro s2 x y g1 g4 g5 g6
     have g7 := of_decide_eq_false g6
     rw [takeW, if_neg]
     rintro ⟨_, h⟩
     rw [g1] at h; omega
   have hno2 : ∀ {e2 : Int}, outE k V = e2 → decide (e2 = 0) = false → takeW V b k = b := by
     intro e2 g2 g3
     rw [takeW, if_neg]
     rintro ⟨h, _⟩
     rw [g2] at h
     exact of_decide_eq_false g3 h
   repeat' (first
     | (with_reducible refine Nm.mk ?_; intro z hz)
     | (with_reducible refine IfB.mk ?_ ?_ <;> (intro h; cases h))
     | (with_reducible refine Two.l ?_; refine Asm.mk ?_ ?_; focus (decide +kernel))
     | (with_reducible refine Two.r ?_)
     | (with_reducible refine TwoT.r ?_)
     | (with_reducible refine TwoU.r ?_)
     | (with_reducible refine Asm.mk ?_ ?_; focus (first | (show (_ : Bool) = true; kernel_rfl)))
     | (with_reducible refine isCP hcp ?_; first | (refine wrP hcp (hw _) ?_; intro s2 e2 hs2 he2))
     | (with_reducible refine isCC hcc ?_; first | (refine wrA hcc (hw _) rfl ?_; intro s2 e2 hs2 he2))
     | (with_reducible refine Asm.mk2 ?_ ?_)
     | ((fail_if_success (with_reducible first | refine hQ _ ?_ | refine Side.mk ?_ | refine isCP hcp ?_ | refine isCC hcc ?_ | refine isLP hlp ?_ | refine Ix.mk ?_ | refine SIx.mk ?_ | refine SEx.mk ?_ | refine EIx.mk ?_ | refine RIx.mk ?_ | refine LkX.mk ?_ | show False | refine hR ?_ _ ?_ ?_ ?_ ?_ ?_ | refine hR2 ?_ _ ?_ ?_ ?_ ?_ ?_)); cbv))
   · rename_i hk4 he0 x hx y hy hxy
     obtain ⟨g1, g2, g3, g4, g5⟩ := hgo hk4
     rw [g4] at hz
     subst hz
     exact hR (k + 1, s2) _ ⟨g1, g2, g5.trans (hyes hs2 he2 he0 hx hy hxy)⟩ g3 ⟨rfl, rfl, trivial⟩ ⟨rfl, trivial⟩ rfl
   · rename_i hk4 he0 x hx y hy hxy
     obtain ⟨g1, g2, g3, g4, g5⟩ := hgo hk4
     rw [g4] at hz
     subst hz
     exact hR (k + 1, b) _ ⟨g1, g2, g5.trans (hno1 hs2 hx hy hxy)⟩ g3 ⟨rfl, rfl, trivial⟩ ⟨rfl, trivial⟩ rfl
   · rename_i hk4 he0
     obtain ⟨g1, g2, g3, g4, g5⟩ := hgo hk4
     rw [g4] at hz
     subst hz
     exact hR (k + 1, b) _ ⟨g1, g2, g5.trans (hno2 he2 he0)⟩ g3 ⟨rfl, rfl, trivial⟩ ⟨rfl, trivial⟩ rfl
   · refine hQ _ ?_
     rw [hp0, hend hz, h0]
end Go.Proofs.Ytcajncmjlmpkgaa

namespace Go.Proofs.Ytcajncmjlmpkgaa
open Go Go.RowKit
set_option maxRecDepth 100000
set_option linter.unusedSimpArgs false
set_option linter.unusedVariables false
theorem toB_app (a b : List UInt8) : toB (a ++ b) = toB a ++ toB b := by
 apply ByteArray.ext; simp [toB]
theorem toB_size (a : List UInt8) : (toB a).size = a.length := by simp [toB, ByteArray.size]
theorem plainly_c (k n : Int) (s : ByteArray) (hs : s.size ≤ 2000000) : PCall Try.prog 62 [.agg [.int .i64 k, .int .i64 n, .str s]] fun r => r = [.str (toB (valB ⟨k, n, s⟩))] := by
 have hpos : ∀ {x m : Int}, IntKind.u64.wrap x = m → 0 ≤ m := fun h => h ▸ u64_pos _
 have hsz : ∀ {x : Int} {z : ByteArray}, toB (byW 2 x) = z → ¬ maxI < ((z.size + s.size : Nat) : Int) := by
   rintro x z rfl
   rw [toB_size, byW_len]
   show ¬ (9223372036854775807 : Int) < (((2 : Int).toNat + s.size : Nat) : Int)
   omega
 refine PCall.x (nt := 18) (res := [.tmp 2]) mixed tt_ok [] Try.func62 rfl rfl rfl c62 (Nat.le_of_ble_eq_true rfl) ?_
 intro cp cc lp Q' hcp hcc hlp hQ
 repeat' (first
   | (with_reducible refine Nm.mk ?_; intro z hz)
   | (with_reducible refine IfB.mk ?_ ?_ <;> (intro h; cases h))
   | (with_reducible refine Two.l ?_; refine Asm.mk ?_ ?_; focus (decide +kernel))
   | (with_reducible refine Two.r ?_)
   | (with_reducible refine TwoT.r ?_)
   | (with_reducible refine TwoU.r ?_)
   | (with_reducible refine Asm.mk ?_ ?_; focus (first | exact hsz (by assumption) | (show (_ : Bool) = true; kernel_rfl)))
   | (with_reducible refine isCP hcp ?_; first | (refine sP hcp (bytesW_c 8 _ (hpos (by assumption)) (by decide)) ?_; intro z hz) | (refine sP hcp (bytesW_c 2 _ (hpos (by assumption)) (by decide)) ?_; intro z hz))
   | (with_reducible refine isCC hcc ?_; first | (refine sA hcc (bytesW_c 8 _ (hpos (by assumption)) (by decide)) rfl ?_; intro z hz) | (refine sA hcc (bytesW_c 2 _ (hpos (by assumption)) (by decide)) rfl ?_; intro z hz))
   | (with_reducible refine Asm.mk2 ?_ ?_)
   | ((fail_if_success (with_reducible first | refine hQ _ ?_ | refine Side.mk ?_ | refine isCP hcp ?_ | refine isCC hcc ?_ | refine isLP hlp ?_ | refine Ix.mk ?_ | refine SIx.mk ?_ | refine SEx.mk ?_ | refine EIx.mk ?_ | refine RIx.mk ?_ | refine LkX.mk ?_ | show False | refine hR ?_ _ ?_ ?_ ?_ ?_ ?_ | refine hR2 ?_ _ ?_ ?_ ?_ ?_ ?_)); cbv))
 · rename_i hk z h
   refine hQ _ ?_
   have hk1 : k = 1 := of_decide_eq_true (by assumption)
   rw [valB, if_pos hk1, ← hz]
   subst h; rfl
 · rename_i hk z1 h1 z2 h2 z3 h3
   have hk1 : ¬ k = 1 := of_decide_eq_false (by assumption)
   refine hQ _ ?_
   rw [valB, if_neg hk1, toB_app, toB_byts, ← hz, ← h3, ← h2, ← h1]; rfl
def truthV (b : Bool) : Val := num (if b then 1 else 0)
theorem truth_c (b : Bool) : PCall Try.prog 60 [.bool b] fun r => r = [(truthV b).enc] := by
 refine PCall.x (nt := 6) (res := [.cell 2 24]) mixed tt_ok [] Try.func60 rfl rfl rfl c60 (Nat.le_of_ble_eq_true rfl) ?_
 intro cp cc lp Q' hcp hcc hlp hQ
 repeat' (first
   | (with_reducible refine Nm.mk ?_; intro z hz)
   | (with_reducible refine IfB.mk ?_ ?_ <;> (intro h; cases h))
   | (with_reducible refine Two.l ?_; refine Asm.mk ?_ ?_; focus (decide +kernel))
   | (with_reducible refine Two.r ?_)
   | (with_reducible refine TwoT.r ?_)
   | (with_reducible refine TwoU.r ?_)
   | (with_reducible refine Asm.mk ?_ ?_; focus (first | (show (_ : Bool) = true; kernel_rfl)))
   | (with_reducible refine isCP hcp ?_; first | (refine vP hcp (num_r _) ?_; intro v hv))
   | (with_reducible refine isCC hcc ?_; first | (refine vA hcc (num_r _) rfl ?_; intro v hv))
   | (with_reducible refine Asm.mk2 ?_ ?_)
   | ((fail_if_success (with_reducible first | refine hQ _ ?_ | refine Side.mk ?_ | refine isCP hcp ?_ | refine isCC hcc ?_ | refine isLP hlp ?_ | refine Ix.mk ?_ | refine SIx.mk ?_ | refine SEx.mk ?_ | refine EIx.mk ?_ | refine RIx.mk ?_ | refine LkX.mk ?_ | show False | refine hR ?_ _ ?_ ?_ ?_ ?_ ?_ | refine hR2 ?_ _ ?_ ?_ ?_ ?_ ?_)); cbv))
 all_goals exact hQ _ (by rw [← hv]; rfl)
theorem width_c (n : Int) (hn : 0 ≤ n ∧ n < 18446744073709551616) : PCall Try.prog 66 [.int .u64 n] fun r => r = [.int .i64 (lenI n)] := by
 refine PCall.x (nt := 11) (res := [.tmp 2]) mixed tt_ok [] Try.func66 rfl rfl rfl c66 (Nat.le_of_ble_eq_true rfl) ?_
 intro cp cc lp Q' hcp hcc hlp hQ
 repeat' (first
   | (with_reducible refine Nm.mk ?_; intro z hz)
   | (with_reducible refine IfB.mk ?_ ?_ <;> (intro h; cases h))
   | (with_reducible refine Two.l ?_; refine Asm.mk ?_ ?_; focus (decide +kernel))
   | (with_reducible refine Two.r ?_)
   | (with_reducible refine TwoT.r ?_)
   | (with_reducible refine TwoU.r ?_)
   | (with_reducible refine Asm.mk ?_ ?_; focus (first | (show (_ : Bool) = true; kernel_rfl) | decide))
   | (with_reducible refine Asm.mk2 ?_ ?_)
   | ((fail_if_success (with_reducible first | refine hQ _ ?_ | refine Side.mk ?_ | refine isCP hcp ?_ | refine isCC hcc ?_ | refine isLP hlp ?_ | refine Ix.mk ?_ | refine SIx.mk ?_ | refine SEx.mk ?_ | refine EIx.mk ?_ | refine RIx.mk ?_ | refine LkX.mk ?_ | show False | refine hR ?_ _ ?_ ?_ ?_ ?_ ?_ | refine hR2 ?_ _ ?_ ?_ ?_ ?_ ?_)); cbv))
 refine loopT (ι := Int × Int) mixed tt_ok hcp hcc hlp [] (fun p => [(0, .p (.int .u64 p.1)), (3, .p (.int .i64 p.2))]) (fun _ => []) (fun p => 0 ≤ p.1 ∧ p.1 < 18446744073709551616 ∧ lenI p.1 + p.2 = lenI n ∧ 0 ≤ p.2) (fun p => p.1.toNat) (n, 0) 0 (fun _ => rfl) ⟨hn.1, hn.2, Int.add_zero _, Int.le_refl _⟩ ⟨rfl, rfl, trivial⟩ rfl ?_
 rintro R ⟨x, w⟩ ⟨hx0, hx1, hxw, hw0⟩ hR
 replace hx0 : 0 ≤ x := hx0
 replace hx1 : x < 18446744073709551616 := hx1
 replace hxw : lenI x + w = lenI n := hxw
 replace hw0 : 0 ≤ w := hw0
 have hln := lenI_le n
 have hlx := lenI_le x
 have hgo : decide (0 < x) = true → ∀ {y w2 : Int}, x.fdiv (2 ^ min (Int.toNat 1) IntKind.u64.bits) = y → IntKind.i64.wrap (w + 1) = w2 → 0 ≤ y ∧ y < 18446744073709551616 ∧ lenI y + w2 = lenI n ∧ 0 ≤ w2 ∧ y.toNat < x.toNat := by
   intro h y w2 h1 h2
   have h3 := of_decide_eq_true h
   rw [Int.fdiv_eq_ediv_of_nonneg _ (by decide)] at h1
   have e6 : (2 : Int) ^ min (Int.toNat 1) IntKind.u64.bits = 2 := by decide
   rw [e6] at h1
   rw [wrap_in (by omega)] at h2
   have h4 := lenI_half h3 hx1
   subst h1 h2
   omega
 have hend : decide (0 < x) = false → w = lenI n := by
   intro h
   have h3 := of_decide_eq_false h
   have : x = 0 := by omega
   subst this
   rw [lenI_zero] at hxw; omega
 repeat' (first
   | (with_reducible refine Nm.mk ?_; intro z hz)
   | (with_reducible refine IfB.mk ?_ ?_ <;> (intro h; cases h))
   | (with_reducible refine Two.l ?_; refine Asm.mk ?_ ?_; focus (decide +kernel))
   | (with_reducible refine Two.r ?_)
   | (with_reducible refine TwoT.r ?_)
   | (with_reducible refine TwoU.r ?_)
   | (with_reducible refine Asm.mk ?_ ?_; focus (first | (show (_ : Bool) = true; kernel_rfl) | decide))
   | (with_reducible refine Asm.mk2 ?_ ?_)
   | ((fail_if_success (with_reducible first | refine hQ _ ?_ | refine Side.mk ?_ | refine isCP hcp ?_ | refine isCC hcc ?_ | refine isLP hlp ?_ | refine Ix.mk ?_ | refine SIx.mk ?_ | refine SEx.mk ?_ | refine EIx.mk ?_ | refine RIx.mk ?_ | refine LkX.mk ?_ | show False | refine hR ?_ _ ?_ ?_ ?_ ?_ ?_ | refine hR2 ?_ _ ?_ ?_ ?_ ?_ ?_)); cbv))
 · rename_i hx w2 hw2
   obtain ⟨g1, g2, g3, g4, g5⟩ := hgo hx hz hw2
   exact hR (z, w2) _ ⟨g1, g2, g3, g4⟩ g5 ⟨rfl, rfl, trivial⟩ trivial rfl
 · exact hQ _ (by rw [hend hz])
end Go.Proofs.Ytcajncmjlmpkgaa

namespace Go.Proofs.Ytcajncmjlmpkgaa
open Go Go.RowKit
set_option maxRecDepth 100000
set_option linter.unusedSimpArgs false
set_option linter.unusedVariables false
set_option maxHeartbeats 400000 in
theorem stand_c (l : List Val) (C : List (List PV)) (hC : l.map Val.cells = C) (hl : l.length ≤ 2000000) : PCall Try.prog 57 [.sl C] fun r => r = [.sl ((stand l).map Val.cells)] := by
 have hCl : (C.length : Int) = l.length := by rw [← hC, List.length_map]
 refine PCall.x (nt := 21) (res := [.tmp 2]) mixed tt_ok [] Try.func57 rfl rfl rfl c57 (Nat.le_of_ble_eq_true rfl) ?_
 intro cp cc lp Q' hcp hcc hlp hQ
 repeat' (first
   | (with_reducible refine Nm.mk ?_; intro z hz)
   | (with_reducible refine IfB.mk ?_ ?_ <;> (intro h; cases h))
   | (with_reducible refine Two.l ?_; refine Asm.mk ?_ ?_; focus (decide +kernel))
   | (with_reducible refine Two.r ?_)
   | (with_reducible refine TwoT.r ?_)
   | (with_reducible refine TwoU.r ?_)
   | (with_reducible refine Asm.mk ?_ ?_; focus (first | (show (_ : Bool) = true; kernel_rfl) | decide))
   | (with_reducible refine Asm.mk2 ?_ ?_)
   | ((fail_if_success (with_reducible first | refine hQ _ ?_ | refine Side.mk ?_ | refine isCP hcp ?_ | refine isCC hcc ?_ | refine isLP hlp ?_ | refine Ix.mk ?_ | refine SIx.mk ?_ | refine SEx.mk ?_ | refine EIx.mk ?_ | refine RIx.mk ?_ | refine LkX.mk ?_ | show False | refine hR ?_ _ ?_ ?_ ?_ ?_ ?_ | refine hR2 ?_ _ ?_ ?_ ?_ ?_ ?_)); cbv))
 have hzl : z = (l.length : Int) := by rw [← hz]; exact hCl
 clear hz
 refine mintT hlp 3 3 rfl ?_
 refine loopT (ι := Int × List (List PV) × Nat) mixed tt_ok hcp hcc hlp [6, 7] (fun p => [(8, .p (.int .i64 p.1)), (3, .tok 0 p.2.1)]) (fun p => [.spare p.2.2 3]) (fun p => 0 ≤ p.1 ∧ p.1 ≤ l.length ∧ (stand (l.take p.1.toNat)).map Val.cells = p.2.1 ∧ p.2.1.length = p.2.2) (fun p => (l.length - p.1).toNat) (0, [], 0) 1 (fun _ => rfl) ⟨Int.le_refl _, by show (0 : Int) ≤ _; omega, rfl, rfl⟩ ⟨rfl, rfl, trivial⟩ rfl ?_
 rintro R ⟨i, L, m⟩ ⟨hi0, hi1, hL, hm⟩ hR
 replace hi0 : 0 ≤ i := hi0
 replace hi1 : i ≤ l.length := hi1
 replace hL : (stand (l.take i.toNat)).map Val.cells = L := hL
 replace hm : L.length = m := hm
 have hLn : L.length ≤ 2000000 := by
   rw [← hL, List.length_map]
   have h1 : (stand (l.take i.toNat)).length ≤ (l.take i.toNat).length := List.length_filter_le _ _
   rw [List.length_take] at h1
   omega
 have hok : okEs 3 L = true := by
   rw [← hL]; exact List.all_eq_true.2 fun e he => by obtain ⟨c, _, rfl⟩ := List.mem_map.1 he; rfl
 have hk : decide (i < z) = true → i < l.length := fun h => by have := of_decide_eq_true h; omega
 have hgo : decide (i < z) = true → 0 ≤ i + 1 ∧ i + 1 ≤ l.length ∧ (l.length - (i + 1)).toNat < (l.length - i).toNat ∧ IntKind.i64.wrap (i + 1) = i + 1 ∧ (i + 1).toNat = i.toNat + 1 := by
   intro h
   have := of_decide_eq_true h
   exact ⟨by omega, by omega, by omega, wrap_in (by omega), by omega⟩
 have hend : decide (i < z) = false → i.toNat = l.length := by
   intro h
   have := of_decide_eq_false h
   omega
 have hsd : ∀ {e : List (List PV)}, okEs 3 e = true → e.length ≤ 1 → m = L.length ∧ 3 = 3 ∧ okEs 3 L = true ∧ okEs 3 e = true ∧ L.length + e.length ≤ maxLen ∧ (L.length + e.length) * 32 ≤ 140737488355328 := by
   intro e h1 h2
   refine ⟨hm.symm, rfl, hok, h1, ?_, by omega⟩
   show _ ≤ 9223372036854775807
   omega
 have hst : ∀ {x : Val}, l[i.toNat]? = some x → (stand (l.take (i.toNat + 1))).map Val.cells = L ++ (if x.k = 0 then [] else [x.cells]) := by
   intro x hx
   rw [List.take_add_one, hx, Option.toList_some, stand_snoc, List.map_append, hL]
   split <;> rfl
 repeat' (first
   | (with_reducible refine Nm.mk ?_; intro z hz)
   | (with_reducible refine IfB.mk ?_ ?_ <;> (intro h; cases h))
   | (with_reducible refine Two.l ?_; refine Asm.mk ?_ ?_; focus (decide +kernel))
   | (with_reducible refine Two.r ?_)
   | (with_reducible refine TwoT.r ?_)
   | (with_reducible refine TwoU.r ?_)
   | (with_reducible refine Asm.mk ?_ ?_; focus (first | exact hsd rfl (Nat.le_refl _) | (show (_ : Bool) = true; kernel_rfl) | decide))
   | (with_reducible refine Ix.map hC cells_len (by decide) hi0 (hk (by assumption)) ?_; intro x hx)
   | (with_reducible refine Asm.mk2 ?_ ?_)
   | ((fail_if_success (with_reducible first | refine hQ _ ?_ | refine Side.mk ?_ | refine isCP hcp ?_ | refine isCC hcc ?_ | refine isLP hlp ?_ | refine Ix.mk ?_ | refine SIx.mk ?_ | refine SEx.mk ?_ | refine EIx.mk ?_ | refine RIx.mk ?_ | refine LkX.mk ?_ | show False | refine hR ?_ _ ?_ ?_ ?_ ?_ ?_ | refine hR2 ?_ _ ?_ ?_ ?_ ?_ ?_)); cbv))
 · rename_i hiz hk0 zL hzL zm hzm
   obtain ⟨g1, g2, g3, g4, g5⟩ := hgo hiz
   rw [g4] at hz
   subst hz
   refine hR (i + 1, zL, zm) _ ⟨g1, g2, ?_, ?_⟩ g3 ⟨rfl, rfl, trivial⟩ ⟨rfl, rfl, trivial⟩ rfl
   · show (stand (l.take (i + 1).toNat)).map Val.cells = zL
     have hk1 : ¬ x.k = 0 := by simpa using hk0
     rw [g5, hst hx, if_neg hk1]; exact hzL
   · show zL.length = zm
     rw [← hzL, ← hzm, List.length_append]
 · rename_i hiz hk0
   obtain ⟨g1, g2, g3, g4, g5⟩ := hgo hiz
   rw [g4] at hz
   subst hz
   refine hR (i + 1, L, m) _ ⟨g1, g2, ?_, hm⟩ g3 ⟨rfl, rfl, trivial⟩ ⟨rfl, rfl, trivial⟩ rfl
   show (stand (l.take (i + 1).toNat)).map Val.cells = L
   have hk1 : x.k = 0 := by simpa using hk0
   rw [g5, hst hx, if_pos hk1, List.append_nil]
 · refine hQ _ ?_
   rw [hend hz, List.take_length] at hL
   rw [← hL]
end Go.Proofs.Ytcajncmjlmpkgaa

namespace Go.Proofs.Ytcajncmjlmpkgaa
open Go Go.RowKit
set_option maxRecDepth 100000
set_option linter.unusedSimpArgs false
set_option linter.unusedVariables false
theorem loopFr {P : Program} {lp : Code → (Exit → AS → Prop) → AS → Prop} {nt : Nat} (hlp : (fun c Q A => Wp P nt (.loop c) Q A) = lp) {c : Code} {Q : Exit → AS → Prop} {A : AS} (ts : List Operand) (h : lp c (fun e A => frzW ts A (Q e)) A) : lp c Q A := by
 subst hlp
 exact Wp.frzV h fun e A' hq => ⟨ts, hq⟩
def u64c (x : Int) : List PV := [.int .u64 x]
def padB (T : Nat) (b : List UInt8) : List UInt8 := b ++ List.replicate (T - b.length) 0
theorem padB_len {T : Nat} {b : List UInt8} (h : b.length ≤ T) : (padB T b).length = T := by
 rw [padB, List.length_append, List.length_replicate]; omega
theorem padB_full {T : Nat} {b : List UInt8} (h : b.length = T) : padB T b = b := by
 rw [padB, h, Nat.sub_self]; simp
theorem pad_grow {T : Nat} {a : Int} {b : List UInt8} (h : At8 a b) (ht : a / 8 < T) : padB T b = padB T (growB b a) := by
 have hl := growB_len h
 have h0 := h.1
 have h1 := h.2
 by_cases e : a.tmod 8 = 0
 · have hg : growB b a = b ++ [0] := if_pos e
   have e2 : T - b.length = (T - (growB b a).length) + 1 := by
     rw [Int.tmod_eq_emod_of_nonneg h0] at e
     have : (growB b a).length = b.length + 1 := by rw [hg, List.length_append]; rfl
     omega
   rw [padB, e2, padB, List.replicate_succ, hg, List.append_assoc]; rfl
 · have hg : growB b a = b := if_neg e
   rw [hg]
theorem pad_set {T : Nat} {b : List UInt8} {i : Nat} (hi : i < b.length) (m : Int) : setB (padB T b) i m = padB T (setB b i m) := by
 have e : (padB T b).getD i 0 = b.getD i 0 := by
   rw [padB]; simp [List.getD, List.getElem?_append_left hi]
 rw [setB, e, setB, padB, padB, List.length_set, List.set_append_left _ _ hi]
theorem pad_lay {T : Nat} {a : Int} {b : List UInt8} (h : At8 a b) (ht : a / 8 < T) (m : Int) : setB (padB T b) (a / 8).toNat m = padB T (lay1 b a m) := by
 have hl := growB_len h
 have h0 := h.1
 rw [pad_grow h ht, pad_set (by omega), lay1]
set_option maxHeartbeats 400000 in
theorem bits_c (xs : List Int) (C : List (List PV)) (hC : xs.map u64c = C) (hl : xs.length ≤ 4096) (W : Int) (hW : 0 ≤ W ∧ W ≤ 64) : PCall Try.prog 61 [.sl C, .int .i64 W] fun r => r = [.str (toB (bitsB W xs))] := by
 have hCl : (C.length : Int) = xs.length := by rw [← hC, List.length_map]
 have hnW : 0 ≤ (xs.length : Int) * W ∧ (xs.length : Int) * W ≤ 262144 := by
   refine ⟨Int.mul_nonneg (by omega) hW.1, ?_⟩
   have h1 : (xs.length : Int) * W ≤ 4096 * 64 := Int.le_trans (Int.mul_le_mul_of_nonneg_right (by omega) hW.1) (Int.mul_le_mul_of_nonneg_left hW.2 (by decide))
   omega
 obtain ⟨T, hT⟩ : ∃ T : Nat, (((xs.length : Int) * W + 7) / 8).toNat = T := ⟨_, rfl⟩
 have hTz : ∀ {z4 z3 z2 z1 : Int}, (C.length : Int) = z4 → IntKind.i64.wrap (z4 * W) = z3 → IntKind.i64.wrap (z3 + 7) = z2 → IntKind.i64.wrap (z2.tdiv 8) = z1 → 0 ≤ z1 ∧ z1.toNat = T ∧ z1.toNat ≤ 1000000 := by
   intro z4 z3 z2 z1 h4 h3 h2 h1
   rw [hCl] at h4
   subst h4
   rw [wrap_in (by omega)] at h3
   subst h3
   rw [wrap_in (by omega)] at h2
   subst h2
   rw [Int.tdiv_eq_ediv_of_nonneg (by omega), wrap_in (by omega)] at h1
   subst h1
   omega
 have hms : ∀ {z4 z3 z2 z1 : Int}, (C.length : Int) = z4 → IntKind.i64.wrap (z4 * W) = z3 → IntKind.i64.wrap (z3 + 7) = z2 → IntKind.i64.wrap (z2.tdiv 8) = z1 → 0 ≤ z1 ∧ z1 ≤ z1 ∧ z1.toNat * 1 ≤ 140737488355328 ∧ z1.toNat ≤ maxLen := by
   intro z4 z3 z2 z1 h4 h3 h2 h1
   obtain ⟨g1, g2, g3⟩ := hTz h4 h3 h2 h1
   exact ⟨g1, Int.le_refl _, by omega, by show _ ≤ 9223372036854775807; omega⟩
 have hbig0 : ∀ i k : Int, 0 ≤ i → i < xs.length → 0 ≤ k → k < W → (W * i + k) / 8 < (T : Int) ∧ W * i + k ≤ 262144 := by
   intro i k h0 h1 hk0 hk1
   have h3 : W * (i + 1) ≤ W * xs.length := Int.mul_le_mul_of_nonneg_left (by omega) hW.1
   rw [Int.mul_add, Int.mul_one, Int.mul_comm W (xs.length : Int)] at h3
   omega
 have hTle : ∀ i : Int, i ≤ xs.length → (W * i + 7) / 8 ≤ (T : Int) := by
   intro i h1
   have h2 : W * i ≤ W * xs.length := Int.mul_le_mul_of_nonneg_left h1 hW.1
   rw [Int.mul_comm W (xs.length : Int)] at h2
   omega
 have hTe : (W * xs.length + 7) / 8 = (T : Int) := by
   rw [Int.mul_comm W (xs.length : Int)]; omega
 refine PCall.x (nt := 52) (res := [.tmp 4]) mixed tt_ok [(999996, [16])] Try.func61 rfl rfl rfl c61 (Nat.le_of_ble_eq_true rfl) ?_
 intro cp cc lp Q' hcp hcc hlp hQ
 repeat' (first
   | (with_reducible refine Nm.mk ?_; intro z hz)
   | (with_reducible refine IfB.mk ?_ ?_ <;> (intro h; cases h))
   | (with_reducible refine Two.l ?_; refine Asm.mk ?_ ?_; focus (decide +kernel))
   | (with_reducible refine Two.r ?_)
   | (with_reducible refine TwoT.r ?_)
   | (with_reducible refine TwoU.r ?_)
   | (with_reducible refine Asm.mk ?_ ?_; focus (first | exact hms (by assumption) (by assumption) (by assumption) (by assumption) | (show (_ : Bool) = true; kernel_rfl) | decide))
   | (with_reducible refine Asm.mk2 ?_ ?_)
   | ((fail_if_success (with_reducible first | refine hQ _ ?_ | refine Side.mk ?_ | refine isCP hcp ?_ | refine isCC hcc ?_ | refine isLP hlp ?_ | refine Ix.mk ?_ | refine SIx.mk ?_ | refine SEx.mk ?_ | refine EIx.mk ?_ | refine RIx.mk ?_ | refine LkX.mk ?_ | show False | refine hR ?_ _ ?_ ?_ ?_ ?_ ?_ | refine hR2 ?_ _ ?_ ?_ ?_ ?_ ?_)); cbv))
 rename_i zc hzc zw hzw z7 hz7 z8 hz8 zm hzm Z hZ
 have hzl : z = (xs.length : Int) := by rw [← hz]; exact hCl
 have hT3 := hTz hzc hzw hz7 hz8
 have hmT : zm = T := by rw [← hzm]; exact hT3.2.1
 have hZ0 : bl (padB T []) = Z := by
   rw [← hZ, hmT, padB, List.nil_append, List.length_nil, Nat.sub_zero]
   exact List.map_replicate
 clear hz hzc hzw hz7 hz8 hzm hZ hTz hms
 subst hmT
 refine loopFr hlp [.tmp 5] ?_
 refine loopTz [(999996, [16])] (ι := Int × List (List PV)) mixed tt_ok hcp hcc hlp [1, 5, 17, 18] (fun p => [(19, .p (.int .i64 p.1))]) (fun p => [.vec 0 p.2 1]) (fun p => 0 ≤ p.1 ∧ p.1 ≤ xs.length ∧ bl (padB zm (bitsB W (xs.take p.1.toNat))) = p.2) (fun p => (xs.length - p.1).toNat) (0, Z) 1 (fun _ => rfl) ⟨Int.le_refl _, by show (0 : Int) ≤ _; omega, hZ0⟩ ⟨rfl, trivial⟩ rfl ?_
 rintro R ⟨i, Z⟩ ⟨hi0, hi1, hZ⟩ hR
 replace hi0 : 0 ≤ i := hi0
 replace hi1 : i ≤ xs.length := hi1
 replace hZ : bl (padB zm (bitsB W (xs.take i.toNat))) = Z := hZ
 obtain ⟨b, hb⟩ : ∃ b, bitsB W (xs.take i.toNat) = b := ⟨_, rfl⟩
 have hA : At8 (W * i) b := by
   have := bitsB_at (W := W) hW.1 (xs.take i.toNat)
   rw [hb, List.length_take, show ((min i.toNat xs.length : Nat) : Int) = i by omega] at this
   exact this
 rw [hb] at hZ
 have hZl : Z.length = zm := by
   have h1 := hA.2
   have h2 := hTle i hi1
   have h3 : (b.length : Int) ≤ zm := by rw [h1]; exact h2
   rw [← hZ, List.length_map]; exact padB_len (Int.ofNat_le.1 h3)
 have hZs : 0 + zm ≤ Z.length := by omega
 have hfz : ∀ {l : List (List PV)}, List.take zm (List.drop 0 Z) = l → l = Z := by
   rintro l rfl; rw [List.drop_zero, ← hZl, List.take_length]
 have hU8 : ∀ {l : List (List PV)}, List.take zm (List.drop 0 Z) = l → isU8s l = true := by
   intro l h; rw [hfz h, ← hZ]; exact isU8s_bytes _
 have hk : decide (i < z) = true → i < xs.length := fun h => by have := of_decide_eq_true h; omega
 have hgo : decide (i < z) = true → 0 ≤ i + 1 ∧ i + 1 ≤ xs.length ∧ (xs.length - (i + 1)).toNat < (xs.length - i).toNat ∧ IntKind.i64.wrap (i + 1) = i + 1 ∧ (i + 1).toNat = i.toNat + 1 ∧ ((i.toNat : Nat) : Int) = i := by
   intro h
   have := of_decide_eq_true h
   exact ⟨by omega, by omega, by omega, wrap_in (by omega), by omega, by omega⟩
 have hbig : decide (i < z) = true → ∀ k : Int, 0 ≤ k → k < W → (W * i + k) / 8 < (zm : Int) ∧ W * i + k ≤ 262144 := by
   intro h k h0 h2
   exact hbig0 i k hi0 (hk h) h0 h2
 have hend : decide (i < z) = false → i.toNat = xs.length := by
   intro h
   have := of_decide_eq_false h
   omega
 repeat' (first
   | (with_reducible refine Nm.mk ?_; intro z hz)
   | (with_reducible refine IfB.mk ?_ ?_ <;> (intro h; cases h))
   | (with_reducible refine Two.l ?_; refine Asm.mk ?_ ?_; focus (decide +kernel))
   | (with_reducible refine Two.r ?_)
   | (with_reducible refine TwoT.r ?_)
   | (with_reducible refine TwoU.r ?_)
   | (with_reducible refine Asm.mk ?_ ?_; focus (first | exact hU8 (by assumption) | exact ⟨rfl, hZs⟩ | (show (_ : Bool) = true; kernel_rfl) | decide))
   | (with_reducible refine Ix.map hC (fun _ => rfl) (by decide) hi0 (hk (by assumption)) ?_; intro x hx)
   | (with_reducible refine Asm.mk2 ?_ ?_)
   | ((fail_if_success (with_reducible first | refine hQ _ ?_ | refine Side.mk ?_ | refine isCP hcp ?_ | refine isCC hcc ?_ | refine isLP hlp ?_ | refine Ix.mk ?_ | refine SIx.mk ?_ | refine SEx.mk ?_ | refine EIx.mk ?_ | refine RIx.mk ?_ | refine LkX.mk ?_ | show False | refine hR ?_ _ ?_ ?_ ?_ ?_ ?_ | refine hR2 ?_ _ ?_ ?_ ?_ ?_ ?_)); cbv))
 · have hiz := hgo (by assumption)
   have hbk2 := hbig (by assumption)
   refine loopTz [(999996, [16])] (ι := Int × List (List PV)) mixed tt_ok hcp hcc hlp [1, 5, 6, 7, 17, 18, 19] (fun p => [(8, .p (.int .i64 p.1))]) (fun p => [.vec 0 p.2 1]) (fun p => 0 ≤ p.1 ∧ p.1 ≤ W ∧ bl (padB zm (layN x (W * i) b p.1.toNat)) = p.2) (fun p => (W - p.1).toNat) (0, Z) 1 (fun _ => rfl) ⟨Int.le_refl _, hW.1, hZ⟩ ⟨rfl, trivial⟩ rfl ?_
   rintro R2 ⟨k, Z⟩ ⟨hk0, hk1, hZ⟩ hR2
   replace hk0 : 0 ≤ k := hk0
   replace hk1 : k ≤ W := hk1
   replace hZ : bl (padB zm (layN x (W * i) b k.toNat)) = Z := hZ
   obtain ⟨a, ha⟩ : ∃ a, W * i + k = a := ⟨_, rfl⟩
   obtain ⟨bk, hbk⟩ : ∃ bk, layN x (W * i) b k.toNat = bk := ⟨_, rfl⟩
   rw [hbk] at hZ
   have hAk : At8 a bk := by
     have := layN_at (x := x) hA k.toNat
     rw [show ((k.toNat : Nat) : Int) = k by omega, ha, hbk] at this
     exact this
   have ha0 := hAk.1
   have hnext : layN x (W * i) b (k.toNat + 1) = lay1 bk a (bitU x k (a.tmod 8)) := by
     rw [layN, hbk, show ((k.toNat : Nat) : Int) = k by omega, ha]
   have hiW : i * W = W * i := Int.mul_comm _ _
   have hWi : 0 ≤ W * i := hA.1
   have hlt : decide (k < W) = true → a / 8 < (zm : Int) ∧ a ≤ 262144 := by
     intro h
     have h1 := hbk2 k hk0 (of_decide_eq_true h)
     rw [ha] at h1
     exact h1
   have hplace : ∀ {z10 z9 : Int}, decide (k < W) = true → IntKind.i64.wrap (i * W) = z10 → IntKind.i64.wrap (z10 + k) = z9 → z9 = a := by
     intro z10 z9 h h10 h9
     have h1 := (hlt h).2
     rw [hiW, wrap_in (by omega)] at h10
     subst h10
     rw [ha, wrap_in (by omega)] at h9
     exact h9.symm
   have hq : ∀ {z9 z8 : Int}, decide (k < W) = true → z9 = a → IntKind.i64.wrap (z9.tdiv 8) = z8 → z8 = a / 8 ∧ 0 ≤ z8 ∧ z8 < zm := by
     rintro z9 z8 h rfl h8
     have h1 := hlt h
     rw [Int.tdiv_eq_ediv_of_nonneg ha0, wrap_in (by omega)] at h8
     subst h8
     exact ⟨rfl, by omega, h1.1⟩
   have hix : ∀ {z10 z9 z8 : Int}, IntKind.i64.wrap (z9.tdiv 8) = z8 → IntKind.i64.wrap (z10 + k) = z9 → IntKind.i64.wrap (i * W) = z10 → decide (k < W) = true → 0 ≤ z8 ∧ z8 < zm := fun h8 h9 h10 h => (hq h (hplace h h10 h9) h8).2
   have hoff : ∀ {z10 z9 z8 : Int} {o : Nat}, (0 + z8.toNat) * 1 = o → IntKind.i64.wrap (z9.tdiv 8) = z8 → IntKind.i64.wrap (z10 + k) = z9 → IntKind.i64.wrap (i * W) = z10 → decide (k < W) = true → (a / 8).toNat * 1 = o := by
     intro z10 z9 z8 o ho h8 h9 h10 h
     have := (hq h (hplace h h10 h9) h8).1
     rw [this] at ho; omega
   have hmod : ∀ {z10 z9 z : Int}, z9.tmod 8 = z → IntKind.i64.wrap (z10 + k) = z9 → IntKind.i64.wrap (i * W) = z10 → decide (k < W) = true → ¬ z < 0 := by
     intro z10 z9 z h1 h9 h10 h
     have := hplace h h10 h9
     subst this
     rw [Int.tmod_eq_emod_of_nonneg ha0] at h1; omega
   have hk0n : ¬ k < 0 := by omega
   obtain ⟨G, hG⟩ : ∃ G, padB zm bk = G := ⟨_, rfl⟩
   obtain ⟨c, hc⟩ : ∃ c, G.getD (a / 8).toNat 0 = c := ⟨_, rfl⟩
   have hGl : decide (k < W) = true → G.length = zm := by
     intro h
     have h1 := hlt h
     have h2 := hAk.2
     have h3 : (bk.length : Int) ≤ zm := by omega
     rw [← hG]; exact padB_len (by omega)
   have hpl := fun h : a / 8 < (zm : Int) => pad_lay hAk h (bitU x k (a.tmod 8))
   rw [hG] at hZ hpl
   have hZc : decide (k < W) = true → Z[(a / 8).toNat]? = some [.int .u8 (c.toNat : Int)] ∧ (a / 8).toNat < Z.length := by
     intro h
     have h1 := hlt h
     have h2 := hGl h
     have h3 : (a / 8).toNat < G.length := by omega
     refine ⟨?_, by rw [← hZ, List.length_map]; exact h3⟩
     rw [← hZ, List.getElem?_map, ← hc]; simp [List.getD, h3, byteC]
   have hset : ∀ {z10 z9 z7 z6 z5 z4 z3 z2 : Int} {L2 : List (List PV)}, decide (k < W) = true → IntKind.i64.wrap (i * W) = z10 → IntKind.i64.wrap (z10 + k) = z9 → x.fdiv (2 ^ min k.toNat IntKind.u64.bits) = z7 → IntKind.u64.wrap ((BitVec.ofInt IntKind.u64.bits z7 &&& BitVec.ofInt IntKind.u64.bits 1).toNat : Int) = z6 → IntKind.u8.wrap z6 = z5 → z9.tmod 8 = z4 → IntKind.u8.wrap (z5 * 2 ^ min z4.toNat IntKind.u8.bits) = z3 → IntKind.u8.wrap ((BitVec.ofInt IntKind.u8.bits (c.toNat : Int) ||| BitVec.ofInt IntKind.u8.bits z3).toNat : Int) = z2 → Z.set (a / 8).toNat [PV.int .u8 z2] = L2 → bl (padB zm (layN x (W * i) b (k.toNat + 1))) = L2 := by
     intro z10 z9 z7 z6 z5 z4 z3 z2 L2 h h10 h9 h7 h6 h5 h4 h3 h2 hL2
     have e9 := hplace h h10 h9
     rw [e9] at h4
     subst h7 h6 h5 h4 h3 h2 hL2 hZ
     rw [hnext, ← hpl (hlt h).1, setB, hc]
     exact List.map_set.trans (by rw [← orB_c]; rfl)
   have hgo2 : decide (k < W) = true → 0 ≤ k + 1 ∧ k + 1 ≤ W ∧ (W - (k + 1)).toNat < (W - k).toNat ∧ IntKind.i64.wrap (k + 1) = k + 1 ∧ (k + 1).toNat = k.toNat + 1 := by
     intro h
     have := of_decide_eq_true h
     exact ⟨by omega, by omega, by omega, wrap_in (by omega), by omega⟩
   have hend2 : decide (k < W) = false → k.toNat = W.toNat := by
     intro h
     have := of_decide_eq_false h
     omega
   have hout : decide (k < W) = false → bl (padB zm (bitsB W (xs.take (i + 1).toNat))) = Z := by
     intro h
     have h1 := bitsB_succ (W := W) (f := fun v : Int => v) hx
     rw [List.map_id', List.map_id', hb, show ((i.toNat : Nat) : Int) = i by omega] at h1
     rw [hiz.2.2.2.2.1, h1, ← hend2 h, hbk, hG]; exact hZ
   clear ha hbk hG hc hAk
   repeat' (first
     | (with_reducible refine Nm.mk ?_; intro z hz)
     | (with_reducible refine IfB.mk ?_ ?_ <;> (intro h; cases h))
     | (with_reducible refine Two.l ?_; refine Asm.mk ?_ ?_; focus (decide +kernel))
     | (with_reducible refine Two.r ?_)
     | (with_reducible refine TwoT.r ?_)
     | (with_reducible refine TwoU.r ?_)
     | (with_reducible refine Asm.mk ?_ ?_; focus (first | (show (_ : Bool) = true; kernel_rfl) | rfl | decide | exact hk0n | exact hix (by assumption) (by assumption) (by assumption) (by assumption) | exact hmod (by assumption) (by assumption) (by assumption) (by assumption)))
     | (with_reducible refine EIx.at_ (a / 8).toNat [.int .u8 (c.toNat : Int)] (hoff (by assumption) (by assumption) (by assumption) (by assumption) (by assumption)) (hZc (by assumption)).1 ?_)
     | (with_reducible refine SEx.at_ (a / 8).toNat (hoff (by assumption) (by assumption) (by assumption) (by assumption) (by assumption)) (hZc (by assumption)).2 rfl ?_; intro L2 hL2)
     | (with_reducible refine Asm.mk2 ?_ ?_)
     | ((fail_if_success (with_reducible first | refine hQ _ ?_ | refine Side.mk ?_ | refine isCP hcp ?_ | refine isCC hcc ?_ | refine isLP hlp ?_ | refine Ix.mk ?_ | refine SIx.mk ?_ | refine SEx.mk ?_ | refine EIx.mk ?_ | refine RIx.mk ?_ | refine LkX.mk ?_ | show False | refine hR ?_ _ ?_ ?_ ?_ ?_ ?_ | refine hR2 ?_ _ ?_ ?_ ?_ ?_ ?_)); cbv))
   · rename_i hkW z10 h10 z9 h9 z8 h8 zo ho z7 h7 z6 h6 z5 h5 z4 h4 z3 h3 z2 h2 zo2 ho2
     obtain ⟨g1, g2, g3, g4, g5⟩ := hgo2 hkW
     rw [g4] at hz
     subst hz
     refine hR2 (k + 1, L2) _ ⟨g1, g2, ?_⟩ g3 ⟨rfl, trivial⟩ ⟨rfl, rfl, rfl, rfl, rfl, rfl, rfl, trivial⟩ rfl
     show bl (padB zm (layN x (W * i) b (k + 1).toNat)) = L2
     rw [g5]
     exact hset hkW h10 h9 h7 h6 h5 h4 h3 h2 hL2
   · rename_i hkW
     obtain ⟨g1, g2, g3, g4, g5, g6⟩ := hiz
     rw [g4] at hz
     subst hz
     exact hR (i + 1, Z) _ ⟨g1, g2, hout hkW⟩ g3 ⟨rfl, trivial⟩ ⟨rfl, rfl, rfl, rfl, trivial⟩ rfl
 · rename_i hiz zl hzl2
   refine hQ _ ?_
   have e := hend hiz
   rw [e, List.take_length] at hb
   have h1 := bitsB_at (W := W) hW.1 xs
   have hbl : b.length = zm := by
     have h2 := h1.2
     rw [hb, hTe] at h2
     exact Int.ofNat.inj h2
   rw [← hz, hfz hzl2, ← hZ, padB_full hbl, strOf_bytes, hb]
end Go.Proofs.Ytcajncmjlmpkgaa

namespace Go.Proofs.Ytcajncmjlmpkgaa
open Go Go.RowKit
set_option maxRecDepth 100000
set_option linter.unusedSimpArgs false
set_option linter.unusedVariables false
def lookH (U : List (List PV)) (x : Val) : List AObj := [.cells [.p (.sl U)], .cells [.p (.int .i64 x.k), .p (.int .i64 x.n), .p (.str x.s)]]
theorem ask_c (u : List Val) (U : List (List PV)) (hU : u.map Val.cells = U) (x y : Val) (i : Int) (h0 : 0 ≤ i) (hy : u[i.toNat]? = some y) :
   ACall Try.prog 65 [.p (.int .i64 i), .ref 0 0, .ref 1 0] (lookH U x) fun r H' => r = .p (.bool (decide (0 ≤ orderV y x))) ∧ takeX H' 2 = lookH U x := by
 have hlt : i < u.length := by
   have := (List.getElem?_eq_some_iff.1 hy).1
   omega
 refine ACall.x (nt := 12) (res := [.tmp 4]) mixed tt_ok [] Try.func65 rfl rfl rfl c65 (Nat.le_of_ble_eq_true rfl) ?_
 intro cp cc lp Q' hcp hcc hlp hQ
 repeat' (first
   | (with_reducible refine Nm.mk ?_; intro z hz)
   | (with_reducible refine IfB.mk ?_ ?_ <;> (intro h; cases h))
   | (with_reducible refine Two.l ?_; refine Asm.mk ?_ ?_; focus (decide +kernel))
   | (with_reducible refine Two.r ?_)
   | (with_reducible refine TwoT.r ?_)
   | (with_reducible refine TwoU.r ?_)
   | (with_reducible refine Asm.mk ?_ ?_; focus (first | (show (_ : Bool) = true; kernel_rfl) | decide))
   | (with_reducible refine isCP hcp ?_; first | (refine iP hcp (rorder_o _ _ _ _ _ _) ?_; intro z hz))
   | (with_reducible refine isCC hcc ?_; first | (refine iA hcc (rorder_o _ _ _ _ _ _) rfl ?_; intro z hz))
   | (with_reducible refine Ix.map hU cells_len (by decide) h0 hlt ?_; intro y2 hy2)
   | (with_reducible refine Asm.mk2 ?_ ?_)
   | ((fail_if_success (with_reducible first | refine hQ _ _ ?_ | refine Side.mk ?_ | refine isCP hcp ?_ | refine isCC hcc ?_ | refine isLP hlp ?_ | refine Ix.mk ?_ | refine SIx.mk ?_ | refine SEx.mk ?_ | refine EIx.mk ?_ | refine RIx.mk ?_ | refine LkX.mk ?_ | show False | refine hR ?_ _ ?_ ?_ ?_ ?_ ?_ | refine hR2 ?_ _ ?_ ?_ ?_ ?_ ?_)); cbv))
 have e : y2 = y := by rw [hy] at hy2; exact (Option.some.inj hy2).symm
 subst e
 rename_i o ho
 refine hQ _ _ ⟨?_, rfl⟩
 rw [← hz, ← ho]; rfl
theorem askCC {cc : FuncId → List AV → List AObj → (AV → List AObj → Prop) → Prop} (hcc : ACall Try.prog = cc) {u : List Val} {U : List (List PV)} (hU : u.map Val.cells = U) (x : Val) {i : Int} {y : Val} {args : List AV} {K : AV → List AObj → Prop} (ha : args = [.p (.int .i64 i), .ref 0 0, .ref 1 0]) (h0 : 0 ≤ i) (hy : u[i.toNat]? = some y)
   (k : ∀ b, decide (0 ≤ orderV y x) = b → K (.p (.bool b)) (lookH U x)) : cc 65 args (lookH U x) K := by
 subst ha
 exact frameT (H1 := lookH U x) hcc [0, 1] (ask_c u U hU x y i h0 hy) rfl rfl rfl rfl rfl (k _ rfl)
set_option maxHeartbeats 400000 in
theorem look_c (u : List Val) (U : List (List PV)) (hU : u.map Val.cells = U) (hu : Rise u) (hl : u.length ≤ 1000000) (x : Val) (p : Nat) (hp : u[p]? = some x) (n : Int) (hn : n = u.length) :
   ACall Try.prog 64 [.p (.int .i64 n), .fn 65 [.ref 0 0, .ref 1 0]] (lookH U x) fun r H' => r = .p (.int .i64 (p : Int)) ∧ takeX H' 2 = lookH U x := by
 have hpl0 := (List.getElem?_eq_some_iff.1 hp).1
 have hn1 : (p : Int) ≤ n := by omega
 have hn2 : n ≤ (u.length : Int) := by omega
 refine ACall.x (nt := 26) (res := [.tmp 4]) mixed tt_ok [] Try.func64 rfl rfl rfl c64 (Nat.le_of_ble_eq_true rfl) ?_
 intro cp cc lp Q' hcp hcc hlp hQ
 repeat' (first
   | (with_reducible refine Nm.mk ?_; intro z hz)
   | (with_reducible refine IfB.mk ?_ ?_ <;> (intro h; cases h))
   | (with_reducible refine Two.l ?_; refine Asm.mk ?_ ?_; focus (decide +kernel))
   | (with_reducible refine Two.r ?_)
   | (with_reducible refine TwoT.r ?_)
   | (with_reducible refine TwoU.r ?_)
   | (with_reducible refine Asm.mk ?_ ?_; focus (first | (show (_ : Bool) = true; kernel_rfl) | decide))
   | (with_reducible refine Asm.mk2 ?_ ?_)
   | ((fail_if_success (with_reducible first | refine hQ _ _ ?_ | refine Side.mk ?_ | refine isCP hcp ?_ | refine isCC hcc ?_ | refine isLP hlp ?_ | refine Ix.mk ?_ | refine SIx.mk ?_ | refine SEx.mk ?_ | refine EIx.mk ?_ | refine RIx.mk ?_ | refine LkX.mk ?_ | show False | refine hR ?_ _ ?_ ?_ ?_ ?_ ?_ | refine hR2 ?_ _ ?_ ?_ ?_ ?_ ?_)); cbv))
 have hpl := (List.getElem?_eq_some_iff.1 hp).1
 obtain ⟨z, hzl⟩ : ∃ z : Int, z = (u.length : Int) := ⟨_, rfl⟩
 refine loopT (ι := Int × Int) mixed tt_ok hcp hcc hlp [1] (fun q => [(5, .p (.int .i64 q.1)), (6, .p (.int .i64 q.2))]) (fun _ => lookH U x) (fun q => 0 ≤ q.1 ∧ q.1 ≤ p ∧ p ≤ q.2 ∧ q.2 ≤ u.length) (fun q => (q.2 - q.1).toNat) (0, n) 2 (fun _ => rfl) ⟨Int.le_refl _, by show (0 : Int) ≤ p; omega, hn1, hn2⟩ ⟨rfl, rfl, trivial⟩ rfl ?_
 rintro R ⟨i, j⟩ ⟨h1, h2, h3, h4⟩ hR
 replace h1 : 0 ≤ i := h1
 replace h2 : i ≤ p := h2
 replace h3 : p ≤ j := h3
 replace h4 : j ≤ u.length := h4
 have hmid : ∀ {a b c d : Int}, IntKind.i64.wrap d = c → b.fdiv (2 ^ min (Int.toNat 1) IntKind.u64.bits) = d → IntKind.u64.wrap a = b → IntKind.i64.wrap (i + j) = a → c = (i + j) / 2 := by
   intro a b c d e1 e2 e3 e4
   rw [wrap_in (by omega)] at e4
   have e5 : IntKind.u64.wrap a = a := by
     simp [IntKind.wrap, IntKind.bits, IntKind.signed]; omega
   rw [e5] at e3
   subst e3 e4
   rw [Int.fdiv_eq_ediv_of_nonneg _ (by decide)] at e2
   have e6 : (2 : Int) ^ min (Int.toNat 1) IntKind.u64.bits = 2 := by decide
   rw [e6] at e2
   rw [← e1, ← e2, wrap_in (by omega)]
 have hh : decide (i < j) = true → 0 ≤ (i + j) / 2 ∧ (i + j) / 2 < u.length := by
   intro h
   have := of_decide_eq_true h
   omega
 have hA : ∀ {a b c d : Int}, IntKind.i64.wrap d = c → b.fdiv (2 ^ min (Int.toNat 1) IntKind.u64.bits) = d → IntKind.u64.wrap a = b → IntKind.i64.wrap (i + j) = a → decide (i < j) = true → 0 ≤ c := fun e1 e2 e3 e4 h => by rw [hmid e1 e2 e3 e4]; exact (hh h).1
 have hB : ∀ {a b c d : Int}, IntKind.i64.wrap d = c → b.fdiv (2 ^ min (Int.toNat 1) IntKind.u64.bits) = d → IntKind.u64.wrap a = b → IntKind.i64.wrap (i + j) = a → decide (i < j) = true → c < u.length := fun e1 e2 e3 e4 h => by rw [hmid e1 e2 e3 e4]; exact (hh h).2
 have hiu : decide (i < z) = true → i < u.length := fun h => by have := of_decide_eq_true h; omega
 have hlow : ∀ {m : Nat} {y : Val}, u[m]? = some y → orderV y x < 0 → m < p := by
   intro m y hy h
   rcases Nat.lt_or_ge m p with h5 | h5
   · exact h5
   · exfalso
     rcases Nat.eq_or_lt_of_le h5 with h6 | h6
     · subst h6; rw [hp] at hy; rw [← Option.some.inj hy, order_self] at h; omega
     · have hml := (List.getElem?_eq_some_iff.1 hy)
       have hpe := (List.getElem?_eq_some_iff.1 hp)
       have := (List.pairwise_iff_getElem.1 hu) p m hpl hml.1 h6
       rw [hml.2, hpe.2, order_swap] at this
       omega
 have hhigh : ∀ {m : Nat} {y : Val}, u[m]? = some y → ¬ orderV y x < 0 → p ≤ m := by
   intro m y hy h
   rcases Nat.lt_or_ge m p with h5 | h5
   · exfalso
     have hml := (List.getElem?_eq_some_iff.1 hy)
     have hpe := (List.getElem?_eq_some_iff.1 hp)
     have := (List.pairwise_iff_getElem.1 hu) m p hml.1 hpl h5
     rw [hml.2, hpe.2] at this
     exact h this
   · exact h5
 have hup : ∀ {a b c d w : Int} {y : Val}, IntKind.i64.wrap d = c → b.fdiv (2 ^ min (Int.toNat 1) IntKind.u64.bits) = d → IntKind.u64.wrap a = b → IntKind.i64.wrap (i + j) = a → decide (i < j) = true → u[c.toNat]? = some y → orderV y x < 0 → IntKind.i64.wrap (c + 1) = w → (0 ≤ w ∧ w ≤ p ∧ p ≤ j ∧ j ≤ u.length) ∧ (j - w).toNat < (j - i).toNat := by
   intro a b c d w y e1 e2 e3 e4 h hy ho hw
   have e := hmid e1 e2 e3 e4
   have h5 := hlow hy ho
   have h6 := of_decide_eq_true h
   rw [wrap_in (by omega)] at hw
   subst hw
   refine ⟨⟨by omega, by omega, h3, h4⟩, by omega⟩
 have hdn : ∀ {a b c d : Int} {y : Val}, IntKind.i64.wrap d = c → b.fdiv (2 ^ min (Int.toNat 1) IntKind.u64.bits) = d → IntKind.u64.wrap a = b → IntKind.i64.wrap (i + j) = a → decide (i < j) = true → u[c.toNat]? = some y → ¬ orderV y x < 0 → (0 ≤ i ∧ i ≤ p ∧ p ≤ c ∧ c ≤ u.length) ∧ (c - i).toNat < (j - i).toNat := by
   intro a b c d y e1 e2 e3 e4 h hy ho
   have e := hmid e1 e2 e3 e4
   have h5 := hhigh hy ho
   have h6 := of_decide_eq_true h
   refine ⟨⟨h1, h2, by omega, by omega⟩, by omega⟩
 have hfin : decide (i < j) = false → i = (p : Int) := by
   intro h
   have := of_decide_eq_false h
   omega
 have hfin2 : decide (i < z) = false → decide (i < j) = false → False := by
   intro h h'
   have := of_decide_eq_false h
   have := of_decide_eq_false h'
   omega
 have hat : ∀ {a b c d : Int}, IntKind.i64.wrap d = c → b.fdiv (2 ^ min (Int.toNat 1) IntKind.u64.bits) = d → IntKind.u64.wrap a = b → IntKind.i64.wrap (i + j) = a → decide (i < j) = true → ∃ y, u[c.toNat]? = some y := by
   intro a b c d e1 e2 e3 e4 h
   have g1 := hA e1 e2 e3 e4 h
   have g2 := hB e1 e2 e3 e4 h
   exact ⟨_, List.getElem?_eq_getElem (show c.toNat < u.length by omega)⟩
 repeat' (first
   | (with_reducible refine Nm.mk ?_; intro z hz)
   | (with_reducible refine IfB.mk ?_ ?_ <;> (intro h; cases h))
   | (with_reducible refine Two.l ?_; refine Asm.mk ?_ ?_; focus (decide +kernel))
   | (with_reducible refine Two.r ?_)
   | (with_reducible refine TwoT.r ?_)
   | (with_reducible refine TwoU.r ?_)
   | (with_reducible refine Asm.mk ?_ ?_; focus (first | (show (_ : Bool) = true; kernel_rfl) | decide))
   | (with_reducible refine Asm.mk2 ?_ ?_)
   | ((fail_if_success (with_reducible first | refine hQ _ _ ?_ | refine Side.mk ?_ | refine isCP hcp ?_ | refine isCC hcc ?_ | refine isLP hlp ?_ | refine Ix.mk ?_ | refine SIx.mk ?_ | refine SEx.mk ?_ | refine EIx.mk ?_ | refine RIx.mk ?_ | refine LkX.mk ?_ | show False | refine hR ?_ _ ?_ ?_ ?_ ?_ ?_ | refine hR2 ?_ _ ?_ ?_ ?_ ?_ ?_)); cbv))
 · rename_i hij a e4 b e3 d e2
   have e1 := hz
   obtain ⟨y, hy⟩ := hat e1 e2 e3 e4 hij
   refine askCC hcc hU x rfl (hA e1 e2 e3 e4 hij) hy ?_
   intro t ht
   repeat' (first
     | (with_reducible refine Nm.mk ?_; intro z hz)
     | (with_reducible refine IfB.mk ?_ ?_ <;> (intro h; cases h))
     | (with_reducible refine Two.l ?_; refine Asm.mk ?_ ?_; focus (decide +kernel))
     | (with_reducible refine Two.r ?_)
     | (with_reducible refine TwoT.r ?_)
     | (with_reducible refine TwoU.r ?_)
     | (with_reducible refine Asm.mk ?_ ?_; focus (first | (show (_ : Bool) = true; kernel_rfl) | decide))
     | (with_reducible refine Asm.mk2 ?_ ?_)
     | ((fail_if_success (with_reducible first | refine hQ _ _ ?_ | refine Side.mk ?_ | refine isCP hcp ?_ | refine isCC hcc ?_ | refine isLP hlp ?_ | refine Ix.mk ?_ | refine SIx.mk ?_ | refine SEx.mk ?_ | refine EIx.mk ?_ | refine RIx.mk ?_ | refine LkX.mk ?_ | show False | refine hR ?_ _ ?_ ?_ ?_ ?_ ?_ | refine hR2 ?_ _ ?_ ?_ ?_ ?_ ?_)); cbv))
   · rename_i hneg
     have ho2 : orderV y x < 0 := by
       rw [← ht] at hneg
       simpa using hneg
     obtain ⟨g1, g2⟩ := hup e1 e2 e3 e4 hij hy ho2 hz
     exact hR (z, j) _ g1 g2 ⟨rfl, rfl, trivial⟩ ⟨rfl, trivial⟩ rfl
   · have ho2 : ¬ orderV y x < 0 := by
       rw [← ht] at hz
       have : 0 ≤ orderV y x := by simpa using hz
       omega
     obtain ⟨g1, g2⟩ := hdn e1 e2 e3 e4 hij hy ho2
     exact hR (i, _) _ g1 g2 ⟨rfl, rfl, trivial⟩ ⟨rfl, trivial⟩ rfl
 · have e := hfin hz
   refine hQ _ _ ⟨?_, rfl⟩
   rw [e]; rfl
theorem lookCC {cc : FuncId → List AV → List AObj → (AV → List AObj → Prop) → Prop} (hcc : ACall Try.prog = cc) (i0 i1 : Nat) (hi : i0 ≠ i1) {u : List Val} {U : List (List PV)} (hU : u.map Val.cells = U) (hu : Rise u) (hl : u.length ≤ 1000000) {x : Val} {p : Nat} (hp : u[p]? = some x) {n : Int} (hn : n = u.length) {H : List AObj} {args : List AV} {K : AV → List AObj → Prop}
   (ha : args = [.p (.int .i64 n), .fn 65 [.ref i0 0, .ref i1 0]]) (hH0 : nth H i0 = some (.cells [.p (.sl U)])) (hH1 : nth H i1 = some (.cells [.p (.int .i64 x.k), .p (.int .i64 x.n), .p (.str x.s)]))
   (k : ∀ q : Int, (p : Int) = q → K (.p (.int .i64 q)) (setX (setX H i0 (.cells [.p (.sl U)])) i1 (.cells [.p (.int .i64 x.k), .p (.int .i64 x.n), .p (.str x.s)]))) : cc 64 args H K := by
 subst ha
 refine frameT (H1 := lookH U x) hcc [i0, i1] (look_c u U hU hu hl x p hp n hn) (by simp [onceX, idxX, Ne.symm hi]) rfl rfl ?_ rfl (k _ rfl)
 simp only [optL, hH0, hH1]; rfl
end Go.Proofs.Ytcajncmjlmpkgaa

namespace Go.Proofs.Ytcajncmjlmpkgaa
open Go Go.RowKit
set_option maxRecDepth 100000
set_option linter.unusedSimpArgs false
set_option linter.unusedVariables false
theorem values_clean (v : Vec) : Clean (valuesM v) := fun x hx => (values_ok hx).1
set_option maxHeartbeats 400000 in
theorem rwriteE_c (k a : Int) (B : List Bool) (N : List Int) (S : List ByteArray) (n1 n2 n3 : List (List PV)) (h1 : B.map boolc = n1) (h2 : N.map i64c = n2) (h3 : S.map strc = n3) (hsz : B.length ≤ 1048577) (hE : badW k ⟨a, B, N, S⟩ = true ∨ 4096 < B.length) :
   PCall Try.prog 28 [.agg [.int .i64 a, .sl n1, .sl n2, .sl n3], .int .i64 k] fun r => r = [.str ⟨⟨[]⟩⟩, .int .i64 (errW k ⟨a, B, N, S⟩)] := by
 obtain ⟨gd, hgd⟩ : ∃ gd, goodV ⟨a, B, N, S⟩ = gd := ⟨_, rfl⟩
 have hgc := rgood_c a B N S n1 n2 n3 h1 h2 h3
 have hvc := rvalues_c a B N S n1 n2 n3 h1 h2 h3 hsz
 have hvl : gd = true → (valuesM ⟨a, B, N, S⟩).length = B.length := by
   intro h; rw [h] at hgd; unfold valuesM; rw [if_pos hgd]; simp
 have hvc0 := values_clean ⟨a, B, N, S⟩
 have hvle := values_len ⟨a, B, N, S⟩
 obtain ⟨vs, hvs⟩ : ∃ vs, valuesM ⟨a, B, N, S⟩ = vs := ⟨_, rfl⟩
 obtain ⟨C, hC⟩ : ∃ C, vs.map Val.cells = C := ⟨_, rfl⟩
 rw [hvs] at hvc hvl hvc0 hvle
 rw [hC] at hvc
 have hCl : C.length = vs.length := by rw [← hC, List.length_map]
 have hvle2 : vs.length ≤ 1048577 := Nat.le_trans hvle hsz
 have hsc := stand_c vs C hC (by omega)
 obtain ⟨D, hD⟩ : ∃ D, (stand vs).map Val.cells = D := ⟨_, rfl⟩
 have hsl : (stand vs).length ≤ vs.length := List.length_filter_le _ _
 have hun := runlike_c (stand vs) D hD (by omega) (fun x hx => hvc0 x (stand_mem hx))
 rw [hD] at hsc
 obtain ⟨U, hU⟩ : ∃ U, (words (stand vs)).map Val.cells = U := ⟨_, rfl⟩
 rw [hU] at hun
 rw [hgd] at hgc
 obtain ⟨bd, hbd⟩ : ∃ bd, badW k ⟨a, B, N, S⟩ = bd := ⟨_, rfl⟩
 have hbe : bd = (!gd || decide (k < 1) || decide (4 < k) || (decide (k = 4) && decide (a = 2))) := by rw [← hbd, ← hgd]; rfl
 obtain ⟨ec, hec⟩ : ∃ ec, errW k ⟨a, B, N, S⟩ = ec := ⟨_, rfl⟩
 have hee : ec = if bd = true then 1 else 3 := by rw [← hec, errW, hbd]
 rw [hec]
 rw [hbd] at hE
 clear hgd hbd hec hvs
 have e1 : ∀ {z : Bool}, gd = z → (!z) = true → ec = 1 := by
   rintro z rfl h; rw [hee, hbe, h]; rfl
 have e2 : decide (k < 1) = true → ec = 1 := by
   intro h; rw [hee, hbe, h]; simp
 have e3 : decide (4 < k) = true → ec = 1 := by
   intro h; rw [hee, hbe, h]; simp
 have e4 : decide (k = 4) = true → decide (a = 2) = true → ec = 1 := by
   intro h h'; rw [hee, hbe, h, h']; simp
 have e5 : ∀ {z : Bool}, gd = z → (!z) = false → decide (k < 1) = false → decide (4 < k) = false → decide (k = 4) = true → decide (a = 2) = false → bd = false := by
   rintro z rfl h1 h2 h3 h4 h5; rw [hbe, h1, h2, h3, h4, h5]; rfl
 have e6 : ∀ {z : Bool}, gd = z → (!z) = false → decide (k < 1) = false → decide (4 < k) = false → decide (k = 4) = false → bd = false := by
   rintro z rfl h1 h2 h3 h4; rw [hbe, h1, h2, h3, h4]; rfl
 have e7 : bd = false → ec = 3 := by rintro rfl; rw [hee]; rfl
 have e8 : bd = false → gd = true → ∀ {p : Prop} {z : Int}, (C.length : Int) = z → decide (4096 < z) = false → p := by
   rintro rfl hg p z h h'
   have h6 := of_decide_eq_false h'
   have h7 := hvl hg
   rcases hE with h9 | h9
   · cases h9
   · omega
 have e9 : ∀ {z : Bool}, gd = z → (!z) = false → gd = true := by rintro (_ | _) h1 h2; cases h2; exact h1
 refine PCall.x (nt := 268) (res := [.tmp 4, .tmp 5]) mixed tt_ok [] Try.func28 rfl rfl rfl c28 (Nat.le_of_ble_eq_true rfl) ?_
 intro cp cc lp Q' hcp hcc hlp hQ
 repeat' (first
   | (with_reducible refine Nm.mk ?_; intro z hz)
   | (with_reducible refine IfB.mk ?_ ?_ <;> (intro h; cases h))
   | (with_reducible refine Two.l ?_; refine Asm.mk ?_ ?_; focus (decide +kernel))
   | (with_reducible refine Two.r ?_)
   | (with_reducible refine TwoT.r ?_)
   | (with_reducible refine TwoU.r ?_)
   | (with_reducible refine Asm.mk ?_ ?_; focus (first | (show (_ : Bool) = true; kernel_rfl)))
   | (with_reducible refine isCP hcp ?_; first | (refine bP hcp (hgc) ?_; intro z hz) | (refine eP hcp (hvc) ?_; rintro r rfl) | (refine eP hcp (hsc) ?_; rintro r rfl) | (refine eP hcp (hun) ?_; rintro r rfl))
   | (with_reducible refine isCC hcc ?_; first | (refine bA hcc (hgc) rfl ?_; intro z hz) | (refine bR hcc (hgc) rfl ?_; intro z hz) | (refine eA hcc (hvc) rfl ?_; rintro r rfl) | (refine eA hcc (hsc) rfl ?_; rintro r rfl) | (refine eA hcc (hun) rfl ?_; rintro r rfl))
   | (exact e8 (e5 (by assumption) (by assumption) (by assumption) (by assumption) (by assumption) (by assumption)) (e9 (by assumption) (by assumption)) (by assumption) (by assumption))
   | (exact e8 (e6 (by assumption) (by assumption) (by assumption) (by assumption) (by assumption)) (e9 (by assumption) (by assumption)) (by assumption) (by assumption))
   | (with_reducible refine Asm.mk2 ?_ ?_)
   | ((fail_if_success (with_reducible first | refine hQ _ ?_ | refine Side.mk ?_ | refine isCP hcp ?_ | refine isCC hcc ?_ | refine isLP hlp ?_ | refine Ix.mk ?_ | refine SIx.mk ?_ | refine SEx.mk ?_ | refine EIx.mk ?_ | refine RIx.mk ?_ | refine LkX.mk ?_ | show False | refine hR ?_ _ ?_ ?_ ?_ ?_ ?_ | refine hR2 ?_ _ ?_ ?_ ?_ ?_ ?_)); cbv))
 all_goals first
   | exact hQ _ (by rw [e1 (by assumption) (by assumption)])
   | exact hQ _ (by rw [e2 (by assumption)])
   | exact hQ _ (by rw [e3 (by assumption)])
   | exact hQ _ (by rw [e4 (by assumption) (by assumption)])
   | exact hQ _ (by rw [e7 (e5 (by assumption) (by assumption) (by assumption) (by assumption) (by assumption) (by assumption))])
   | exact hQ _ (by rw [e7 (e6 (by assumption) (by assumption) (by assumption) (by assumption) (by assumption))])
end Go.Proofs.Ytcajncmjlmpkgaa

namespace Go.Proofs.Ytcajncmjlmpkgaa
open Go Go.RowKit
set_option maxRecDepth 100000
set_option linter.unusedSimpArgs false
set_option linter.unusedVariables false
structure Txt (s : ByteArray) (l : List UInt8) (N : Nat) : Prop where
 e : s = toB l
 le : l.length ≤ N
theorem Txt.side {s t : ByteArray} {a b : List UInt8} {N M : Nat} (h : Txt s a N) (k : Txt t b M) (hN : N ≤ 1000000000) (hM : M ≤ 1000000000) : ¬ maxI < ((s.size + t.size : Nat) : Int) := by
 rw [h.e, k.e, toB_size, toB_size]
 have := h.le
 have := k.le
 have : maxI = 9223372036854775807 := by decide
 omega
theorem Txt.app {s t r : ByteArray} {a b : List UInt8} {N M : Nat} (h : Txt s a N) (k : Txt t b M) (e : s ++ t = r) : Txt r (a ++ b) (N + M) := by
 refine ⟨by rw [← e, h.e, k.e, toB_app], ?_⟩
 rw [List.length_append]
 have := h.le
 have := k.le
 omega
theorem Txt.name {s : ByteArray} {l : List UInt8} {N : Nat} (h : Txt s l N) (hN : N ≤ 2000) : ∃ hd, l = hd ∧ Txt s hd 2000 := ⟨_, rfl, h.e, Nat.le_trans h.le hN⟩
theorem Txt.mono {s : ByteArray} {l : List UInt8} {N M : Nat} (h : Txt s l N) (hN : N ≤ M) : Txt s l M := ⟨h.e, Nat.le_trans h.le hN⟩
theorem plainB_nil : plainB [] = [] := rfl
def markN (v : Val) : Int := if v.k = 0 then 1 else 0
theorem marks_values {v : Vec} (hg : goodV v = true) : (valuesM v).map markN = v.null.map fun b => if b then (1 : Int) else 0 := by
 rw [valuesM, if_pos hg, List.map_map]
 apply List.ext_getElem?
 intro i
 rw [List.getElem?_map, List.getElem?_map]
 rcases Nat.lt_or_ge i v.null.length with h | h
 · rw [List.getElem?_range h, List.getElem?_eq_getElem h]
   simp only [Option.map_some, Function.comp, Option.some.injEq]
   rw [atV, List.getElem?_eq_getElem h, Option.getD_some]
   by_cases hb : v.null[i] = true
   · rw [if_pos hb, hb]; rfl
   · rw [if_neg hb, if_neg hb]
     split
     · rfl
     · rfl
 · rw [List.getElem?_eq_none (by simpa using h), List.getElem?_eq_none h]; rfl
theorem kind_values {v : Vec} (hk : v.kind = 1) : ∀ x ∈ stand (valuesM v), x.k = 1 := by
 intro x hx
 obtain ⟨h1, h2⟩ := List.mem_filter.1 hx
 unfold valuesM at h1
 split at h1
 · obtain ⟨i, hi, rfl⟩ := List.mem_map.1 h1
   rw [atV, if_pos hk] at h2 ⊢
   split
   · rename_i h; rw [if_pos h] at h2; simp [Val.zero] at h2
   · rfl
 · cases h1
theorem num_form {x : Val} (hx : clean x = x) (hk : x.k = 1) : x = num x.n := by
 rw [← hx, clean, if_pos hk]; rfl
theorem order_num (a b : Int) : orderV (num a) (num b) = cmpI a b := by
 have hs : cmpS (num a).s (num b).s = 0 := cmpS_cmp.refl _
 show orI [cmpI 1 1, cmpI a b, cmpS _ _] = _
 rw [show cmpS (clean (num a)).s (clean (num b)).s = 0 from hs]
 simp only [orI, show cmpI 1 1 = 0 from rfl, if_true]
 split <;> simp_all
theorem order_nums {x y : Val} (hx : clean x = x) (hy : clean y = y) (h1 : x.k = 1) (h2 : y.k = 1) (h : orderV x y < 0) : x.n < y.n := by
 rw [num_form hx h1, num_form hy h2, order_num, cmpI] at h
 split at h
 · assumption
 · split at h
   · exact absurd h (by decide)
   · exact absurd h (by decide)
theorem low_ok : ∀ {l : List Val} (m : Int), l.foldl (fun a v => min a v.n) m ≤ m ∧ (∀ v ∈ l, l.foldl (fun a v => min a v.n) m ≤ v.n) ∧ (l.foldl (fun a v => min a v.n) m = m ∨ ∃ v ∈ l, v.n = l.foldl (fun a v => min a v.n) m) := by
 intro l
 induction l with
 | nil => intro m; exact ⟨Int.le_refl _, fun _ h => by (cases h), .inl rfl⟩
 | cons y l ih =>
   intro m
   obtain ⟨h1, h2, h3⟩ := ih (min m y.n)
   rw [List.foldl_cons]
   refine ⟨by omega, fun v hv => ?_, ?_⟩
   · rcases List.mem_cons.1 hv with rfl | hv
     · omega
     · exact h2 v hv
   · rcases h3 with h3 | ⟨v, hv, h3⟩
     · rcases Int.le_total m y.n with h | h
       · exact .inl (by omega)
       · exact .inr ⟨y, by simp, by omega⟩
     · exact .inr ⟨v, List.mem_cons_of_mem _ hv, h3⟩
theorem high_ok : ∀ {l : List Val} (m : Int), m ≤ l.foldl (fun a v => max a v.n) m ∧ (∀ v ∈ l, v.n ≤ l.foldl (fun a v => max a v.n) m) ∧ (l.foldl (fun a v => max a v.n) m = m ∨ ∃ v ∈ l, v.n = l.foldl (fun a v => max a v.n) m) := by
 intro l
 induction l with
 | nil => intro m; exact ⟨Int.le_refl _, fun _ h => by (cases h), .inl rfl⟩
 | cons y l ih =>
   intro m
   obtain ⟨h1, h2, h3⟩ := ih (max m y.n)
   rw [List.foldl_cons]
   refine ⟨by omega, fun v hv => ?_, ?_⟩
   · rcases List.mem_cons.1 hv with rfl | hv
     · omega
     · exact h2 v hv
   · rcases h3 with h3 | ⟨v, hv, h3⟩
     · rcases Int.le_total m y.n with h | h
       · exact .inr ⟨y, by simp, by omega⟩
       · exact .inl (by omega)
     · exact .inr ⟨v, List.mem_cons_of_mem _ hv, h3⟩
theorem lowV_ok {l : List Val} (hne : l ≠ []) : (∀ v ∈ l, lowV l ≤ v.n) ∧ ∃ v ∈ l, v.n = lowV l := by
 cases l with
 | nil => exact absurd rfl hne
 | cons x l =>
   obtain ⟨h1, h2, h3⟩ := low_ok (l := l) x.n
   refine ⟨fun v hv => ?_, ?_⟩
   · rcases List.mem_cons.1 hv with rfl | hv
     · exact h1
     · exact h2 v hv
   · rcases h3 with h3 | ⟨v, hv, h3⟩
     · exact ⟨x, by simp, h3.symm⟩
     · exact ⟨v, List.mem_cons_of_mem _ hv, h3⟩
theorem highV_ok {l : List Val} (hne : l ≠ []) : (∀ v ∈ l, v.n ≤ highV l) ∧ ∃ v ∈ l, v.n = highV l := by
 cases l with
 | nil => exact absurd rfl hne
 | cons x l =>
   obtain ⟨h1, h2, h3⟩ := high_ok (l := l) x.n
   refine ⟨fun v hv => ?_, ?_⟩
   · rcases List.mem_cons.1 hv with rfl | hv
     · exact h1
     · exact h2 v hv
   · rcases h3 with h3 | ⟨v, hv, h3⟩
     · exact ⟨x, by simp, h3.symm⟩
     · exact ⟨v, List.mem_cons_of_mem _ hv, h3⟩
theorem first_low {l : List Val} (hc : Clean l) (h1 : ∀ x ∈ l, x.k = 1) {y : Val} (hy : (words l)[0]? = some y) : y.n = lowV l := by
 obtain ⟨w1, w2, w3⟩ := words_ok hc
 have hyw := List.mem_of_getElem? hy
 have hyl := (w2 y).1 hyw
 obtain ⟨g1, v, hv, g2⟩ := lowV_ok (List.ne_nil_of_mem hyl)
 have g3 := g1 y hyl
 obtain ⟨i, hi⟩ := List.mem_iff_getElem?.1 ((w2 v).2 hv)
 rcases Nat.eq_zero_or_pos i with h | h
 · subst h; rw [hy] at hi; rw [Option.some.inj hi]; exact g2
 · have a := List.getElem?_eq_some_iff.1 hy
   have b := List.getElem?_eq_some_iff.1 hi
   have c := (List.pairwise_iff_getElem.1 w1) 0 i a.1 b.1 h
   rw [a.2, b.2] at c
   have := order_nums (hc y hyl) (hc v hv) (h1 y hyl) (h1 v hv) c
   omega
theorem last_high {l : List Val} (hc : Clean l) (h1 : ∀ x ∈ l, x.k = 1) {y : Val} {n : Nat} (hn : n + 1 = (words l).length) (hy : (words l)[n]? = some y) : y.n = highV l := by
 obtain ⟨w1, w2, w3⟩ := words_ok hc
 have hyw := List.mem_of_getElem? hy
 have hyl := (w2 y).1 hyw
 obtain ⟨g1, v, hv, g2⟩ := highV_ok (List.ne_nil_of_mem hyl)
 have g3 := g1 y hyl
 obtain ⟨i, hi⟩ := List.mem_iff_getElem?.1 ((w2 v).2 hv)
 have b := List.getElem?_eq_some_iff.1 hi
 have a := List.getElem?_eq_some_iff.1 hy
 rcases Nat.eq_or_lt_of_le (show i ≤ n by have := b.1; omega) with h | h
 · subst h; rw [hy] at hi; rw [Option.some.inj hi]; exact g2
 · have c := (List.pairwise_iff_getElem.1 w1) i n b.1 a.1 h
   rw [a.2, b.2] at c
   have := order_nums (hc v hv) (hc y hyl) (h1 v hv) (h1 y hyl) c
   omega
theorem words_pos {l : List Val} (hc : Clean l) (h : l ≠ []) : 0 < (words l).length := by
 obtain ⟨w1, w2, w3⟩ := words_ok hc
 cases l with
 | nil => exact absurd rfl h
 | cons x l => exact List.length_pos_of_mem ((w2 x).2 (by simp))
theorem bits_le {w : Int} (hw : 0 ≤ w ∧ w ≤ 64) {xs : List Int} (hl : xs.length ≤ 4096) : (bitsB w xs).length ≤ 50000 := by
 have h := (bitsB_at hw.1 xs).2
 have h1 : w * (xs.length : Int) ≤ 64 * 4096 := Int.le_trans (Int.mul_le_mul_of_nonneg_right hw.2 (by omega)) (Int.mul_le_mul_of_nonneg_left (by omega) (by decide))
 omega
end Go.Proofs.Ytcajncmjlmpkgaa

namespace Go.Proofs.Ytcajncmjlmpkgaa
open Go Go.RowKit
set_option maxRecDepth 100000
set_option linter.unusedSimpArgs false
set_option linter.unusedVariables false
attribute [local irreducible] valB plainB bitsB byW
set_option maxHeartbeats 1000000 in
theorem rwrite1_c (a : Int) (B : List Bool) (N : List Int) (S : List ByteArray) (n1 n2 n3 : List (List PV)) (h1 : B.map boolc = n1) (h2 : N.map i64c = n2) (h3 : S.map strc = n3) (hg : goodV ⟨a, B, N, S⟩ = true) (hB : B.length ≤ 4096) :
   PCall Try.prog 28 [.agg [.int .i64 a, .sl n1, .sl n2, .sl n3], .int .i64 1] fun r => r = [.str (toB (headB 1 ⟨a, B, N, S⟩ ++ plainB (stand (valuesM ⟨a, B, N, S⟩)))), .int .i64 0] := by
 have hgc := rgood_c a B N S n1 n2 n3 h1 h2 h3
 have hm1 := @markB_all ⟨a, B, N, S⟩
 have hm2 : ¬ (stand (valuesM ⟨a, B, N, S⟩)).length = (valuesM ⟨a, B, N, S⟩).length → markB ⟨a, B, N, S⟩ = [1] ++ bitsB 1 ((valuesM ⟨a, B, N, S⟩).map markN) := fun h => by rw [markB_some h, marks_values hg]
 have hhB : headB 1 ⟨a, B, N, S⟩ = [byO 1, byO a] ++ byW 4 (u64 (valuesM ⟨a, B, N, S⟩).length) ++ markB ⟨a, B, N, S⟩ := rfl
 have hvc := rvalues_c a B N S n1 n2 n3 h1 h2 h3 (by omega)
 have hvc0 := values_clean ⟨a, B, N, S⟩
 have hvle := values_len ⟨a, B, N, S⟩
 have hfew : Few (stand (valuesM ⟨a, B, N, S⟩)) := stand_few hB
 obtain ⟨hb0, hb0e⟩ : ∃ x, headB 1 ⟨a, B, N, S⟩ = x := ⟨_, rfl⟩
 obtain ⟨mk, hmk⟩ : ∃ x, markB ⟨a, B, N, S⟩ = x := ⟨_, rfl⟩
 rw [hb0e] at hhB ⊢
 rw [hmk] at hhB hm1 hm2
 rw [hg] at hgc
 obtain ⟨vs, hvs⟩ : ∃ vs, valuesM ⟨a, B, N, S⟩ = vs := ⟨_, rfl⟩
 obtain ⟨C, hC⟩ : ∃ C, vs.map Val.cells = C := ⟨_, rfl⟩
 rw [hvs] at hvc hvc0 hvle hfew hm1 hm2 hhB ⊢
 rw [hC] at hvc
 clear hvs hb0e hmk hg
 have hCl : C.length = vs.length := by rw [← hC, List.length_map]
 have hvle2 : vs.length ≤ 4096 := Nat.le_trans hvle hB
 have hsc := stand_c vs C hC (by omega)
 have hsl : (stand vs).length ≤ vs.length := List.length_filter_le _ _
 have hcl : Clean (stand vs) := fun x hx => hvc0 x (stand_mem hx)
 obtain ⟨l, hl⟩ : ∃ l, stand vs = l := ⟨_, rfl⟩
 rw [hl] at hsc hsl hcl hfew hm1 hm2 ⊢
 obtain ⟨D, hD⟩ : ∃ D, l.map Val.cells = D := ⟨_, rfl⟩
 rw [hD] at hsc
 have hDl : D.length = l.length := by rw [← hD, List.length_map]
 have hl0 : l.length ≤ 4096 := hfew.1
 have hun := runlike_c l D hD (by omega) hcl
 obtain ⟨u, hu⟩ : ∃ u, words l = u := ⟨_, rfl⟩
 rw [hu] at hun
 obtain ⟨U, hU⟩ : ∃ U, u.map Val.cells = U := ⟨_, rfl⟩
 rw [hU] at hun
 have hUl : U.length = u.length := by rw [← hU, List.length_map]
 have hul : u.length ≤ l.length := hu ▸ words_len l
 clear hl hvc0
 have hpos : ∀ {x m : Int}, IntKind.u64.wrap x = m → 0 ≤ m := fun h => h ▸ u64_pos _
 have hx1 : ∀ {p : Prop}, decide ((1 : Int) < 1) = true → p := fun h => absurd h (by decide)
 have hx2 : ∀ {p : Prop}, decide ((4 : Int) < 1) = true → p := fun h => absurd h (by decide)
 have hxc1 : ¬ decide ((1 : Int) = 1) = false := by decide
 have hxc2 : ¬ decide ((1 : Int) = 2) = true := by decide
 have hxc3 : ¬ decide ((1 : Int) = 3) = true := by decide
 have hxc4 : ¬ decide ((1 : Int) = 4) = true := by decide
 have hx4 : ∀ {p : Prop} {z : Bool}, (!z) = true → true = z → p := by rintro p z h rfl; cases h
 have hx5 : ∀ {p : Prop} {z : Int}, decide (4096 < z) = true → (C.length : Int) = z → p := by
   intro p z h h2
   have := of_decide_eq_true h
   omega
 have hTk : ∀ {z1 z2 : Int} {s : ByteArray}, strOf [[PV.int .u8 z1], [PV.int .u8 z2]] = s → IntKind.u8.wrap 1 = z1 → IntKind.u8.wrap a = z2 → Txt s [byO 1, byO a] 2 := by
   rintro z1 z2 s rfl rfl rfl
   refine ⟨?_, Nat.le_refl _⟩
   rw [← strOf_bytes]
   show _ = strOf [byteC (byO 1), byteC (byO a)]
   rw [byO_c, byO_c]
 have hT4 : ∀ {x : Int} {s : ByteArray}, toB (byW 4 x) = s → Txt s (byW 4 x) 4 := by
   rintro x s rfl
   exact ⟨rfl, by rw [byW_len]; decide⟩
 have hT6 : ∀ {z1 z2 x : Int} {s t r : ByteArray}, s ++ t = r → strOf [[PV.int .u8 z1], [PV.int .u8 z2]] = s → IntKind.u8.wrap 1 = z1 → IntKind.u8.wrap a = z2 → toB (byW 4 x) = t → Txt r ([byO 1, byO a] ++ byW 4 x) 6 := fun e e1 e2 e3 e4 => (hTk e1 e2 e3).app (hT4 e4) e
 have hT0 : Txt ⟨⟨[0]⟩⟩ [0] 1 := ⟨rfl, Nat.le_refl _⟩
 have hT1 : Txt ⟨⟨[1]⟩⟩ [1] 1 := ⟨rfl, Nat.le_refl _⟩
 have hTb : ∀ {s : ByteArray}, toB (bitsB 1 (vs.map markN)) = s → Txt s (bitsB 1 (vs.map markN)) 1000 := by
   rintro s rfl
   refine ⟨rfl, ?_⟩
   have := (bitsB_at (W := 1) (by decide) (vs.map markN)).2
   rw [List.length_map] at this; omega
 generalize byO 1 = kb at *
 generalize byO a = ab at *
 have hhA : ∀ {zD zC zc zu : Int}, (D.length : Int) = zD → (C.length : Int) = zC → decide (zD = zC) = true → (C.length : Int) = zc → IntKind.u64.wrap zc = zu → hb0 = [kb, ab] ++ byW 4 zu ++ [0] := by
   rintro zD zC zc zu rfl rfl h rfl rfl
   have := of_decide_eq_true h
   rw [hhB, hm1 (by omega), hCl]; rfl
 have hhM : ∀ {zD zC zc zu : Int}, (D.length : Int) = zD → (C.length : Int) = zC → decide (zD = zC) = false → (C.length : Int) = zc → IntKind.u64.wrap zc = zu → hb0 = [kb, ab] ++ byW 4 zu ++ ([1] ++ bitsB 1 (vs.map markN)) := by
   rintro zD zC zc zu rfl rfl h rfl rfl
   have := of_decide_eq_false h
   rw [hhB, hm2 (by omega), hCl]; rfl
 refine PCall.x (nt := 268) (res := [.tmp 4, .tmp 5]) mixed tt_ok [] Try.func28 rfl rfl rfl c28 (Nat.le_of_ble_eq_true rfl) ?_
 intro cp cc lp Q' hcp hcc hlp hQ
 repeat' (first
   | (with_reducible exact absurd (by assumption) hxc1)
   | (with_reducible exact absurd (by assumption) hxc2)
   | (with_reducible exact absurd (by assumption) hxc3)
   | (with_reducible exact absurd (by assumption) hxc4)
   | (with_reducible refine Nm.mk ?_; intro z hz)
   | (with_reducible refine IfB.mk ?_ ?_ <;> (intro h; cases h))
   | (with_reducible refine Two.l ?_; refine Asm.mk ?_ ?_; focus (decide +kernel))
   | (with_reducible refine Two.r ?_)
   | (with_reducible refine TwoT.r ?_)
   | (with_reducible refine TwoU.r ?_)
   | (with_reducible refine Asm.mk ?_ ?_; focus (first | exact (hTk (by assumption) (by assumption) (by assumption)).side (hT4 (by assumption)) (by decide) (by decide) | exact (hT6 (by assumption) (by assumption) (by assumption) (by assumption) (by assumption)).side hT0 (by decide) (by decide) | (show (_ : Bool) = true; kernel_rfl)))
   | (with_reducible refine isCP hcp ?_; first | (refine bP hcp (hgc) ?_; intro z hz) | (refine eP hcp (hvc) ?_; rintro r rfl) | (refine eP hcp (hsc) ?_; rintro r rfl) | (refine eP hcp (hun) ?_; rintro r rfl) | (refine sP hcp (bytesW_c 4 _ (hpos (by assumption)) (by decide)) ?_; intro z hz))
   | (with_reducible refine isCC hcc ?_; first | (refine bA hcc (hgc) rfl ?_; intro z hz) | (refine bR hcc (hgc) rfl ?_; intro z hz) | (refine eA hcc (hvc) rfl ?_; rintro r rfl) | (refine eA hcc (hsc) rfl ?_; rintro r rfl) | (refine eA hcc (hun) rfl ?_; rintro r rfl) | (refine sA hcc (bytesW_c 4 _ (hpos (by assumption)) (by decide)) rfl ?_; intro z hz) | (refine sR hcc (bytesW_c 4 _ (hpos (by assumption)) (by decide)) rfl ?_; intro z hz))
   | (with_reducible refine Asm.mk2 ?_ ?_)
   | ((fail_if_success (with_reducible first | refine hQ _ ?_ | refine Side.mk ?_ | refine isCP hcp ?_ | refine isCC hcc ?_ | refine isLP hlp ?_ | refine Ix.mk ?_ | refine SIx.mk ?_ | refine SEx.mk ?_ | refine EIx.mk ?_ | refine RIx.mk ?_ | refine LkX.mk ?_ | show False | refine hR ?_ _ ?_ ?_ ?_ ?_ ?_ | refine hR2 ?_ _ ?_ ?_ ?_ ?_ ?_)); cbv))
 all_goals first | exact hx1 (by assumption) | exact hx2 (by assumption) | exact hx4 (by assumption) (by assumption) | exact hx5 (by assumption) (by assumption) | skip
 · rename_i zk hzk za hza zs1 hs1 zc hzc zu hzu zb4 hb4 zs hzs zD hzD zC hzC hpq zr hzr h11
   have hh := hhA hzD hzC hpq hzc hzu
   obtain ⟨hd, hhd, htx⟩ := (((hT6 hzs hs1 hzk hza hb4).app hT0 hzr)).name (by decide)
   rw [hhd] at hh
   have hzl : z = (l.length : Int) := by rw [← hz, hDl]
   clear hz
   refine loopT (ι := Int × ByteArray) mixed tt_ok hcp hcc hlp [112, 113] (fun p => [(114, .p (.int .i64 p.1)), (9, .p (.str p.2))]) (fun p => [.cells [.p (.int .i64 a), .p (.sl n1), .p (.sl n2), .p (.sl n3)], .cells [.p (.sl U)]]) (fun p => 0 ≤ p.1 ∧ p.1 ≤ l.length ∧ Txt p.2 (hd ++ plainB (l.take p.1.toNat)) 5000000) (fun p => (l.length - p.1).toNat) (0, _) 2 (fun _ => rfl) ⟨Int.le_refl _, by show (0 : Int) ≤ _; omega, ⟨by rw [htx.e]; simp [plainB_nil], by have := htx.le; simp [plainB_nil]; omega⟩⟩ ⟨rfl, rfl, trivial⟩ rfl ?_
   rintro R2 ⟨j, s⟩ ⟨hj0, hj1, hs⟩ hR2
   replace hj0 : 0 ≤ j := hj0
   replace hj1 : j ≤ l.length := hj1
   replace hs : Txt s (hd ++ plainB (l.take j.toNat)) 5000000 := hs
   have hk3 : decide (j < z) = true → j < l.length := fun h => by have := of_decide_eq_true h; omega
   have hgo3 : decide (j < z) = true → 0 ≤ j + 1 ∧ j + 1 ≤ l.length ∧ (l.length - (j + 1)).toNat < (l.length - j).toNat ∧ IntKind.i64.wrap (j + 1) = j + 1 ∧ (j + 1).toNat = j.toNat + 1 := by
     intro h
     have := of_decide_eq_true h
     exact ⟨by omega, by omega, by omega, wrap_in (by omega), by omega⟩
   have hend3 : decide (j < z) = false → j.toNat = l.length := by
     intro h
     have := of_decide_eq_false h
     omega
   have hsx3 : ∀ {y : Val}, l[j.toNat]? = some y → y.s.size ≤ 2000000 := fun h => Nat.le_trans (hfew.2 _ (List.mem_of_getElem? h)) (by decide)
   have hTv : ∀ {y : Val} {t : ByteArray}, l[j.toNat]? = some y → toB (valB y) = t → Txt t (valB y) 1010 := by
     rintro y t h rfl
     exact ⟨rfl, valB_le (hfew.2 _ (List.mem_of_getElem? h))⟩
   have hnx3 : ∀ {y : Val} {t r : ByteArray}, l[j.toNat]? = some y → toB (valB y) = t → s ++ t = r → Txt r (hd ++ plainB (l.take (j.toNat + 1))) 5000000 := by
     intro y t r h1 h2 h3
     have h4 := hs.app (hTv h1 h2) h3
     rw [List.append_assoc, ← plainB_succ h1] at h4
     refine ⟨h4.e, ?_⟩
     have h5 := plainB_len (l := l.take (j.toNat + 1)) (hfew.take _).2
     have h6 := (hfew.take (j.toNat + 1)).1
     have h7 := htx.le
     rw [List.length_append]; omega
   repeat' (first
     | (with_reducible refine Nm.mk ?_; intro z hz)
     | (with_reducible refine IfB.mk ?_ ?_ <;> (intro h; cases h))
     | (with_reducible refine Two.l ?_; refine Asm.mk ?_ ?_; focus (decide +kernel))
     | (with_reducible refine Two.r ?_)
     | (with_reducible refine TwoT.r ?_)
     | (with_reducible refine TwoU.r ?_)
     | (with_reducible refine Asm.mk ?_ ?_; focus (first | exact hs.side (hTv (by assumption) (by assumption)) (by decide) (by decide) | (show (_ : Bool) = true; kernel_rfl)))
     | (with_reducible refine isCP hcp ?_; first | (refine sP hcp (plainly_c _ _ _ (hsx3 (by assumption))) ?_; intro z hz))
     | (with_reducible refine isCC hcc ?_; first | (refine sA hcc (plainly_c _ _ _ (hsx3 (by assumption))) rfl ?_; intro z hz) | (refine sR hcc (plainly_c _ _ _ (hsx3 (by assumption))) rfl ?_; intro z hz))
     | (with_reducible refine Ix.map hD cells_len (by decide) hj0 (hk3 (by assumption)) ?_; intro y hy)
     | (with_reducible refine Asm.mk2 ?_ ?_)
     | ((fail_if_success (with_reducible first | refine hQ _ ?_ | refine Side.mk ?_ | refine isCP hcp ?_ | refine isCC hcc ?_ | refine isLP hlp ?_ | refine Ix.mk ?_ | refine SIx.mk ?_ | refine SEx.mk ?_ | refine EIx.mk ?_ | refine RIx.mk ?_ | refine LkX.mk ?_ | show False | refine hR ?_ _ ?_ ?_ ?_ ?_ ?_ | refine hR2 ?_ _ ?_ ?_ ?_ ?_ ?_)); cbv))
   · rename_i hjz t ht zr hzr
     obtain ⟨g1, g2, g3, g4, g5⟩ := hgo3 hjz
     rw [g4] at hz
     subst hz
     refine hR2 (j + 1, zr) _ ⟨g1, g2, ?_⟩ g3 ⟨rfl, rfl, trivial⟩ ⟨rfl, rfl, trivial⟩ rfl
     show Txt zr (_ ++ plainB (_)) 5000000
     rw [g5]
     exact hnx3 hy ht hzr
   · refine hQ _ ?_
     rw [hh, hs.e, hend3 hz, List.take_length]
 · rename_i zk hzk za hza zs1 hs1 zc hzc zu hzu zb4 hb4 zs hzs zD hzD zC hzC hpq
   have hh := hhM hzD hzC hpq hzc hzu
   have hzl : z = (vs.length : Int) := by rw [← hz, hCl]
   clear hz
   refine mintT hlp 1 10 rfl ?_
   refine loopT (ι := Int × List (List PV) × Nat) mixed tt_ok hcp hcc hlp [1, 6, 7, 8, 9, 88, 89] (fun p => [(90, .p (.int .i64 p.1)), (10, .tok 2 p.2.1)]) (fun p => [.cells [.p (.int .i64 a), .p (.sl n1), .p (.sl n2), .p (.sl n3)], .cells [.p (.sl U)], .spare p.2.2 1]) (fun p => 0 ≤ p.1 ∧ p.1 ≤ vs.length ∧ ((vs.take p.1.toNat).map markN).map u64c = p.2.1 ∧ p.2.1.length = p.2.2) (fun p => (vs.length - p.1).toNat) (0, [], 0) 3 (fun _ => rfl) ⟨Int.le_refl _, by show (0 : Int) ≤ _; omega, rfl, rfl⟩ ⟨rfl, rfl, trivial⟩ rfl ?_
   rintro R ⟨i, L, m⟩ ⟨hi0, hi1, hL, hm⟩ hR
   replace hi0 : 0 ≤ i := hi0
   replace hi1 : i ≤ vs.length := hi1
   replace hL : ((vs.take i.toNat).map markN).map u64c = L := hL
   replace hm : L.length = m := hm
   have hLn : L.length ≤ 4096 := by rw [← hL]; simp; omega
   have hok : okEs 1 L = true := by
     rw [← hL]; exact List.all_eq_true.2 fun e he => by obtain ⟨c, _, rfl⟩ := List.mem_map.1 he; rfl
   have hk : decide (i < z) = true → i < vs.length := fun h => by have := of_decide_eq_true h; omega
   have hgo : decide (i < z) = true → 0 ≤ i + 1 ∧ i + 1 ≤ vs.length ∧ (vs.length - (i + 1)).toNat < (vs.length - i).toNat ∧ IntKind.i64.wrap (i + 1) = i + 1 ∧ (i + 1).toNat = i.toNat + 1 := by
     intro h
     have := of_decide_eq_true h
     exact ⟨by omega, by omega, by omega, wrap_in (by omega), by omega⟩
   have hend : decide (i < z) = false → i.toNat = vs.length := by
     intro h
     have := of_decide_eq_false h
     omega
   have hsd : ∀ {e : List (List PV)}, okEs 1 e = true → e.length ≤ 1 → m = L.length ∧ 1 = 1 ∧ okEs 1 L = true ∧ okEs 1 e = true ∧ L.length + e.length ≤ maxLen ∧ (L.length + e.length) * 8 ≤ 140737488355328 := by
     intro e h1 h2
     refine ⟨hm.symm, rfl, hok, h1, ?_, by omega⟩
     show _ ≤ 9223372036854775807
     omega
   have hmk : ∀ {x : Val} {zb : Bool} {v : Val} {zu : Int}, decide (x.k = 0) = zb → truthV zb = v → IntKind.u64.wrap v.n = zu → zu = markN x := by
     rintro x zb v zu rfl rfl rfl
     rw [markN]
     by_cases h : x.k = 0
     · rw [if_pos h, decide_eq_true h]; decide
     · rw [if_neg h, decide_eq_false h]; decide
   have hst : ∀ {x : Val}, vs[i.toNat]? = some x → ((vs.take (i.toNat + 1)).map markN).map u64c = L ++ [[PV.int .u64 (markN x)]] := by
     intro x hx
     rw [take_snoc hx, List.map_append, List.map_append, hL]; rfl
   have hLe : decide (i < z) = false → (vs.map markN).map u64c = L := by
     intro h; rw [← hL, hend h, List.take_length]
   have hTm : ∀ {s r : ByteArray}, ⟨⟨[1]⟩⟩ ++ s = r → toB (bitsB 1 (vs.map markN)) = s → Txt r ([1] ++ bitsB 1 (vs.map markN)) 1001 := fun e e1 => hT1.app (hTb e1) e
   repeat' (first
     | (with_reducible exact absurd (by assumption) hxc1)
     | (with_reducible exact absurd (by assumption) hxc2)
     | (with_reducible exact absurd (by assumption) hxc3)
     | (with_reducible exact absurd (by assumption) hxc4)
     | (with_reducible refine Nm.mk ?_; intro z hz)
     | (with_reducible refine IfB.mk ?_ ?_ <;> (intro h; cases h))
     | (with_reducible refine Two.l ?_; refine Asm.mk ?_ ?_; focus (decide +kernel))
     | (with_reducible refine Two.r ?_)
     | (with_reducible refine TwoT.r ?_)
     | (with_reducible refine TwoU.r ?_)
     | (with_reducible refine Asm.mk ?_ ?_; focus (first | exact hT1.side (hTb (by assumption)) (by decide) (by decide) | exact (hT6 (by assumption) (by assumption) (by assumption) (by assumption) (by assumption)).side (hTm (by assumption) (by assumption)) (by decide) (by decide) | exact hsd rfl (Nat.le_refl _) | (show (_ : Bool) = true; kernel_rfl)))
     | (with_reducible refine isCP hcp ?_; first | (refine vP hcp (truth_c _) ?_; intro v hv) | (refine sP hcp (bits_c (vs.map markN) L (hLe (by assumption)) (by rw [List.length_map]; exact hvle2) 1 (by decide)) ?_; intro z hz))
     | (with_reducible refine isCC hcc ?_; first | (refine vA hcc (truth_c _) rfl ?_; intro v hv) | (refine vR hcc (truth_c _) rfl ?_; intro v hv) | (refine sA hcc (bits_c (vs.map markN) L (hLe (by assumption)) (by rw [List.length_map]; exact hvle2) 1 (by decide)) rfl ?_; intro z hz) | (refine sR hcc (bits_c (vs.map markN) L (hLe (by assumption)) (by rw [List.length_map]; exact hvle2) 1 (by decide)) rfl ?_; intro z hz))
     | (with_reducible refine Ix.map hC cells_len (by decide) hi0 (hk (by assumption)) ?_; intro x hx)
     | (with_reducible refine Asm.mk2 ?_ ?_)
     | ((fail_if_success (with_reducible first | refine hQ _ ?_ | refine Side.mk ?_ | refine isCP hcp ?_ | refine isCC hcc ?_ | refine isLP hlp ?_ | refine Ix.mk ?_ | refine SIx.mk ?_ | refine SEx.mk ?_ | refine EIx.mk ?_ | refine RIx.mk ?_ | refine LkX.mk ?_ | show False | refine hR ?_ _ ?_ ?_ ?_ ?_ ?_ | refine hR2 ?_ _ ?_ ?_ ?_ ?_ ?_)); cbv))
   · rename_i hiz zb hzb zu hzu zL hzL zm hzm
     obtain ⟨g1, g2, g3, g4, g5⟩ := hgo hiz
     rw [g4] at hz
     subst hz
     refine hR (i + 1, zL, zm) _ ⟨g1, g2, ?_, ?_⟩ g3 ⟨rfl, rfl, trivial⟩ ⟨rfl, rfl, rfl, rfl, rfl, rfl, rfl, trivial⟩ rfl
     · show ((vs.take (i + 1).toNat).map markN).map u64c = zL
       rw [g5, hst hx, ← hzL, hmk hzb hv hzu]
     · show zL.length = zm
       rw [← hzL, ← hzm, List.length_append]
   · rename_i hiz zb hzb zr hzr zq2 hzq2 h11
     obtain ⟨hd, hhd, htx⟩ := (((hT6 hzs hs1 hzk hza hb4).app (hTm hzr hzb) hzq2)).name (by decide)
     rw [hhd] at hh
     clear hR hL hm hLn hok hk hgo hend hsd hmk hst hLe hTm
     have hzl : z = (l.length : Int) := by rw [← hz, hDl]
     clear hz
     refine loopT (ι := Int × ByteArray) mixed tt_ok hcp hcc hlp [112, 113] (fun p => [(114, .p (.int .i64 p.1)), (9, .p (.str p.2))]) (fun p => [.cells [.p (.int .i64 a), .p (.sl n1), .p (.sl n2), .p (.sl n3)], .cells [.p (.sl U)], .spare m 1]) (fun p => 0 ≤ p.1 ∧ p.1 ≤ l.length ∧ Txt p.2 (hd ++ plainB (l.take p.1.toNat)) 5000000) (fun p => (l.length - p.1).toNat) (0, _) 3 (fun _ => rfl) ⟨Int.le_refl _, by show (0 : Int) ≤ _; omega, ⟨by rw [htx.e]; simp [plainB_nil], by have := htx.le; simp [plainB_nil]; omega⟩⟩ ⟨rfl, rfl, trivial⟩ rfl ?_
     rintro R2 ⟨j, s⟩ ⟨hj0, hj1, hs⟩ hR2
     replace hj0 : 0 ≤ j := hj0
     replace hj1 : j ≤ l.length := hj1
     replace hs : Txt s (hd ++ plainB (l.take j.toNat)) 5000000 := hs
     have hk3 : decide (j < z) = true → j < l.length := fun h => by have := of_decide_eq_true h; omega
     have hgo3 : decide (j < z) = true → 0 ≤ j + 1 ∧ j + 1 ≤ l.length ∧ (l.length - (j + 1)).toNat < (l.length - j).toNat ∧ IntKind.i64.wrap (j + 1) = j + 1 ∧ (j + 1).toNat = j.toNat + 1 := by
       intro h
       have := of_decide_eq_true h
       exact ⟨by omega, by omega, by omega, wrap_in (by omega), by omega⟩
     have hend3 : decide (j < z) = false → j.toNat = l.length := by
       intro h
       have := of_decide_eq_false h
       omega
     have hsx3 : ∀ {y : Val}, l[j.toNat]? = some y → y.s.size ≤ 2000000 := fun h => Nat.le_trans (hfew.2 _ (List.mem_of_getElem? h)) (by decide)
     have hTv : ∀ {y : Val} {t : ByteArray}, l[j.toNat]? = some y → toB (valB y) = t → Txt t (valB y) 1010 := by
       rintro y t h rfl
       exact ⟨rfl, valB_le (hfew.2 _ (List.mem_of_getElem? h))⟩
     have hnx3 : ∀ {y : Val} {t r : ByteArray}, l[j.toNat]? = some y → toB (valB y) = t → s ++ t = r → Txt r (hd ++ plainB (l.take (j.toNat + 1))) 5000000 := by
       intro y t r h1 h2 h3
       have h4 := hs.app (hTv h1 h2) h3
       rw [List.append_assoc, ← plainB_succ h1] at h4
       refine ⟨h4.e, ?_⟩
       have h5 := plainB_len (l := l.take (j.toNat + 1)) (hfew.take _).2
       have h6 := (hfew.take (j.toNat + 1)).1
       have h7 := htx.le
       rw [List.length_append]; omega
     repeat' (first
       | (with_reducible refine Nm.mk ?_; intro z hz)
       | (with_reducible refine IfB.mk ?_ ?_ <;> (intro h; cases h))
       | (with_reducible refine Two.l ?_; refine Asm.mk ?_ ?_; focus (decide +kernel))
       | (with_reducible refine Two.r ?_)
       | (with_reducible refine TwoT.r ?_)
       | (with_reducible refine TwoU.r ?_)
       | (with_reducible refine Asm.mk ?_ ?_; focus (first | exact hs.side (hTv (by assumption) (by assumption)) (by decide) (by decide) | (show (_ : Bool) = true; kernel_rfl)))
       | (with_reducible refine isCP hcp ?_; first | (refine sP hcp (plainly_c _ _ _ (hsx3 (by assumption))) ?_; intro z hz))
       | (with_reducible refine isCC hcc ?_; first | (refine sA hcc (plainly_c _ _ _ (hsx3 (by assumption))) rfl ?_; intro z hz) | (refine sR hcc (plainly_c _ _ _ (hsx3 (by assumption))) rfl ?_; intro z hz))
       | (with_reducible refine Ix.map hD cells_len (by decide) hj0 (hk3 (by assumption)) ?_; intro y hy)
       | (with_reducible refine Asm.mk2 ?_ ?_)
       | ((fail_if_success (with_reducible first | refine hQ _ ?_ | refine Side.mk ?_ | refine isCP hcp ?_ | refine isCC hcc ?_ | refine isLP hlp ?_ | refine Ix.mk ?_ | refine SIx.mk ?_ | refine SEx.mk ?_ | refine EIx.mk ?_ | refine RIx.mk ?_ | refine LkX.mk ?_ | show False | refine hR ?_ _ ?_ ?_ ?_ ?_ ?_ | refine hR2 ?_ _ ?_ ?_ ?_ ?_ ?_)); cbv))
     · rename_i hjz t ht zr hzr
       obtain ⟨g1, g2, g3, g4, g5⟩ := hgo3 hjz
       rw [g4] at hz
       subst hz
       refine hR2 (j + 1, zr) _ ⟨g1, g2, ?_⟩ g3 ⟨rfl, rfl, trivial⟩ ⟨rfl, rfl, trivial⟩ rfl
       show Txt zr (_ ++ plainB (_)) 5000000
       rw [g5]
       exact hnx3 hy ht hzr
     · refine hQ _ ?_
       rw [hh, hs.e, hend3 hz, List.take_length]
end Go.Proofs.Ytcajncmjlmpkgaa

namespace Go.Proofs.Ytcajncmjlmpkgaa
open Go Go.RowKit
set_option maxRecDepth 100000
set_option linter.unusedSimpArgs false
set_option linter.unusedVariables false
attribute [local irreducible] valB plainB bitsB byW
set_option maxHeartbeats 1000000 in
theorem rwrite2_c (a : Int) (B : List Bool) (N : List Int) (S : List ByteArray) (n1 n2 n3 : List (List PV)) (h1 : B.map boolc = n1) (h2 : N.map i64c = n2) (h3 : S.map strc = n3) (hg : goodV ⟨a, B, N, S⟩ = true) (hB : B.length ≤ 4096) :
   PCall Try.prog 28 [.agg [.int .i64 a, .sl n1, .sl n2, .sl n3], .int .i64 2] fun r => r = [.str (toB (headB 2 ⟨a, B, N, S⟩ ++ runsB (stand (valuesM ⟨a, B, N, S⟩)))), .int .i64 0] := by
 have hgc := rgood_c a B N S n1 n2 n3 h1 h2 h3
 have hm1 := @markB_all ⟨a, B, N, S⟩
 have hm2 : ¬ (stand (valuesM ⟨a, B, N, S⟩)).length = (valuesM ⟨a, B, N, S⟩).length → markB ⟨a, B, N, S⟩ = [1] ++ bitsB 1 ((valuesM ⟨a, B, N, S⟩).map markN) := fun h => by rw [markB_some h, marks_values hg]
 have hhB : headB 2 ⟨a, B, N, S⟩ = [byO 2, byO a] ++ byW 4 (u64 (valuesM ⟨a, B, N, S⟩).length) ++ markB ⟨a, B, N, S⟩ := rfl
 have hvc := rvalues_c a B N S n1 n2 n3 h1 h2 h3 (by omega)
 have hvc0 := values_clean ⟨a, B, N, S⟩
 have hvle := values_len ⟨a, B, N, S⟩
 have hfew : Few (stand (valuesM ⟨a, B, N, S⟩)) := stand_few hB
 obtain ⟨hb0, hb0e⟩ : ∃ x, headB 2 ⟨a, B, N, S⟩ = x := ⟨_, rfl⟩
 obtain ⟨mk, hmk⟩ : ∃ x, markB ⟨a, B, N, S⟩ = x := ⟨_, rfl⟩
 rw [hb0e] at hhB ⊢
 rw [hmk] at hhB hm1 hm2
 rw [hg] at hgc
 obtain ⟨vs, hvs⟩ : ∃ vs, valuesM ⟨a, B, N, S⟩ = vs := ⟨_, rfl⟩
 obtain ⟨C, hC⟩ : ∃ C, vs.map Val.cells = C := ⟨_, rfl⟩
 rw [hvs] at hvc hvc0 hvle hfew hm1 hm2 hhB ⊢
 rw [hC] at hvc
 clear hvs hb0e hmk hg
 have hCl : C.length = vs.length := by rw [← hC, List.length_map]
 have hvle2 : vs.length ≤ 4096 := Nat.le_trans hvle hB
 have hsc := stand_c vs C hC (by omega)
 have hsl : (stand vs).length ≤ vs.length := List.length_filter_le _ _
 have hcl : Clean (stand vs) := fun x hx => hvc0 x (stand_mem hx)
 obtain ⟨l, hl⟩ : ∃ l, stand vs = l := ⟨_, rfl⟩
 rw [hl] at hsc hsl hcl hfew hm1 hm2 ⊢
 obtain ⟨D, hD⟩ : ∃ D, l.map Val.cells = D := ⟨_, rfl⟩
 rw [hD] at hsc
 have hDl : D.length = l.length := by rw [← hD, List.length_map]
 have hl0 : l.length ≤ 4096 := hfew.1
 have hun := runlike_c l D hD (by omega) hcl
 obtain ⟨u, hu⟩ : ∃ u, words l = u := ⟨_, rfl⟩
 rw [hu] at hun
 obtain ⟨U, hU⟩ : ∃ U, u.map Val.cells = U := ⟨_, rfl⟩
 rw [hU] at hun
 have hUl : U.length = u.length := by rw [← hU, List.length_map]
 have hul : u.length ≤ l.length := hu ▸ words_len l
 clear hl hvc0
 have hpos : ∀ {x m : Int}, IntKind.u64.wrap x = m → 0 ≤ m := fun h => h ▸ u64_pos _
 have hx1 : ∀ {p : Prop}, decide ((2 : Int) < 1) = true → p := fun h => absurd h (by decide)
 have hx2 : ∀ {p : Prop}, decide ((4 : Int) < 2) = true → p := fun h => absurd h (by decide)
 have hxc1 : ¬ decide ((2 : Int) = 1) = true := by decide
 have hxc2 : ¬ decide ((2 : Int) = 2) = false := by decide
 have hxc3 : ¬ decide ((2 : Int) = 3) = true := by decide
 have hxc4 : ¬ decide ((2 : Int) = 4) = true := by decide
 have hx4 : ∀ {p : Prop} {z : Bool}, (!z) = true → true = z → p := by rintro p z h rfl; cases h
 have hx5 : ∀ {p : Prop} {z : Int}, decide (4096 < z) = true → (C.length : Int) = z → p := by
   intro p z h h2
   have := of_decide_eq_true h
   omega
 have hTk : ∀ {z1 z2 : Int} {s : ByteArray}, strOf [[PV.int .u8 z1], [PV.int .u8 z2]] = s → IntKind.u8.wrap 2 = z1 → IntKind.u8.wrap a = z2 → Txt s [byO 2, byO a] 2 := by
   rintro z1 z2 s rfl rfl rfl
   refine ⟨?_, Nat.le_refl _⟩
   rw [← strOf_bytes]
   show _ = strOf [byteC (byO 2), byteC (byO a)]
   rw [byO_c, byO_c]
 have hT4 : ∀ {x : Int} {s : ByteArray}, toB (byW 4 x) = s → Txt s (byW 4 x) 4 := by
   rintro x s rfl
   exact ⟨rfl, by rw [byW_len]; decide⟩
 have hT6 : ∀ {z1 z2 x : Int} {s t r : ByteArray}, s ++ t = r → strOf [[PV.int .u8 z1], [PV.int .u8 z2]] = s → IntKind.u8.wrap 2 = z1 → IntKind.u8.wrap a = z2 → toB (byW 4 x) = t → Txt r ([byO 2, byO a] ++ byW 4 x) 6 := fun e e1 e2 e3 e4 => (hTk e1 e2 e3).app (hT4 e4) e
 have hT0 : Txt ⟨⟨[0]⟩⟩ [0] 1 := ⟨rfl, Nat.le_refl _⟩
 have hT1 : Txt ⟨⟨[1]⟩⟩ [1] 1 := ⟨rfl, Nat.le_refl _⟩
 have hTb : ∀ {s : ByteArray}, toB (bitsB 1 (vs.map markN)) = s → Txt s (bitsB 1 (vs.map markN)) 1000 := by
   rintro s rfl
   refine ⟨rfl, ?_⟩
   have := (bitsB_at (W := 1) (by decide) (vs.map markN)).2
   rw [List.length_map] at this; omega
 generalize byO 2 = kb at *
 generalize byO a = ab at *
 have hhA : ∀ {zD zC zc zu : Int}, (D.length : Int) = zD → (C.length : Int) = zC → decide (zD = zC) = true → (C.length : Int) = zc → IntKind.u64.wrap zc = zu → hb0 = [kb, ab] ++ byW 4 zu ++ [0] := by
   rintro zD zC zc zu rfl rfl h rfl rfl
   have := of_decide_eq_true h
   rw [hhB, hm1 (by omega), hCl]; rfl
 have hhM : ∀ {zD zC zc zu : Int}, (D.length : Int) = zD → (C.length : Int) = zC → decide (zD = zC) = false → (C.length : Int) = zc → IntKind.u64.wrap zc = zu → hb0 = [kb, ab] ++ byW 4 zu ++ ([1] ++ bitsB 1 (vs.map markN)) := by
   rintro zD zC zc zu rfl rfl h rfl rfl
   have := of_decide_eq_false h
   rw [hhB, hm2 (by omega), hCl]; rfl
 refine PCall.x (nt := 268) (res := [.tmp 4, .tmp 5]) mixed tt_ok [] Try.func28 rfl rfl rfl c28 (Nat.le_of_ble_eq_true rfl) ?_
 intro cp cc lp Q' hcp hcc hlp hQ
 repeat' (first
   | (with_reducible exact absurd (by assumption) hxc1)
   | (with_reducible exact absurd (by assumption) hxc2)
   | (with_reducible exact absurd (by assumption) hxc3)
   | (with_reducible exact absurd (by assumption) hxc4)
   | (with_reducible refine Nm.mk ?_; intro z hz)
   | (with_reducible refine IfB.mk ?_ ?_ <;> (intro h; cases h))
   | (with_reducible refine Two.l ?_; refine Asm.mk ?_ ?_; focus (decide +kernel))
   | (with_reducible refine Two.r ?_)
   | (with_reducible refine TwoT.r ?_)
   | (with_reducible refine TwoU.r ?_)
   | (with_reducible refine Asm.mk ?_ ?_; focus (first | exact (hTk (by assumption) (by assumption) (by assumption)).side (hT4 (by assumption)) (by decide) (by decide) | exact (hT6 (by assumption) (by assumption) (by assumption) (by assumption) (by assumption)).side hT0 (by decide) (by decide) | (show (_ : Bool) = true; kernel_rfl)))
   | (with_reducible refine isCP hcp ?_; first | (refine bP hcp (hgc) ?_; intro z hz) | (refine eP hcp (hvc) ?_; rintro r rfl) | (refine eP hcp (hsc) ?_; rintro r rfl) | (refine eP hcp (hun) ?_; rintro r rfl) | (refine sP hcp (bytesW_c 4 _ (hpos (by assumption)) (by decide)) ?_; intro z hz))
   | (with_reducible refine isCC hcc ?_; first | (refine bA hcc (hgc) rfl ?_; intro z hz) | (refine bR hcc (hgc) rfl ?_; intro z hz) | (refine eA hcc (hvc) rfl ?_; rintro r rfl) | (refine eA hcc (hsc) rfl ?_; rintro r rfl) | (refine eA hcc (hun) rfl ?_; rintro r rfl) | (refine sA hcc (bytesW_c 4 _ (hpos (by assumption)) (by decide)) rfl ?_; intro z hz) | (refine sR hcc (bytesW_c 4 _ (hpos (by assumption)) (by decide)) rfl ?_; intro z hz))
   | (with_reducible refine Asm.mk2 ?_ ?_)
   | ((fail_if_success (with_reducible first | refine hQ _ ?_ | refine Side.mk ?_ | refine isCP hcp ?_ | refine isCC hcc ?_ | refine isLP hlp ?_ | refine Ix.mk ?_ | refine SIx.mk ?_ | refine SEx.mk ?_ | refine EIx.mk ?_ | refine RIx.mk ?_ | refine LkX.mk ?_ | show False | refine hR ?_ _ ?_ ?_ ?_ ?_ ?_ | refine hR2 ?_ _ ?_ ?_ ?_ ?_ ?_)); cbv))
 all_goals first | exact hx1 (by assumption) | exact hx2 (by assumption) | exact hx4 (by assumption) (by assumption) | exact hx5 (by assumption) (by assumption) | skip
 · rename_i zk hzk za hza zs1 hs1 zc hzc zu hzu zb4 hb4 zs hzs zD hzD zC hzC hpq hzr h11
   have hh := hhA hzD hzC hpq hzc hzu
   obtain ⟨hd, hhd, htx⟩ := ((hT6 hzs hs1 hzk hza hb4).app hT0 hzr).name (by decide)
   rw [hhd] at hh
   have hlen0 : (0 : Int) ≤ l.length := by omega
   refine loopT (ι := Int × ByteArray × Int × List (Nat × Val)) mixed tt_ok hcp hcc hlp [7, 9] (fun p => [(17, .p (.int .i64 p.1)), (15, .p (.str p.2.1)), (16, .p (.int .i64 p.2.2.1))]) (fun p => [.cells [.p (.int .i64 a), .p (.sl n1), .p (.sl n2), .p (.sl n3)], .cells [.p (.sl U)]]) (fun p => 0 ≤ p.1 ∧ Upto l p.1.toNat p.2.2.2 ∧ p.2.2.1 = p.2.2.2.length ∧ Txt p.2.1 (groupsB p.2.2.2) 5000000) (fun p => (l.length - p.1).toNat) (0, _, 0, []) 2 (fun _ => rfl) ⟨Int.le_refl _, Upto.zero l, rfl, ⟨rfl, by decide⟩⟩ ⟨rfl, rfl, rfl, trivial⟩ rfl ?_
   rintro R2 ⟨i2, s, q, d⟩ ⟨hi0, hU2, hq, hs⟩ hR2
   replace hi0 : 0 ≤ i2 := hi0
   replace hU2 : Upto l i2.toNat d := hU2
   replace hq : q = d.length := hq
   replace hs : Txt s (groupsB d) 5000000 := hs
   have hqn := hU2.n
   have hil := hU2.le
   have hqs : ∀ (n : Nat) (x : Val), IntKind.i64.wrap (q + 1) = ((d ++ [(n, x)]).length : Int) := by
     intro n x
     rw [wrap_in (by omega), List.length_append, List.length_singleton]; omega
   have hkz : ∀ {z : Int}, (D.length : Int) = z → decide (i2 < z) = true → i2 < l.length := fun h h1 => by have := of_decide_eq_true h1; omega
   have hend2 : ∀ {z : Int}, (D.length : Int) = z → decide (i2 < z) = false → groups l = d := by
     intro z h1 h2
     have h3 := of_decide_eq_false h2
     have e : i2.toNat = l.length := by omega
     exact Upto.end_ (e ▸ hU2)
   have hqu : u64 q = u64 (d.length : Int) := by rw [hq]
   have hTr : ∀ {x : Int} {t r : ByteArray}, t ++ s = r → toB (byW 4 x) = t → Txt r (byW 4 x ++ groupsB d) (4 + 5000000) := fun e e1 => (hT4 e1).app hs e
   repeat' (first
     | (with_reducible refine Nm.mk ?_; intro z hz)
     | (with_reducible refine IfB.mk ?_ ?_ <;> (intro h; cases h))
     | (with_reducible refine Two.l ?_; refine Asm.mk ?_ ?_; focus (decide +kernel))
     | (with_reducible refine Two.r ?_)
     | (with_reducible refine TwoT.r ?_)
     | (with_reducible refine TwoU.r ?_)
     | (with_reducible refine Asm.mk ?_ ?_; focus (first | exact (hT4 (by assumption)).side hs (by decide) (by decide) | exact htx.side (hTr (by assumption) (by assumption)) (by decide) (by decide) | (show (_ : Bool) = true; kernel_rfl)))
     | (with_reducible refine isCP hcp ?_; first | (refine sP hcp (bytesW_c 4 _ (hpos (by assumption)) (by decide)) ?_; intro z hz))
     | (with_reducible refine isCC hcc ?_; first | (refine sA hcc (bytesW_c 4 _ (hpos (by assumption)) (by decide)) rfl ?_; intro z hz) | (refine sR hcc (bytesW_c 4 _ (hpos (by assumption)) (by decide)) rfl ?_; intro z hz))
     | (with_reducible refine Asm.mk2 ?_ ?_)
     | ((fail_if_success (with_reducible first | refine hQ _ ?_ | refine Side.mk ?_ | refine isCP hcp ?_ | refine isCC hcc ?_ | refine isLP hlp ?_ | refine Ix.mk ?_ | refine SIx.mk ?_ | refine SEx.mk ?_ | refine EIx.mk ?_ | refine RIx.mk ?_ | refine LkX.mk ?_ | show False | refine hR ?_ _ ?_ ?_ ?_ ?_ ?_ | refine hR2 ?_ _ ?_ ?_ ?_ ?_ ?_)); cbv))
   · rename_i zl hzl
     have hii : i2 < l.length := hkz hzl hz
     obtain ⟨x, hx⟩ : ∃ x, l[i2.toNat]? = some x := ⟨_, List.getElem?_eq_getElem (by omega)⟩
     have hcx : clean x = x := hcl _ (List.mem_of_getElem? hx)
     have hdz : ∀ g ∈ d, g.2.s.size ≤ 1000 := fun g hg => hfew.2 _ (hU2.v g hg)
     refine loopT (ι := Int) mixed tt_ok hcp hcc hlp [7, 9, 15, 16, 17] (fun k => [(18, .p (.int .i64 k))]) (fun _ => [.cells [.p (.int .i64 a), .p (.sl n1), .p (.sl n2), .p (.sl n3)], .cells [.p (.sl U)]]) (fun k => i2 ≤ k ∧ k ≤ l.length ∧ ∀ j : Nat, i2.toNat ≤ j → j < k.toNat → l[j]? = some x) (fun k => (l.length - k).toNat) i2 2 (fun _ => rfl) ⟨Int.le_refl _, by show i2 ≤ l.length; omega, fun j h1 h2 => by omega⟩ ⟨rfl, trivial⟩ rfl ?_
     rintro R k ⟨hk0, hk1, hsame⟩ hR
     replace hk0 : i2 ≤ k := hk0
     replace hk1 : k ≤ l.length := hk1
     have hk0' : 0 ≤ k := by omega
     have hkk : ∀ {z : Int}, (D.length : Int) = z → decide (k < z) = true → k < l.length := fun h h1 => by have := of_decide_eq_true h1; omega
     have hxe : ∀ {x1 : Val}, l[i2.toNat]? = some x1 → x1 = x := fun h => by rw [hx] at h; exact (Option.some.inj h).symm
     have harm1 : ∀ {y x1 : Val} {o : Int}, l[k.toNat]? = some y → l[i2.toNat]? = some x1 → orderV y x1 = o → decide (o = 0) = true → (i2 ≤ k + 1 ∧ k + 1 ≤ l.length ∧ ∀ j : Nat, i2.toNat ≤ j → j < (k + 1).toNat → l[j]? = some x) ∧ (l.length - (k + 1)).toNat < (l.length - k).toNat ∧ IntKind.i64.wrap (k + 1) = k + 1 := by
       rintro y x1 o hy hx1 ho h0
       have hkl := (List.getElem?_eq_some_iff.1 hy).1
       rw [hxe hx1] at ho
       have e : y = x := order0 (hcl _ (List.mem_of_getElem? hy)) hcx (by rw [ho]; exact of_decide_eq_true h0)
       subst e
       refine ⟨⟨by omega, by omega, fun j h1 h2 => ?_⟩, by omega, wrap_in (by omega)⟩
       rcases Nat.lt_or_ge j k.toNat with h3 | h3
       · exact hsame j h1 h3
       · rw [show j = k.toNat by omega]; exact hy
     have harm2 : (∀ y, l[k.toNat]? = some y → y ≠ x) → ∃ n : Nat, Upto l k.toNat (d ++ [(n, x)]) ∧ IntKind.i64.wrap (k - i2) = (n : Int) ∧ IntKind.i64.wrap (q + 1) = ((d ++ [(n, x)]).length : Int) ∧ (l.length - k).toNat < (l.length - i2).toNat := by
       intro h
       have hne : i2 ≠ k := by rintro rfl; exact h x hx rfl
       refine ⟨k.toNat - i2.toNat, hU2.step hx (by omega) (by omega) (fun j h1 h2 => hsame j (by omega) h2) h, ?_, ?_, by omega⟩
       · rw [wrap_in (by omega)]; omega
       · exact hqs _ _
     have hlast : ∀ {z : Int}, (D.length : Int) = z → decide (k < z) = false → ∀ y, l[k.toNat]? = some y → y ≠ x := by
       intro z h1 h2 y hy
       have hkl := (List.getElem?_eq_some_iff.1 hy).1
       have := of_decide_eq_false h2
       omega
     have hother : ∀ {y x1 : Val} {o : Int}, l[k.toNat]? = some y → l[i2.toNat]? = some x1 → orderV y x1 = o → decide (o = 0) = false → ∀ y, l[k.toNat]? = some y → y ≠ x := by
       intro y x1 o hy hx1 ho h0 y2 hy2 e
       rw [hy] at hy2
       rw [← Option.some.inj hy2] at e
       subst e
       rw [hxe hx1, order_self] at ho
       exact of_decide_eq_false h0 ho.symm
     have hsx : ∀ {y : Val}, l[i2.toNat]? = some y → y.s.size ≤ 2000000 := fun h => Nat.le_trans (hfew.2 _ (List.mem_of_getElem? h)) (by decide)
     have hTv : ∀ {y : Val} {t : ByteArray}, l[i2.toNat]? = some y → toB (valB y) = t → Txt t (valB y) 1010 := by
       rintro y t h rfl
       exact ⟨rfl, valB_le (hfew.2 _ (List.mem_of_getElem? h))⟩
     have hTg : ∀ {y : Val} {x : Int} {t1 t2 r : ByteArray}, t1 ++ t2 = r → toB (byW 4 x) = t1 → l[i2.toNat]? = some y → toB (valB y) = t2 → Txt r (byW 4 x ++ valB y) (4 + 1010) := fun e e1 h e2 => (hT4 e1).app (hTv h e2) e
     have hnew : ∀ {n : Nat} {y : Val} {t1 t2 r r2 : ByteArray} {za zb : Int}, Upto l k.toNat (d ++ [(n, x)]) → IntKind.i64.wrap (k - i2) = (n : Int) → IntKind.i64.wrap (k - i2) = za → IntKind.u64.wrap za = zb → toB (byW 4 zb) = t1 → l[i2.toNat]? = some y → toB (valB y) = t2 → t1 ++ t2 = r → s ++ r = r2 → Txt r2 (groupsB (d ++ [(n, x)])) 5000000 := by
       intro n y t1 t2 r r2 za zb hu3 e1 e2 e3 e4 hy e5 e6 e7
       have h4 := hs.app (hTg e6 e4 hy e5) e7
       have h5 : groupsB d ++ (byW 4 zb ++ valB y) = groupsB (d ++ [(n, x)]) := by
         rw [groupsB_snoc, hxe hy, ← e3, ← e2, e1]; rfl
       rw [h5] at h4
       refine ⟨h4.e, ?_⟩
       have h6 := groupsB_len (d := d ++ [(n, x)]) fun g hg => hfew.2 _ (hu3.v g hg)
       have h7 := hu3.n
       omega
     repeat' (first
       | (with_reducible refine Nm.mk ?_; intro z hz)
       | (with_reducible refine IfB.mk ?_ ?_ <;> (intro h; cases h))
       | (with_reducible refine Two.l ?_; refine Asm.mk ?_ ?_; focus (decide +kernel))
       | (with_reducible refine Two.r ?_)
       | (with_reducible refine TwoT.r ?_)
       | (with_reducible refine TwoU.r ?_)
       | (with_reducible refine Asm.mk ?_ ?_; focus (first | exact (hT4 (by assumption)).side (hTv (by assumption) (by assumption)) (by decide) (by decide) | exact hs.side (hTg (by assumption) (by assumption) (by assumption) (by assumption)) (by decide) (by decide) | (show (_ : Bool) = true; kernel_rfl)))
       | (with_reducible refine isCP hcp ?_; first | (refine iP hcp (rorder_o _ _ _ _ _ _) ?_; intro z hz) | (refine sP hcp (bytesW_c 4 _ (hpos (by assumption)) (by decide)) ?_; intro z hz) | (refine sP hcp (plainly_c _ _ _ (hsx (by assumption))) ?_; intro z hz))
       | (with_reducible refine isCC hcc ?_; first | (refine iA hcc (rorder_o _ _ _ _ _ _) rfl ?_; intro z hz) | (refine iR hcc (rorder_o _ _ _ _ _ _) rfl ?_; intro z hz) | (refine sA hcc (bytesW_c 4 _ (hpos (by assumption)) (by decide)) rfl ?_; intro z hz) | (refine sR hcc (bytesW_c 4 _ (hpos (by assumption)) (by decide)) rfl ?_; intro z hz) | (refine sA hcc (plainly_c _ _ _ (hsx (by assumption))) rfl ?_; intro z hz) | (refine sR hcc (plainly_c _ _ _ (hsx (by assumption))) rfl ?_; intro z hz))
       | (with_reducible refine Ix.map hD cells_len (by decide) hk0' (hkk (by assumption) (by assumption)) ?_; intro y hy)
       | (with_reducible refine Ix.map hD cells_len (by decide) hi0 hii ?_; intro x1 hx1)
       | (with_reducible refine Asm.mk2 ?_ ?_)
       | ((fail_if_success (with_reducible first | refine hQ _ ?_ | refine Side.mk ?_ | refine isCP hcp ?_ | refine isCC hcc ?_ | refine isLP hlp ?_ | refine Ix.mk ?_ | refine SIx.mk ?_ | refine SEx.mk ?_ | refine EIx.mk ?_ | refine RIx.mk ?_ | refine LkX.mk ?_ | show False | refine hR ?_ _ ?_ ?_ ?_ ?_ ?_ | refine hR2 ?_ _ ?_ ?_ ?_ ?_ ?_)); cbv))
     · rename_i zc hzc hzk o ho h0
       obtain ⟨g1, g2, g3⟩ := harm1 hy hx1 ho h0
       rw [g3] at hz
       subst hz
       exact hR (k + 1) _ g1 g2 ⟨rfl, trivial⟩ ⟨rfl, rfl, rfl, rfl, rfl, trivial⟩ rfl
     · rename_i zc hzc hzk xa hxa o ho h0 za hza zu5 hzu5 t1 ht1 t2 ht2 r hr r2 hr2
       obtain ⟨n, g1, g2, g3, g4⟩ := harm2 (hother hy hxa ho h0)
       refine hR2 (k, r2, z, _) _ ⟨hk0', g1, hz.symm.trans g3, hnew g1 g2 hza hzu5 ht1 hx1 ht2 hr hr2⟩ g4 ⟨rfl, rfl, rfl, trivial⟩ ⟨rfl, rfl, trivial⟩ rfl
     · rename_i zc hzc hzk za hza zu5 hzu5 t1 ht1 t2 ht2 r hr r2 hr2
       obtain ⟨n, g1, g2, g3, g4⟩ := harm2 (hlast hzc hzk)
       refine hR2 (k, r2, z, _) _ ⟨hk0', g1, hz.symm.trans g3, hnew g1 g2 hza hzu5 ht1 hx1 ht2 hr hr2⟩ g4 ⟨rfl, rfl, rfl, trivial⟩ ⟨rfl, rfl, trivial⟩ rfl
   · rename_i zc hzc hzi zu5 hzu5 t1 ht1 r hr
     have hg := hend2 hzc hzi
     have hT := htx.app (hTr hr ht1) hz
     refine hQ _ ?_
     rw [hh, hT.e, runsB, hg, ← hzu5, hq]; rfl
 · rename_i zk hzk za hza zs1 hs1 zc hzc zu hzu zb4 hb4 zs hzs zD hzD zC hzC hpq
   have hh := hhM hzD hzC hpq hzc hzu
   have hzl : z = (vs.length : Int) := by rw [← hz, hCl]
   clear hz
   refine mintT hlp 1 10 rfl ?_
   refine loopT (ι := Int × List (List PV) × Nat) mixed tt_ok hcp hcc hlp [1, 6, 7, 8, 9, 88, 89] (fun p => [(90, .p (.int .i64 p.1)), (10, .tok 2 p.2.1)]) (fun p => [.cells [.p (.int .i64 a), .p (.sl n1), .p (.sl n2), .p (.sl n3)], .cells [.p (.sl U)], .spare p.2.2 1]) (fun p => 0 ≤ p.1 ∧ p.1 ≤ vs.length ∧ ((vs.take p.1.toNat).map markN).map u64c = p.2.1 ∧ p.2.1.length = p.2.2) (fun p => (vs.length - p.1).toNat) (0, [], 0) 3 (fun _ => rfl) ⟨Int.le_refl _, by show (0 : Int) ≤ _; omega, rfl, rfl⟩ ⟨rfl, rfl, trivial⟩ rfl ?_
   rintro R ⟨i, L, m⟩ ⟨hi0, hi1, hL, hm⟩ hR
   replace hi0 : 0 ≤ i := hi0
   replace hi1 : i ≤ vs.length := hi1
   replace hL : ((vs.take i.toNat).map markN).map u64c = L := hL
   replace hm : L.length = m := hm
   have hLn : L.length ≤ 4096 := by rw [← hL]; simp; omega
   have hok : okEs 1 L = true := by
     rw [← hL]; exact List.all_eq_true.2 fun e he => by obtain ⟨c, _, rfl⟩ := List.mem_map.1 he; rfl
   have hk : decide (i < z) = true → i < vs.length := fun h => by have := of_decide_eq_true h; omega
   have hgo : decide (i < z) = true → 0 ≤ i + 1 ∧ i + 1 ≤ vs.length ∧ (vs.length - (i + 1)).toNat < (vs.length - i).toNat ∧ IntKind.i64.wrap (i + 1) = i + 1 ∧ (i + 1).toNat = i.toNat + 1 := by
     intro h
     have := of_decide_eq_true h
     exact ⟨by omega, by omega, by omega, wrap_in (by omega), by omega⟩
   have hend : decide (i < z) = false → i.toNat = vs.length := by
     intro h
     have := of_decide_eq_false h
     omega
   have hsd : ∀ {e : List (List PV)}, okEs 1 e = true → e.length ≤ 1 → m = L.length ∧ 1 = 1 ∧ okEs 1 L = true ∧ okEs 1 e = true ∧ L.length + e.length ≤ maxLen ∧ (L.length + e.length) * 8 ≤ 140737488355328 := by
     intro e h1 h2
     refine ⟨hm.symm, rfl, hok, h1, ?_, by omega⟩
     show _ ≤ 9223372036854775807
     omega
   have hmk : ∀ {x : Val} {zb : Bool} {v : Val} {zu : Int}, decide (x.k = 0) = zb → truthV zb = v → IntKind.u64.wrap v.n = zu → zu = markN x := by
     rintro x zb v zu rfl rfl rfl
     rw [markN]
     by_cases h : x.k = 0
     · rw [if_pos h, decide_eq_true h]; decide
     · rw [if_neg h, decide_eq_false h]; decide
   have hst : ∀ {x : Val}, vs[i.toNat]? = some x → ((vs.take (i.toNat + 1)).map markN).map u64c = L ++ [[PV.int .u64 (markN x)]] := by
     intro x hx
     rw [take_snoc hx, List.map_append, List.map_append, hL]; rfl
   have hLe : decide (i < z) = false → (vs.map markN).map u64c = L := by
     intro h; rw [← hL, hend h, List.take_length]
   have hTm : ∀ {s r : ByteArray}, ⟨⟨[1]⟩⟩ ++ s = r → toB (bitsB 1 (vs.map markN)) = s → Txt r ([1] ++ bitsB 1 (vs.map markN)) 1001 := fun e e1 => hT1.app (hTb e1) e
   repeat' (first
     | (with_reducible exact absurd (by assumption) hxc1)
     | (with_reducible exact absurd (by assumption) hxc2)
     | (with_reducible exact absurd (by assumption) hxc3)
     | (with_reducible exact absurd (by assumption) hxc4)
     | (with_reducible refine Nm.mk ?_; intro z hz)
     | (with_reducible refine IfB.mk ?_ ?_ <;> (intro h; cases h))
     | (with_reducible refine Two.l ?_; refine Asm.mk ?_ ?_; focus (decide +kernel))
     | (with_reducible refine Two.r ?_)
     | (with_reducible refine TwoT.r ?_)
     | (with_reducible refine TwoU.r ?_)
     | (with_reducible refine Asm.mk ?_ ?_; focus (first | exact hT1.side (hTb (by assumption)) (by decide) (by decide) | exact (hT6 (by assumption) (by assumption) (by assumption) (by assumption) (by assumption)).side (hTm (by assumption) (by assumption)) (by decide) (by decide) | exact hsd rfl (Nat.le_refl _) | (show (_ : Bool) = true; kernel_rfl)))
     | (with_reducible refine isCP hcp ?_; first | (refine vP hcp (truth_c _) ?_; intro v hv) | (refine sP hcp (bits_c (vs.map markN) L (hLe (by assumption)) (by rw [List.length_map]; exact hvle2) 1 (by decide)) ?_; intro z hz))
     | (with_reducible refine isCC hcc ?_; first | (refine vA hcc (truth_c _) rfl ?_; intro v hv) | (refine vR hcc (truth_c _) rfl ?_; intro v hv) | (refine sA hcc (bits_c (vs.map markN) L (hLe (by assumption)) (by rw [List.length_map]; exact hvle2) 1 (by decide)) rfl ?_; intro z hz) | (refine sR hcc (bits_c (vs.map markN) L (hLe (by assumption)) (by rw [List.length_map]; exact hvle2) 1 (by decide)) rfl ?_; intro z hz))
     | (with_reducible refine Ix.map hC cells_len (by decide) hi0 (hk (by assumption)) ?_; intro x hx)
     | (with_reducible refine Asm.mk2 ?_ ?_)
     | ((fail_if_success (with_reducible first | refine hQ _ ?_ | refine Side.mk ?_ | refine isCP hcp ?_ | refine isCC hcc ?_ | refine isLP hlp ?_ | refine Ix.mk ?_ | refine SIx.mk ?_ | refine SEx.mk ?_ | refine EIx.mk ?_ | refine RIx.mk ?_ | refine LkX.mk ?_ | show False | refine hR ?_ _ ?_ ?_ ?_ ?_ ?_ | refine hR2 ?_ _ ?_ ?_ ?_ ?_ ?_)); cbv))
   · rename_i hiz zb hzb zu hzu zL hzL zm hzm
     obtain ⟨g1, g2, g3, g4, g5⟩ := hgo hiz
     rw [g4] at hz
     subst hz
     refine hR (i + 1, zL, zm) _ ⟨g1, g2, ?_, ?_⟩ g3 ⟨rfl, rfl, trivial⟩ ⟨rfl, rfl, rfl, rfl, rfl, rfl, rfl, trivial⟩ rfl
     · show ((vs.take (i + 1).toNat).map markN).map u64c = zL
       rw [g5, hst hx, ← hzL, hmk hzb hv hzu]
     · show zL.length = zm
       rw [← hzL, ← hzm, List.length_append]
   · rename_i hiz zb hzb zr hzr hzq2 h11
     obtain ⟨hd, hhd, htx⟩ := ((hT6 hzs hs1 hzk hza hb4).app (hTm hzr hzb) hzq2).name (by decide)
     rw [hhd] at hh
     clear hR hL hm hLn hok hk hgo hend hsd hmk hst hLe hTm
     have hlen0 : (0 : Int) ≤ l.length := by omega
     refine loopT (ι := Int × ByteArray × Int × List (Nat × Val)) mixed tt_ok hcp hcc hlp [7, 9] (fun p => [(17, .p (.int .i64 p.1)), (15, .p (.str p.2.1)), (16, .p (.int .i64 p.2.2.1))]) (fun p => [.cells [.p (.int .i64 a), .p (.sl n1), .p (.sl n2), .p (.sl n3)], .cells [.p (.sl U)], .spare m 1]) (fun p => 0 ≤ p.1 ∧ Upto l p.1.toNat p.2.2.2 ∧ p.2.2.1 = p.2.2.2.length ∧ Txt p.2.1 (groupsB p.2.2.2) 5000000) (fun p => (l.length - p.1).toNat) (0, _, 0, []) 3 (fun _ => rfl) ⟨Int.le_refl _, Upto.zero l, rfl, ⟨rfl, by decide⟩⟩ ⟨rfl, rfl, rfl, trivial⟩ rfl ?_
     rintro R2 ⟨i2, s, q, d⟩ ⟨hi0, hU2, hq, hs⟩ hR2
     replace hi0 : 0 ≤ i2 := hi0
     replace hU2 : Upto l i2.toNat d := hU2
     replace hq : q = d.length := hq
     replace hs : Txt s (groupsB d) 5000000 := hs
     have hqn := hU2.n
     have hil := hU2.le
     have hqs : ∀ (n : Nat) (x : Val), IntKind.i64.wrap (q + 1) = ((d ++ [(n, x)]).length : Int) := by
       intro n x
       rw [wrap_in (by omega), List.length_append, List.length_singleton]; omega
     have hkz : ∀ {z : Int}, (D.length : Int) = z → decide (i2 < z) = true → i2 < l.length := fun h h1 => by have := of_decide_eq_true h1; omega
     have hend2 : ∀ {z : Int}, (D.length : Int) = z → decide (i2 < z) = false → groups l = d := by
       intro z h1 h2
       have h3 := of_decide_eq_false h2
       have e : i2.toNat = l.length := by omega
       exact Upto.end_ (e ▸ hU2)
     have hqu : u64 q = u64 (d.length : Int) := by rw [hq]
     have hTr : ∀ {x : Int} {t r : ByteArray}, t ++ s = r → toB (byW 4 x) = t → Txt r (byW 4 x ++ groupsB d) (4 + 5000000) := fun e e1 => (hT4 e1).app hs e
     repeat' (first
       | (with_reducible refine Nm.mk ?_; intro z hz)
       | (with_reducible refine IfB.mk ?_ ?_ <;> (intro h; cases h))
       | (with_reducible refine Two.l ?_; refine Asm.mk ?_ ?_; focus (decide +kernel))
       | (with_reducible refine Two.r ?_)
       | (with_reducible refine TwoT.r ?_)
       | (with_reducible refine TwoU.r ?_)
       | (with_reducible refine Asm.mk ?_ ?_; focus (first | exact (hT4 (by assumption)).side hs (by decide) (by decide) | exact htx.side (hTr (by assumption) (by assumption)) (by decide) (by decide) | (show (_ : Bool) = true; kernel_rfl)))
       | (with_reducible refine isCP hcp ?_; first | (refine sP hcp (bytesW_c 4 _ (hpos (by assumption)) (by decide)) ?_; intro z hz))
       | (with_reducible refine isCC hcc ?_; first | (refine sA hcc (bytesW_c 4 _ (hpos (by assumption)) (by decide)) rfl ?_; intro z hz) | (refine sR hcc (bytesW_c 4 _ (hpos (by assumption)) (by decide)) rfl ?_; intro z hz))
       | (with_reducible refine Asm.mk2 ?_ ?_)
       | ((fail_if_success (with_reducible first | refine hQ _ ?_ | refine Side.mk ?_ | refine isCP hcp ?_ | refine isCC hcc ?_ | refine isLP hlp ?_ | refine Ix.mk ?_ | refine SIx.mk ?_ | refine SEx.mk ?_ | refine EIx.mk ?_ | refine RIx.mk ?_ | refine LkX.mk ?_ | show False | refine hR ?_ _ ?_ ?_ ?_ ?_ ?_ | refine hR2 ?_ _ ?_ ?_ ?_ ?_ ?_)); cbv))
     · rename_i zl hzl
       have hii : i2 < l.length := hkz hzl hz
       obtain ⟨x, hx⟩ : ∃ x, l[i2.toNat]? = some x := ⟨_, List.getElem?_eq_getElem (by omega)⟩
       have hcx : clean x = x := hcl _ (List.mem_of_getElem? hx)
       have hdz : ∀ g ∈ d, g.2.s.size ≤ 1000 := fun g hg => hfew.2 _ (hU2.v g hg)
       refine loopT (ι := Int) mixed tt_ok hcp hcc hlp [7, 9, 15, 16, 17] (fun k => [(18, .p (.int .i64 k))]) (fun _ => [.cells [.p (.int .i64 a), .p (.sl n1), .p (.sl n2), .p (.sl n3)], .cells [.p (.sl U)], .spare m 1]) (fun k => i2 ≤ k ∧ k ≤ l.length ∧ ∀ j : Nat, i2.toNat ≤ j → j < k.toNat → l[j]? = some x) (fun k => (l.length - k).toNat) i2 3 (fun _ => rfl) ⟨Int.le_refl _, by show i2 ≤ l.length; omega, fun j h1 h2 => by omega⟩ ⟨rfl, trivial⟩ rfl ?_
       rintro R k ⟨hk0, hk1, hsame⟩ hR
       replace hk0 : i2 ≤ k := hk0
       replace hk1 : k ≤ l.length := hk1
       have hk0' : 0 ≤ k := by omega
       have hkk : ∀ {z : Int}, (D.length : Int) = z → decide (k < z) = true → k < l.length := fun h h1 => by have := of_decide_eq_true h1; omega
       have hxe : ∀ {x1 : Val}, l[i2.toNat]? = some x1 → x1 = x := fun h => by rw [hx] at h; exact (Option.some.inj h).symm
       have harm1 : ∀ {y x1 : Val} {o : Int}, l[k.toNat]? = some y → l[i2.toNat]? = some x1 → orderV y x1 = o → decide (o = 0) = true → (i2 ≤ k + 1 ∧ k + 1 ≤ l.length ∧ ∀ j : Nat, i2.toNat ≤ j → j < (k + 1).toNat → l[j]? = some x) ∧ (l.length - (k + 1)).toNat < (l.length - k).toNat ∧ IntKind.i64.wrap (k + 1) = k + 1 := by
         rintro y x1 o hy hx1 ho h0
         have hkl := (List.getElem?_eq_some_iff.1 hy).1
         rw [hxe hx1] at ho
         have e : y = x := order0 (hcl _ (List.mem_of_getElem? hy)) hcx (by rw [ho]; exact of_decide_eq_true h0)
         subst e
         refine ⟨⟨by omega, by omega, fun j h1 h2 => ?_⟩, by omega, wrap_in (by omega)⟩
         rcases Nat.lt_or_ge j k.toNat with h3 | h3
         · exact hsame j h1 h3
         · rw [show j = k.toNat by omega]; exact hy
       have harm2 : (∀ y, l[k.toNat]? = some y → y ≠ x) → ∃ n : Nat, Upto l k.toNat (d ++ [(n, x)]) ∧ IntKind.i64.wrap (k - i2) = (n : Int) ∧ IntKind.i64.wrap (q + 1) = ((d ++ [(n, x)]).length : Int) ∧ (l.length - k).toNat < (l.length - i2).toNat := by
         intro h
         have hne : i2 ≠ k := by rintro rfl; exact h x hx rfl
         refine ⟨k.toNat - i2.toNat, hU2.step hx (by omega) (by omega) (fun j h1 h2 => hsame j (by omega) h2) h, ?_, ?_, by omega⟩
         · rw [wrap_in (by omega)]; omega
         · exact hqs _ _
       have hlast : ∀ {z : Int}, (D.length : Int) = z → decide (k < z) = false → ∀ y, l[k.toNat]? = some y → y ≠ x := by
         intro z h1 h2 y hy
         have hkl := (List.getElem?_eq_some_iff.1 hy).1
         have := of_decide_eq_false h2
         omega
       have hother : ∀ {y x1 : Val} {o : Int}, l[k.toNat]? = some y → l[i2.toNat]? = some x1 → orderV y x1 = o → decide (o = 0) = false → ∀ y, l[k.toNat]? = some y → y ≠ x := by
         intro y x1 o hy hx1 ho h0 y2 hy2 e
         rw [hy] at hy2
         rw [← Option.some.inj hy2] at e
         subst e
         rw [hxe hx1, order_self] at ho
         exact of_decide_eq_false h0 ho.symm
       have hsx : ∀ {y : Val}, l[i2.toNat]? = some y → y.s.size ≤ 2000000 := fun h => Nat.le_trans (hfew.2 _ (List.mem_of_getElem? h)) (by decide)
       have hTv : ∀ {y : Val} {t : ByteArray}, l[i2.toNat]? = some y → toB (valB y) = t → Txt t (valB y) 1010 := by
         rintro y t h rfl
         exact ⟨rfl, valB_le (hfew.2 _ (List.mem_of_getElem? h))⟩
       have hTg : ∀ {y : Val} {x : Int} {t1 t2 r : ByteArray}, t1 ++ t2 = r → toB (byW 4 x) = t1 → l[i2.toNat]? = some y → toB (valB y) = t2 → Txt r (byW 4 x ++ valB y) (4 + 1010) := fun e e1 h e2 => (hT4 e1).app (hTv h e2) e
       have hnew : ∀ {n : Nat} {y : Val} {t1 t2 r r2 : ByteArray} {za zb : Int}, Upto l k.toNat (d ++ [(n, x)]) → IntKind.i64.wrap (k - i2) = (n : Int) → IntKind.i64.wrap (k - i2) = za → IntKind.u64.wrap za = zb → toB (byW 4 zb) = t1 → l[i2.toNat]? = some y → toB (valB y) = t2 → t1 ++ t2 = r → s ++ r = r2 → Txt r2 (groupsB (d ++ [(n, x)])) 5000000 := by
         intro n y t1 t2 r r2 za zb hu3 e1 e2 e3 e4 hy e5 e6 e7
         have h4 := hs.app (hTg e6 e4 hy e5) e7
         have h5 : groupsB d ++ (byW 4 zb ++ valB y) = groupsB (d ++ [(n, x)]) := by
           rw [groupsB_snoc, hxe hy, ← e3, ← e2, e1]; rfl
         rw [h5] at h4
         refine ⟨h4.e, ?_⟩
         have h6 := groupsB_len (d := d ++ [(n, x)]) fun g hg => hfew.2 _ (hu3.v g hg)
         have h7 := hu3.n
         omega
       repeat' (first
         | (with_reducible refine Nm.mk ?_; intro z hz)
         | (with_reducible refine IfB.mk ?_ ?_ <;> (intro h; cases h))
         | (with_reducible refine Two.l ?_; refine Asm.mk ?_ ?_; focus (decide +kernel))
         | (with_reducible refine Two.r ?_)
         | (with_reducible refine TwoT.r ?_)
         | (with_reducible refine TwoU.r ?_)
         | (with_reducible refine Asm.mk ?_ ?_; focus (first | exact (hT4 (by assumption)).side (hTv (by assumption) (by assumption)) (by decide) (by decide) | exact hs.side (hTg (by assumption) (by assumption) (by assumption) (by assumption)) (by decide) (by decide) | (show (_ : Bool) = true; kernel_rfl)))
         | (with_reducible refine isCP hcp ?_; first | (refine iP hcp (rorder_o _ _ _ _ _ _) ?_; intro z hz) | (refine sP hcp (bytesW_c 4 _ (hpos (by assumption)) (by decide)) ?_; intro z hz) | (refine sP hcp (plainly_c _ _ _ (hsx (by assumption))) ?_; intro z hz))
         | (with_reducible refine isCC hcc ?_; first | (refine iA hcc (rorder_o _ _ _ _ _ _) rfl ?_; intro z hz) | (refine iR hcc (rorder_o _ _ _ _ _ _) rfl ?_; intro z hz) | (refine sA hcc (bytesW_c 4 _ (hpos (by assumption)) (by decide)) rfl ?_; intro z hz) | (refine sR hcc (bytesW_c 4 _ (hpos (by assumption)) (by decide)) rfl ?_; intro z hz) | (refine sA hcc (plainly_c _ _ _ (hsx (by assumption))) rfl ?_; intro z hz) | (refine sR hcc (plainly_c _ _ _ (hsx (by assumption))) rfl ?_; intro z hz))
         | (with_reducible refine Ix.map hD cells_len (by decide) hk0' (hkk (by assumption) (by assumption)) ?_; intro y hy)
         | (with_reducible refine Ix.map hD cells_len (by decide) hi0 hii ?_; intro x1 hx1)
         | (with_reducible refine Asm.mk2 ?_ ?_)
         | ((fail_if_success (with_reducible first | refine hQ _ ?_ | refine Side.mk ?_ | refine isCP hcp ?_ | refine isCC hcc ?_ | refine isLP hlp ?_ | refine Ix.mk ?_ | refine SIx.mk ?_ | refine SEx.mk ?_ | refine EIx.mk ?_ | refine RIx.mk ?_ | refine LkX.mk ?_ | show False | refine hR ?_ _ ?_ ?_ ?_ ?_ ?_ | refine hR2 ?_ _ ?_ ?_ ?_ ?_ ?_)); cbv))
       · rename_i zc hzc hzk o ho h0
         obtain ⟨g1, g2, g3⟩ := harm1 hy hx1 ho h0
         rw [g3] at hz
         subst hz
         exact hR (k + 1) _ g1 g2 ⟨rfl, trivial⟩ ⟨rfl, rfl, rfl, rfl, rfl, trivial⟩ rfl
       · rename_i zc hzc hzk xa hxa o ho h0 za hza zu5 hzu5 t1 ht1 t2 ht2 r hr r2 hr2
         obtain ⟨n, g1, g2, g3, g4⟩ := harm2 (hother hy hxa ho h0)
         refine hR2 (k, r2, z, _) _ ⟨hk0', g1, hz.symm.trans g3, hnew g1 g2 hza hzu5 ht1 hx1 ht2 hr hr2⟩ g4 ⟨rfl, rfl, rfl, trivial⟩ ⟨rfl, rfl, trivial⟩ rfl
       · rename_i zc hzc hzk za hza zu5 hzu5 t1 ht1 t2 ht2 r hr r2 hr2
         obtain ⟨n, g1, g2, g3, g4⟩ := harm2 (hlast hzc hzk)
         refine hR2 (k, r2, z, _) _ ⟨hk0', g1, hz.symm.trans g3, hnew g1 g2 hza hzu5 ht1 hx1 ht2 hr hr2⟩ g4 ⟨rfl, rfl, rfl, trivial⟩ ⟨rfl, rfl, trivial⟩ rfl
     · rename_i zc hzc hzi zu5 hzu5 t1 ht1 r hr
       have hg := hend2 hzc hzi
       have hT := htx.app (hTr hr ht1) hz
       refine hQ _ ?_
       rw [hh, hT.e, runsB, hg, ← hzu5, hq]; rfl
end Go.Proofs.Ytcajncmjlmpkgaa

namespace Go.Proofs.Ytcajncmjlmpkgaa
open Go Go.RowKit
set_option maxRecDepth 100000
set_option linter.unusedSimpArgs false
set_option linter.unusedVariables false
attribute [local irreducible] valB plainB bitsB byW
set_option maxHeartbeats 1000000 in
theorem rwrite3_c (a : Int) (B : List Bool) (N : List Int) (S : List ByteArray) (n1 n2 n3 : List (List PV)) (h1 : B.map boolc = n1) (h2 : N.map i64c = n2) (h3 : S.map strc = n3) (hg : goodV ⟨a, B, N, S⟩ = true) (hB : B.length ≤ 4096) :
   PCall Try.prog 28 [.agg [.int .i64 a, .sl n1, .sl n2, .sl n3], .int .i64 3] fun r => r = [.str (toB (headB 3 ⟨a, B, N, S⟩ ++ wordsB (stand (valuesM ⟨a, B, N, S⟩)))), .int .i64 0] := by
 have hgc := rgood_c a B N S n1 n2 n3 h1 h2 h3
 have hm1 := @markB_all ⟨a, B, N, S⟩
 have hm2 : ¬ (stand (valuesM ⟨a, B, N, S⟩)).length = (valuesM ⟨a, B, N, S⟩).length → markB ⟨a, B, N, S⟩ = [1] ++ bitsB 1 ((valuesM ⟨a, B, N, S⟩).map markN) := fun h => by rw [markB_some h, marks_values hg]
 have hhB : headB 3 ⟨a, B, N, S⟩ = [byO 3, byO a] ++ byW 4 (u64 (valuesM ⟨a, B, N, S⟩).length) ++ markB ⟨a, B, N, S⟩ := rfl
 have hvc := rvalues_c a B N S n1 n2 n3 h1 h2 h3 (by omega)
 have hvc0 := values_clean ⟨a, B, N, S⟩
 have hvle := values_len ⟨a, B, N, S⟩
 have hfew : Few (stand (valuesM ⟨a, B, N, S⟩)) := stand_few hB
 obtain ⟨hb0, hb0e⟩ : ∃ x, headB 3 ⟨a, B, N, S⟩ = x := ⟨_, rfl⟩
 obtain ⟨mk, hmk⟩ : ∃ x, markB ⟨a, B, N, S⟩ = x := ⟨_, rfl⟩
 rw [hb0e] at hhB ⊢
 rw [hmk] at hhB hm1 hm2
 rw [hg] at hgc
 obtain ⟨vs, hvs⟩ : ∃ vs, valuesM ⟨a, B, N, S⟩ = vs := ⟨_, rfl⟩
 obtain ⟨C, hC⟩ : ∃ C, vs.map Val.cells = C := ⟨_, rfl⟩
 rw [hvs] at hvc hvc0 hvle hfew hm1 hm2 hhB ⊢
 rw [hC] at hvc
 clear hvs hb0e hmk hg
 have hCl : C.length = vs.length := by rw [← hC, List.length_map]
 have hvle2 : vs.length ≤ 4096 := Nat.le_trans hvle hB
 have hsc := stand_c vs C hC (by omega)
 have hsl : (stand vs).length ≤ vs.length := List.length_filter_le _ _
 have hcl : Clean (stand vs) := fun x hx => hvc0 x (stand_mem hx)
 obtain ⟨l, hl⟩ : ∃ l, stand vs = l := ⟨_, rfl⟩
 rw [hl] at hsc hsl hcl hfew hm1 hm2 ⊢
 obtain ⟨D, hD⟩ : ∃ D, l.map Val.cells = D := ⟨_, rfl⟩
 rw [hD] at hsc
 have hDl : D.length = l.length := by rw [← hD, List.length_map]
 have hl0 : l.length ≤ 4096 := hfew.1
 have hun := runlike_c l D hD (by omega) hcl
 obtain ⟨u, hu⟩ : ∃ u, words l = u := ⟨_, rfl⟩
 rw [hu] at hun
 obtain ⟨U, hU⟩ : ∃ U, u.map Val.cells = U := ⟨_, rfl⟩
 rw [hU] at hun
 have hUl : U.length = u.length := by rw [← hU, List.length_map]
 have hul : u.length ≤ l.length := hu ▸ words_len l
 have hfu : Few u := hu ▸ few_words hfew hcl
 have hrise : Rise u := hu ▸ (words_ok hcl).1
 have hmem : ∀ {x : Val}, x ∈ l → x ∈ u := fun h => hu ▸ ((words_ok hcl).2.1 _).2 h
 have hu2 : u.length ≤ 1000000 := by omega
 have hUn : ∀ {n : Int}, (U.length : Int) = n → n = u.length := by rintro n rfl; rw [hUl]
 have hlen : ∀ {W w : Int}, lenI W = w → 0 ≤ w ∧ w ≤ 64 := by rintro W w rfl; exact lenI_le W
 have hu64 : ∀ {x m : Int}, IntKind.u64.wrap x = m → 0 ≤ m ∧ m < 18446744073709551616 := fun h => h ▸ u64_in _
 have hwid : ∀ {z5 z4 z3 z2 w : Int}, (U.length : Int) = z5 → (if z5 < 1 then 1 else z5) = z4 → IntKind.i64.wrap (z4 - 1) = z3 → IntKind.u64.wrap z3 = z2 → lenI z2 = w → w = wordsW u := by
   rintro z5 z4 z3 z2 w rfl rfl rfl rfl rfl
   rw [hUl, wordsW]
   by_cases h : u = []
   · rw [if_pos h, h, List.length_nil]; exact lenI_zero
   · have h0 : 0 < u.length := List.length_pos_iff.2 h
     have e : IntKind.u64.wrap ((u.length : Int) - 1) = (u.length : Int) - 1 := by
       have hz1 : 0 ≤ (u.length : Int) - 1 ∧ (u.length : Int) - 1 < 18446744073709551616 := by omega
       generalize (u.length : Int) - 1 = q at *
       simp [IntKind.wrap, IntKind.bits, IntKind.signed]; omega
     rw [if_neg h, if_neg (by omega), wrap_in (by omega), e]
 clear hl hvc0
 have hpos : ∀ {x m : Int}, IntKind.u64.wrap x = m → 0 ≤ m := fun h => h ▸ u64_pos _
 have hx1 : ∀ {p : Prop}, decide ((3 : Int) < 1) = true → p := fun h => absurd h (by decide)
 have hx2 : ∀ {p : Prop}, decide ((4 : Int) < 3) = true → p := fun h => absurd h (by decide)
 have hxc1 : ¬ decide ((3 : Int) = 1) = true := by decide
 have hxc2 : ¬ decide ((3 : Int) = 2) = true := by decide
 have hxc3 : ¬ decide ((3 : Int) = 3) = false := by decide
 have hxc4 : ¬ decide ((3 : Int) = 4) = true := by decide
 have hx4 : ∀ {p : Prop} {z : Bool}, (!z) = true → true = z → p := by rintro p z h rfl; cases h
 have hx5 : ∀ {p : Prop} {z : Int}, decide (4096 < z) = true → (C.length : Int) = z → p := by
   intro p z h h2
   have := of_decide_eq_true h
   omega
 have hx10 : ∀ {p : Prop} {z : Int}, decide (65535 < z) = true → (U.length : Int) = z → p := by
   intro p z h h2
   have := of_decide_eq_true h
   omega
 have hT2 : ∀ {x : Int} {s : ByteArray}, toB (byW 2 x) = s → Txt s (byW 2 x) 2 := by
   rintro x s rfl
   exact ⟨rfl, by rw [byW_len]; decide⟩
 have hTk : ∀ {z1 z2 : Int} {s : ByteArray}, strOf [[PV.int .u8 z1], [PV.int .u8 z2]] = s → IntKind.u8.wrap 3 = z1 → IntKind.u8.wrap a = z2 → Txt s [byO 3, byO a] 2 := by
   rintro z1 z2 s rfl rfl rfl
   refine ⟨?_, Nat.le_refl _⟩
   rw [← strOf_bytes]
   show _ = strOf [byteC (byO 3), byteC (byO a)]
   rw [byO_c, byO_c]
 have hT4 : ∀ {x : Int} {s : ByteArray}, toB (byW 4 x) = s → Txt s (byW 4 x) 4 := by
   rintro x s rfl
   exact ⟨rfl, by rw [byW_len]; decide⟩
 have hT6 : ∀ {z1 z2 x : Int} {s t r : ByteArray}, s ++ t = r → strOf [[PV.int .u8 z1], [PV.int .u8 z2]] = s → IntKind.u8.wrap 3 = z1 → IntKind.u8.wrap a = z2 → toB (byW 4 x) = t → Txt r ([byO 3, byO a] ++ byW 4 x) 6 := fun e e1 e2 e3 e4 => (hTk e1 e2 e3).app (hT4 e4) e
 have hT0 : Txt ⟨⟨[0]⟩⟩ [0] 1 := ⟨rfl, Nat.le_refl _⟩
 have hTA : ∀ {z1 z2 x : Int} {s t r q : ByteArray}, r ++ ⟨⟨[0]⟩⟩ = q → s ++ t = r → strOf [[PV.int .u8 z1], [PV.int .u8 z2]] = s → IntKind.u8.wrap 3 = z1 → IntKind.u8.wrap a = z2 → toB (byW 4 x) = t → Txt q ([byO 3, byO a] ++ byW 4 x ++ [0]) (6 + 1) := fun e0 e e1 e2 e3 e4 => (hT6 e e1 e2 e3 e4).app hT0 e0
 have hT1 : Txt ⟨⟨[1]⟩⟩ [1] 1 := ⟨rfl, Nat.le_refl _⟩
 have hTb : ∀ {s : ByteArray}, toB (bitsB 1 (vs.map markN)) = s → Txt s (bitsB 1 (vs.map markN)) 1000 := by
   rintro s rfl
   refine ⟨rfl, ?_⟩
   have := (bitsB_at (W := 1) (by decide) (vs.map markN)).2
   rw [List.length_map] at this; omega
 generalize byO 3 = kb at *
 generalize byO a = ab at *
 have hhA : ∀ {zD zC zc zu : Int}, (D.length : Int) = zD → (C.length : Int) = zC → decide (zD = zC) = true → (C.length : Int) = zc → IntKind.u64.wrap zc = zu → hb0 = [kb, ab] ++ byW 4 zu ++ [0] := by
   rintro zD zC zc zu rfl rfl h rfl rfl
   have := of_decide_eq_true h
   rw [hhB, hm1 (by omega), hCl]; rfl
 have hhM : ∀ {zD zC zc zu : Int}, (D.length : Int) = zD → (C.length : Int) = zC → decide (zD = zC) = false → (C.length : Int) = zc → IntKind.u64.wrap zc = zu → hb0 = [kb, ab] ++ byW 4 zu ++ ([1] ++ bitsB 1 (vs.map markN)) := by
   rintro zD zC zc zu rfl rfl h rfl rfl
   have := of_decide_eq_false h
   rw [hhB, hm2 (by omega), hCl]; rfl
 refine PCall.x (nt := 268) (res := [.tmp 4, .tmp 5]) mixed tt_ok [] Try.func28 rfl rfl rfl c28 (Nat.le_of_ble_eq_true rfl) ?_
 intro cp cc lp Q' hcp hcc hlp hQ
 repeat' (first
   | (with_reducible exact absurd (by assumption) hxc1)
   | (with_reducible exact absurd (by assumption) hxc2)
   | (with_reducible exact absurd (by assumption) hxc3)
   | (with_reducible exact absurd (by assumption) hxc4)
   | (with_reducible refine Nm.mk ?_; intro z hz)
   | (with_reducible refine IfB.mk ?_ ?_ <;> (intro h; cases h))
   | (with_reducible refine Two.l ?_; refine Asm.mk ?_ ?_; focus (decide +kernel))
   | (with_reducible refine Two.r ?_)
   | (with_reducible refine TwoT.r ?_)
   | (with_reducible refine TwoU.r ?_)
   | (with_reducible refine Asm.mk ?_ ?_; focus (first | exact (hTk (by assumption) (by assumption) (by assumption)).side (hT4 (by assumption)) (by decide) (by decide) | exact (hT6 (by assumption) (by assumption) (by assumption) (by assumption) (by assumption)).side hT0 (by decide) (by decide) | exact (hTA (by assumption) (by assumption) (by assumption) (by assumption) (by assumption) (by assumption)).side (hT2 (by assumption)) (by decide) (by decide) | (show (_ : Bool) = true; kernel_rfl)))
   | (with_reducible refine isCP hcp ?_; first | (refine bP hcp (hgc) ?_; intro z hz) | (refine eP hcp (hvc) ?_; rintro r rfl) | (refine eP hcp (hsc) ?_; rintro r rfl) | (refine eP hcp (hun) ?_; rintro r rfl) | (refine sP hcp (bytesW_c 4 _ (hpos (by assumption)) (by decide)) ?_; intro z hz) | (refine sP hcp (bytesW_c 2 _ (hpos (by assumption)) (by decide)) ?_; intro z hz))
   | (with_reducible refine isCC hcc ?_; first | (refine bA hcc (hgc) rfl ?_; intro z hz) | (refine bR hcc (hgc) rfl ?_; intro z hz) | (refine eA hcc (hvc) rfl ?_; rintro r rfl) | (refine eA hcc (hsc) rfl ?_; rintro r rfl) | (refine eA hcc (hun) rfl ?_; rintro r rfl) | (refine sA hcc (bytesW_c 4 _ (hpos (by assumption)) (by decide)) rfl ?_; intro z hz) | (refine sR hcc (bytesW_c 4 _ (hpos (by assumption)) (by decide)) rfl ?_; intro z hz) | (refine sA hcc (bytesW_c 2 _ (hpos (by assumption)) (by decide)) rfl ?_; intro z hz) | (refine sR hcc (bytesW_c 2 _ (hpos (by assumption)) (by decide)) rfl ?_; intro z hz))
   | (with_reducible refine Asm.mk2 ?_ ?_)
   | ((fail_if_success (with_reducible first | refine hQ _ ?_ | refine Side.mk ?_ | refine isCP hcp ?_ | refine isCC hcc ?_ | refine isLP hlp ?_ | refine Ix.mk ?_ | refine SIx.mk ?_ | refine SEx.mk ?_ | refine EIx.mk ?_ | refine RIx.mk ?_ | refine LkX.mk ?_ | show False | refine hR ?_ _ ?_ ?_ ?_ ?_ ?_ | refine hR2 ?_ _ ?_ ?_ ?_ ?_ ?_)); cbv))
 all_goals first | exact hx1 (by assumption) | exact hx2 (by assumption) | exact hx4 (by assumption) (by assumption) | exact hx5 (by assumption) (by assumption) | exact hx10 (by assumption) (by assumption) | skip
 · rename_i zk hzk za hza zs1 hs1 zc hzc zu hzu zb4 hb4 zs hzs zD hzD zC hzC hpq zr hzr h11 h12 h13 zU hzU zw hzw z2 hz2 zr2 hzr2
   have hh := hhA hzD hzC hpq hzc hzu
   obtain ⟨hd, hhd, htx⟩ := (((hT6 hzs hs1 hzk hza hb4).app hT0 hzr).app (hT2 hz2) hzr2).name (by decide)
   have hh2 : hb0 ++ byW 2 (u64 u.length) = hd := by rw [← hhd, hh, ← hzw, ← hzU, hUl]; rfl
   have hzl : z = (u.length : Int) := by rw [← hz, hUl]
   clear hz
   refine loopT (ι := Int × ByteArray) mixed tt_ok hcp hcc hlp [7, 8, 179, 180] (fun p => [(181, .p (.int .i64 p.1)), (9, .p (.str p.2))]) (fun p => [.cells [.p (.int .i64 a), .p (.sl n1), .p (.sl n2), .p (.sl n3)], .cells [.p (.sl U)]]) (fun p => 0 ≤ p.1 ∧ p.1 ≤ u.length ∧ Txt p.2 (hd ++ plainB (u.take p.1.toNat)) 5000000) (fun p => (u.length - p.1).toNat) (0, _) 2 (fun _ => rfl) ⟨Int.le_refl _, by show (0 : Int) ≤ _; omega, ⟨by rw [htx.e]; simp [plainB_nil], by have := htx.le; simp [plainB_nil]; omega⟩⟩ ⟨rfl, rfl, trivial⟩ rfl ?_
   rintro R2 ⟨j, s⟩ ⟨hj0, hj1, hs⟩ hR2
   replace hj0 : 0 ≤ j := hj0
   replace hj1 : j ≤ u.length := hj1
   replace hs : Txt s (hd ++ plainB (u.take j.toNat)) 5000000 := hs
   have hk3 : decide (j < z) = true → j < u.length := fun h => by have := of_decide_eq_true h; omega
   have hgo3 : decide (j < z) = true → 0 ≤ j + 1 ∧ j + 1 ≤ u.length ∧ (u.length - (j + 1)).toNat < (u.length - j).toNat ∧ IntKind.i64.wrap (j + 1) = j + 1 ∧ (j + 1).toNat = j.toNat + 1 := by
     intro h
     have := of_decide_eq_true h
     exact ⟨by omega, by omega, by omega, wrap_in (by omega), by omega⟩
   have hend3 : decide (j < z) = false → j.toNat = u.length := by
     intro h
     have := of_decide_eq_false h
     omega
   have hsx3 : ∀ {y : Val}, u[j.toNat]? = some y → y.s.size ≤ 2000000 := fun h => Nat.le_trans (hfu.2 _ (List.mem_of_getElem? h)) (by decide)
   have hTv : ∀ {y : Val} {t : ByteArray}, u[j.toNat]? = some y → toB (valB y) = t → Txt t (valB y) 1010 := by
     rintro y t h rfl
     exact ⟨rfl, valB_le (hfu.2 _ (List.mem_of_getElem? h))⟩
   have hnx3 : ∀ {y : Val} {t r : ByteArray}, u[j.toNat]? = some y → toB (valB y) = t → s ++ t = r → Txt r (hd ++ plainB (u.take (j.toNat + 1))) 5000000 := by
     intro y t r h1 h2 h3
     have h4 := hs.app (hTv h1 h2) h3
     rw [List.append_assoc, ← plainB_succ h1] at h4
     refine ⟨h4.e, ?_⟩
     have h5 := plainB_len (l := u.take (j.toNat + 1)) (hfu.take _).2
     have h6 := (hfu.take (j.toNat + 1)).1
     have h7 := htx.le
     rw [List.length_append]; omega
   repeat' (first
     | (with_reducible refine Nm.mk ?_; intro z hz)
     | (with_reducible refine IfB.mk ?_ ?_ <;> (intro h; cases h))
     | (with_reducible refine Two.l ?_; refine Asm.mk ?_ ?_; focus (decide +kernel))
     | (with_reducible refine Two.r ?_)
     | (with_reducible refine TwoT.r ?_)
     | (with_reducible refine TwoU.r ?_)
     | (with_reducible refine Asm.mk ?_ ?_; focus (first | exact hs.side (hTv (by assumption) (by assumption)) (by decide) (by decide) | (show (_ : Bool) = true; kernel_rfl)))
     | (with_reducible refine isCP hcp ?_; first | (refine sP hcp (plainly_c _ _ _ (hsx3 (by assumption))) ?_; intro z hz))
     | (with_reducible refine isCC hcc ?_; first | (refine sA hcc (plainly_c _ _ _ (hsx3 (by assumption))) rfl ?_; intro z hz) | (refine sR hcc (plainly_c _ _ _ (hsx3 (by assumption))) rfl ?_; intro z hz))
     | (with_reducible refine Ix.map hU cells_len (by decide) hj0 (hk3 (by assumption)) ?_; intro y hy)
     | (with_reducible refine Asm.mk2 ?_ ?_)
     | ((fail_if_success (with_reducible first | refine hQ _ ?_ | refine Side.mk ?_ | refine isCP hcp ?_ | refine isCC hcc ?_ | refine isLP hlp ?_ | refine Ix.mk ?_ | refine SIx.mk ?_ | refine SEx.mk ?_ | refine EIx.mk ?_ | refine RIx.mk ?_ | refine LkX.mk ?_ | show False | refine hR ?_ _ ?_ ?_ ?_ ?_ ?_ | refine hR2 ?_ _ ?_ ?_ ?_ ?_ ?_)); cbv))
   · rename_i hjz t ht zr hzr
     obtain ⟨g1, g2, g3, g4, g5⟩ := hgo3 hjz
     rw [g4] at hz
     subst hz
     refine hR2 (j + 1, zr) _ ⟨g1, g2, ?_⟩ g3 ⟨rfl, rfl, trivial⟩ ⟨rfl, rfl, rfl, rfl, trivial⟩ rfl
     show Txt zr (_ ++ plainB (_)) 5000000
     rw [g5]
     exact hnx3 hy ht hzr
   · rename_i hjz
     have hT := hend3 hjz ▸ hs
     rw [List.take_length] at hT
     clear hs hk3 hgo3 hsx3 hTv hnx3 hR2
     have hzl2 : z = (l.length : Int) := by rw [← hz, hDl]
     clear hz
     refine mintT hlp 1 21 rfl ?_
     refine loopT (ι := Int × List (List PV) × Nat) mixed tt_ok hcp hcc hlp [8, 9, 190, 191] (fun p => [(192, .p (.int .i64 p.1)), (21, .tok 2 p.2.1)]) (fun p => [.cells [.p (.int .i64 a), .p (.sl n1), .p (.sl n2), .p (.sl n3)], .cells [.p (.sl U)], .spare p.2.2 1]) (fun p => 0 ≤ p.1 ∧ p.1 ≤ l.length ∧ ((l.take p.1.toNat).map (fun v => u64 (placeV v u))).map u64c = p.2.1 ∧ p.2.1.length = p.2.2) (fun p => (l.length - p.1).toNat) (0, [], 0) 3 (fun _ => rfl) ⟨Int.le_refl _, by show (0 : Int) ≤ _; omega, rfl, rfl⟩ ⟨rfl, rfl, trivial⟩ rfl ?_
     rintro R ⟨i, L, m2⟩ ⟨hi0, hi1, hL, hm⟩ hR
     replace hi0 : 0 ≤ i := hi0
     replace hi1 : i ≤ l.length := hi1
     replace hL : ((l.take i.toNat).map (fun v => u64 (placeV v u))).map u64c = L := hL
     replace hm : L.length = m2 := hm
     have hLn : L.length ≤ 4096 := by rw [← hL]; simp; omega
     have hok : okEs 1 L = true := by
       rw [← hL]; exact List.all_eq_true.2 fun e he => by obtain ⟨c, _, rfl⟩ := List.mem_map.1 he; rfl
     have hk : decide (i < z) = true → i < l.length := fun h => by have := of_decide_eq_true h; omega
     have hgo : decide (i < z) = true → 0 ≤ i + 1 ∧ i + 1 ≤ l.length ∧ (l.length - (i + 1)).toNat < (l.length - i).toNat ∧ IntKind.i64.wrap (i + 1) = i + 1 ∧ (i + 1).toNat = i.toNat + 1 := by
       intro h
       have := of_decide_eq_true h
       exact ⟨by omega, by omega, by omega, wrap_in (by omega), by omega⟩
     have hend : decide (i < z) = false → i.toNat = l.length := by
       intro h
       have := of_decide_eq_false h
       omega
     have hsd : ∀ {e : List (List PV)}, okEs 1 e = true → e.length ≤ 1 → m2 = L.length ∧ 1 = 1 ∧ okEs 1 L = true ∧ okEs 1 e = true ∧ L.length + e.length ≤ maxLen ∧ (L.length + e.length) * 8 ≤ 140737488355328 := by
       intro e h1 h2
       refine ⟨hm.symm, rfl, hok, h1, ?_, by omega⟩
       show _ ≤ 9223372036854775807
       omega
     have hst : ∀ {x : Val}, l[i.toNat]? = some x → ((l.take (i.toNat + 1)).map (fun v => u64 (placeV v u))).map u64c = L ++ [[PV.int .u64 ((fun v => u64 (placeV v u)) x)]] := by
       intro x hx
       rw [take_snoc hx, List.map_append, List.map_append, hL]; rfl
     have hLe : decide (i < z) = false → (l.map (fun v => u64 (placeV v u))).map u64c = L := by
       intro h; rw [← hL, hend h, List.take_length]
     have hlm : (l.map (fun v => u64 (placeV v u))).length ≤ 4096 := by rw [List.length_map]; exact hl0
     have hpl : ∀ {x : Val}, l[i.toNat]? = some x → u[placeV x u]? = some x := fun h => placeV_ok (hmem (List.mem_of_getElem? h))
     have hTb3 : ∀ {W w : Int} {t : ByteArray}, lenI W = w → toB (bitsB w (l.map (fun v => u64 (placeV v u)))) = t → Txt t (bitsB w (l.map (fun v => u64 (placeV v u)))) 50000 := by
       rintro W w t rfl rfl
       exact ⟨rfl, bits_le (lenI_le W) (by rw [List.length_map]; exact hl0)⟩
     repeat' (first
       | (with_reducible refine Nm.mk ?_; intro z hz)
       | (with_reducible refine IfB.mk ?_ ?_ <;> (intro h; cases h))
       | (with_reducible refine Two.l ?_; refine Asm.mk ?_ ?_; focus (decide +kernel))
       | (with_reducible refine Two.r ?_)
       | (with_reducible refine TwoT.r ?_)
       | (with_reducible refine TwoU.r ?_)
       | (with_reducible refine Asm.mk ?_ ?_; focus (first | exact hT.side (hTb3 (by assumption) (by assumption)) (by decide) (by decide) | exact hsd rfl (Nat.le_refl _) | (show (_ : Bool) = true; kernel_rfl)))
       | (with_reducible refine isCP hcp ?_; first | (refine iP hcp (width_c _ (hu64 (by assumption))) ?_; intro z hz) | (refine sP hcp (bits_c (l.map (fun v => u64 (placeV v u))) L (hLe (by assumption)) hlm _ (hlen (by assumption))) ?_; intro z hz))
       | (with_reducible refine isCC hcc ?_; first | (refine iA hcc (width_c _ (hu64 (by assumption))) rfl ?_; intro z hz) | (refine iR hcc (width_c _ (hu64 (by assumption))) rfl ?_; intro z hz) | (refine sA hcc (bits_c (l.map (fun v => u64 (placeV v u))) L (hLe (by assumption)) hlm _ (hlen (by assumption))) rfl ?_; intro z hz) | (refine sR hcc (bits_c (l.map (fun v => u64 (placeV v u))) L (hLe (by assumption)) hlm _ (hlen (by assumption))) rfl ?_; intro z hz))
       | (with_reducible refine Ix.map hD cells_len (by decide) hi0 (hk (by assumption)) ?_; intro x hx)
       | (with_reducible refine isCC hcc ?_; refine lookCC hcc 1 3 (by decide) hU hrise hu2 (hpl hx) (hUn (by assumption)) rfl rfl rfl ?_; intro q hq)
       | (with_reducible refine Asm.mk2 ?_ ?_)
       | ((fail_if_success (with_reducible first | refine hQ _ ?_ | refine Side.mk ?_ | refine isCP hcp ?_ | refine isCC hcc ?_ | refine isLP hlp ?_ | refine Ix.mk ?_ | refine SIx.mk ?_ | refine SEx.mk ?_ | refine EIx.mk ?_ | refine RIx.mk ?_ | refine LkX.mk ?_ | show False | refine hR ?_ _ ?_ ?_ ?_ ?_ ?_ | refine hR2 ?_ _ ?_ ?_ ?_ ?_ ?_)); cbv))
     · rename_i hiz zn hzn zu hzu zL hzL zm hzm
       obtain ⟨g1, g2, g3, g4, g5⟩ := hgo hiz
       rw [g4] at hz
       subst hz
       refine hR (i + 1, zL, zm) _ ⟨g1, g2, ?_, ?_⟩ g3 ⟨rfl, rfl, trivial⟩ ⟨rfl, rfl, rfl, rfl, trivial⟩ rfl
       · show ((l.take (i + 1).toNat).map (fun v => u64 (placeV v u))).map u64c = zL
         rw [g5, hst hx, ← hzL, ← hzu, ← hq]; rfl
       · show zL.length = zm
         rw [← hzL, ← hzm, List.length_append]
     · rename_i hiz2 z5 h5 z4 h4 z3 h3 z2 h2 w hw t ht
       have hw2 := hwid h5 h4 h3 h2 hw
       have hR3 := hT.app (hTb3 hw ht) hz
       refine hQ _ ?_
       rw [hR3.e, ← hh2, wordsB, hu, hw2]
       simp only [List.append_assoc]
 · rename_i zk hzk za hza zs1 hs1 zc hzc zu hzu zb4 hb4 zs hzs zD hzD zC hzC hpq
   have hh := hhM hzD hzC hpq hzc hzu
   have hzl : z = (vs.length : Int) := by rw [← hz, hCl]
   clear hz
   refine mintT hlp 1 10 rfl ?_
   refine loopT (ι := Int × List (List PV) × Nat) mixed tt_ok hcp hcc hlp [1, 6, 7, 8, 9, 88, 89] (fun p => [(90, .p (.int .i64 p.1)), (10, .tok 2 p.2.1)]) (fun p => [.cells [.p (.int .i64 a), .p (.sl n1), .p (.sl n2), .p (.sl n3)], .cells [.p (.sl U)], .spare p.2.2 1]) (fun p => 0 ≤ p.1 ∧ p.1 ≤ vs.length ∧ ((vs.take p.1.toNat).map markN).map u64c = p.2.1 ∧ p.2.1.length = p.2.2) (fun p => (vs.length - p.1).toNat) (0, [], 0) 3 (fun _ => rfl) ⟨Int.le_refl _, by show (0 : Int) ≤ _; omega, rfl, rfl⟩ ⟨rfl, rfl, trivial⟩ rfl ?_
   rintro R ⟨i, L, m⟩ ⟨hi0, hi1, hL, hm⟩ hR
   replace hi0 : 0 ≤ i := hi0
   replace hi1 : i ≤ vs.length := hi1
   replace hL : ((vs.take i.toNat).map markN).map u64c = L := hL
   replace hm : L.length = m := hm
   have hLn : L.length ≤ 4096 := by rw [← hL]; simp; omega
   have hok : okEs 1 L = true := by
     rw [← hL]; exact List.all_eq_true.2 fun e he => by obtain ⟨c, _, rfl⟩ := List.mem_map.1 he; rfl
   have hk : decide (i < z) = true → i < vs.length := fun h => by have := of_decide_eq_true h; omega
   have hgo : decide (i < z) = true → 0 ≤ i + 1 ∧ i + 1 ≤ vs.length ∧ (vs.length - (i + 1)).toNat < (vs.length - i).toNat ∧ IntKind.i64.wrap (i + 1) = i + 1 ∧ (i + 1).toNat = i.toNat + 1 := by
     intro h
     have := of_decide_eq_true h
     exact ⟨by omega, by omega, by omega, wrap_in (by omega), by omega⟩
   have hend : decide (i < z) = false → i.toNat = vs.length := by
     intro h
     have := of_decide_eq_false h
     omega
   have hsd : ∀ {e : List (List PV)}, okEs 1 e = true → e.length ≤ 1 → m = L.length ∧ 1 = 1 ∧ okEs 1 L = true ∧ okEs 1 e = true ∧ L.length + e.length ≤ maxLen ∧ (L.length + e.length) * 8 ≤ 140737488355328 := by
     intro e h1 h2
     refine ⟨hm.symm, rfl, hok, h1, ?_, by omega⟩
     show _ ≤ 9223372036854775807
     omega
   have hmk : ∀ {x : Val} {zb : Bool} {v : Val} {zu : Int}, decide (x.k = 0) = zb → truthV zb = v → IntKind.u64.wrap v.n = zu → zu = markN x := by
     rintro x zb v zu rfl rfl rfl
     rw [markN]
     by_cases h : x.k = 0
     · rw [if_pos h, decide_eq_true h]; decide
     · rw [if_neg h, decide_eq_false h]; decide
   have hst : ∀ {x : Val}, vs[i.toNat]? = some x → ((vs.take (i.toNat + 1)).map markN).map u64c = L ++ [[PV.int .u64 (markN x)]] := by
     intro x hx
     rw [take_snoc hx, List.map_append, List.map_append, hL]; rfl
   have hLe : decide (i < z) = false → (vs.map markN).map u64c = L := by
     intro h; rw [← hL, hend h, List.take_length]
   have hTm : ∀ {s r : ByteArray}, ⟨⟨[1]⟩⟩ ++ s = r → toB (bitsB 1 (vs.map markN)) = s → Txt r ([1] ++ bitsB 1 (vs.map markN)) 1001 := fun e e1 => hT1.app (hTb e1) e
   have hTM : ∀ {z1 z2 x : Int} {s t r q y w : ByteArray}, r ++ y = q → ⟨⟨[1]⟩⟩ ++ w = y → toB (bitsB 1 (vs.map markN)) = w → s ++ t = r → strOf [[PV.int .u8 z1], [PV.int .u8 z2]] = s → IntKind.u8.wrap 3 = z1 → IntKind.u8.wrap a = z2 → toB (byW 4 x) = t → Txt q ([kb, ab] ++ byW 4 x ++ ([1] ++ bitsB 1 (vs.map markN))) (6 + 1001) := fun e0 e9 e8 e e1 e2 e3 e4 => (hT6 e e1 e2 e3 e4).app (hTm e9 e8) e0
   repeat' (first
     | (with_reducible exact absurd (by assumption) hxc1)
     | (with_reducible exact absurd (by assumption) hxc2)
     | (with_reducible exact absurd (by assumption) hxc3)
     | (with_reducible exact absurd (by assumption) hxc4)
     | (with_reducible refine Nm.mk ?_; intro z hz)
     | (with_reducible refine IfB.mk ?_ ?_ <;> (intro h; cases h))
     | (with_reducible refine Two.l ?_; refine Asm.mk ?_ ?_; focus (decide +kernel))
     | (with_reducible refine Two.r ?_)
     | (with_reducible refine TwoT.r ?_)
     | (with_reducible refine TwoU.r ?_)
     | (with_reducible refine Asm.mk ?_ ?_; focus (first | exact hT1.side (hTb (by assumption)) (by decide) (by decide) | exact (hT6 (by assumption) (by assumption) (by assumption) (by assumption) (by assumption)).side (hTm (by assumption) (by assumption)) (by decide) (by decide) | exact (hTM (by assumption) (by assumption) (by assumption) (by assumption) (by assumption) (by assumption) (by assumption) (by assumption)).side (hT2 (by assumption)) (by decide) (by decide) | exact hsd rfl (Nat.le_refl _) | (show (_ : Bool) = true; kernel_rfl)))
     | (with_reducible refine isCP hcp ?_; first | (refine vP hcp (truth_c _) ?_; intro v hv) | (refine sP hcp (bits_c (vs.map markN) L (hLe (by assumption)) (by rw [List.length_map]; exact hvle2) 1 (by decide)) ?_; intro z hz) | (refine sP hcp (bytesW_c 2 _ (hpos (by assumption)) (by decide)) ?_; intro z hz))
     | (with_reducible refine isCC hcc ?_; first | (refine vA hcc (truth_c _) rfl ?_; intro v hv) | (refine vR hcc (truth_c _) rfl ?_; intro v hv) | (refine sA hcc (bits_c (vs.map markN) L (hLe (by assumption)) (by rw [List.length_map]; exact hvle2) 1 (by decide)) rfl ?_; intro z hz) | (refine sR hcc (bits_c (vs.map markN) L (hLe (by assumption)) (by rw [List.length_map]; exact hvle2) 1 (by decide)) rfl ?_; intro z hz) | (refine sA hcc (bytesW_c 2 _ (hpos (by assumption)) (by decide)) rfl ?_; intro z hz) | (refine sR hcc (bytesW_c 2 _ (hpos (by assumption)) (by decide)) rfl ?_; intro z hz))
     | (with_reducible refine Ix.map hC cells_len (by decide) hi0 (hk (by assumption)) ?_; intro x hx)
     | (with_reducible refine Asm.mk2 ?_ ?_)
     | ((fail_if_success (with_reducible first | refine hQ _ ?_ | refine Side.mk ?_ | refine isCP hcp ?_ | refine isCC hcc ?_ | refine isLP hlp ?_ | refine Ix.mk ?_ | refine SIx.mk ?_ | refine SEx.mk ?_ | refine EIx.mk ?_ | refine RIx.mk ?_ | refine LkX.mk ?_ | show False | refine hR ?_ _ ?_ ?_ ?_ ?_ ?_ | refine hR2 ?_ _ ?_ ?_ ?_ ?_ ?_)); cbv))
   · rename_i hiz zb hzb zu hzu zL hzL zm hzm
     obtain ⟨g1, g2, g3, g4, g5⟩ := hgo hiz
     rw [g4] at hz
     subst hz
     refine hR (i + 1, zL, zm) _ ⟨g1, g2, ?_, ?_⟩ g3 ⟨rfl, rfl, trivial⟩ ⟨rfl, rfl, rfl, rfl, rfl, rfl, rfl, trivial⟩ rfl
     · show ((vs.take (i + 1).toNat).map markN).map u64c = zL
       rw [g5, hst hx, ← hzL, hmk hzb hv hzu]
     · show zL.length = zm
       rw [← hzL, ← hzm, List.length_append]
   · rename_i hiz zb hzb zr hzr zq2 hzq2 h11 h12 h13 zU hzU zw hzw z2 hz2 zr2 hzr2
     obtain ⟨hd, hhd, htx⟩ := (((hT6 hzs hs1 hzk hza hb4).app (hTm hzr hzb) hzq2).app (hT2 hz2) hzr2).name (by decide)
     have hh2 : hb0 ++ byW 2 (u64 u.length) = hd := by rw [← hhd, hh, ← hzw, ← hzU, hUl]; rfl
     clear hR hL hm hLn hok hk hgo hend hsd hmk hst hLe hTm
     have hzl : z = (u.length : Int) := by rw [← hz, hUl]
     clear hz
     refine loopT (ι := Int × ByteArray) mixed tt_ok hcp hcc hlp [7, 8, 179, 180] (fun p => [(181, .p (.int .i64 p.1)), (9, .p (.str p.2))]) (fun p => [.cells [.p (.int .i64 a), .p (.sl n1), .p (.sl n2), .p (.sl n3)], .cells [.p (.sl U)], .spare m 1]) (fun p => 0 ≤ p.1 ∧ p.1 ≤ u.length ∧ Txt p.2 (hd ++ plainB (u.take p.1.toNat)) 5000000) (fun p => (u.length - p.1).toNat) (0, _) 3 (fun _ => rfl) ⟨Int.le_refl _, by show (0 : Int) ≤ _; omega, ⟨by rw [htx.e]; simp [plainB_nil], by have := htx.le; simp [plainB_nil]; omega⟩⟩ ⟨rfl, rfl, trivial⟩ rfl ?_
     rintro R2 ⟨j, s⟩ ⟨hj0, hj1, hs⟩ hR2
     replace hj0 : 0 ≤ j := hj0
     replace hj1 : j ≤ u.length := hj1
     replace hs : Txt s (hd ++ plainB (u.take j.toNat)) 5000000 := hs
     have hk3 : decide (j < z) = true → j < u.length := fun h => by have := of_decide_eq_true h; omega
     have hgo3 : decide (j < z) = true → 0 ≤ j + 1 ∧ j + 1 ≤ u.length ∧ (u.length - (j + 1)).toNat < (u.length - j).toNat ∧ IntKind.i64.wrap (j + 1) = j + 1 ∧ (j + 1).toNat = j.toNat + 1 := by
       intro h
       have := of_decide_eq_true h
       exact ⟨by omega, by omega, by omega, wrap_in (by omega), by omega⟩
     have hend3 : decide (j < z) = false → j.toNat = u.length := by
       intro h
       have := of_decide_eq_false h
       omega
     have hsx3 : ∀ {y : Val}, u[j.toNat]? = some y → y.s.size ≤ 2000000 := fun h => Nat.le_trans (hfu.2 _ (List.mem_of_getElem? h)) (by decide)
     have hTv : ∀ {y : Val} {t : ByteArray}, u[j.toNat]? = some y → toB (valB y) = t → Txt t (valB y) 1010 := by
       rintro y t h rfl
       exact ⟨rfl, valB_le (hfu.2 _ (List.mem_of_getElem? h))⟩
     have hnx3 : ∀ {y : Val} {t r : ByteArray}, u[j.toNat]? = some y → toB (valB y) = t → s ++ t = r → Txt r (hd ++ plainB (u.take (j.toNat + 1))) 5000000 := by
       intro y t r h1 h2 h3
       have h4 := hs.app (hTv h1 h2) h3
       rw [List.append_assoc, ← plainB_succ h1] at h4
       refine ⟨h4.e, ?_⟩
       have h5 := plainB_len (l := u.take (j.toNat + 1)) (hfu.take _).2
       have h6 := (hfu.take (j.toNat + 1)).1
       have h7 := htx.le
       rw [List.length_append]; omega
     repeat' (first
       | (with_reducible refine Nm.mk ?_; intro z hz)
       | (with_reducible refine IfB.mk ?_ ?_ <;> (intro h; cases h))
       | (with_reducible refine Two.l ?_; refine Asm.mk ?_ ?_; focus (decide +kernel))
       | (with_reducible refine Two.r ?_)
       | (with_reducible refine TwoT.r ?_)
       | (with_reducible refine TwoU.r ?_)
       | (with_reducible refine Asm.mk ?_ ?_; focus (first | exact hs.side (hTv (by assumption) (by assumption)) (by decide) (by decide) | (show (_ : Bool) = true; kernel_rfl)))
       | (with_reducible refine isCP hcp ?_; first | (refine sP hcp (plainly_c _ _ _ (hsx3 (by assumption))) ?_; intro z hz))
       | (with_reducible refine isCC hcc ?_; first | (refine sA hcc (plainly_c _ _ _ (hsx3 (by assumption))) rfl ?_; intro z hz) | (refine sR hcc (plainly_c _ _ _ (hsx3 (by assumption))) rfl ?_; intro z hz))
       | (with_reducible refine Ix.map hU cells_len (by decide) hj0 (hk3 (by assumption)) ?_; intro y hy)
       | (with_reducible refine Asm.mk2 ?_ ?_)
       | ((fail_if_success (with_reducible first | refine hQ _ ?_ | refine Side.mk ?_ | refine isCP hcp ?_ | refine isCC hcc ?_ | refine isLP hlp ?_ | refine Ix.mk ?_ | refine SIx.mk ?_ | refine SEx.mk ?_ | refine EIx.mk ?_ | refine RIx.mk ?_ | refine LkX.mk ?_ | show False | refine hR ?_ _ ?_ ?_ ?_ ?_ ?_ | refine hR2 ?_ _ ?_ ?_ ?_ ?_ ?_)); cbv))
     · rename_i hjz t ht zr hzr
       obtain ⟨g1, g2, g3, g4, g5⟩ := hgo3 hjz
       rw [g4] at hz
       subst hz
       refine hR2 (j + 1, zr) _ ⟨g1, g2, ?_⟩ g3 ⟨rfl, rfl, trivial⟩ ⟨rfl, rfl, rfl, rfl, trivial⟩ rfl
       show Txt zr (_ ++ plainB (_)) 5000000
       rw [g5]
       exact hnx3 hy ht hzr
     · rename_i hjz
       have hT := hend3 hjz ▸ hs
       rw [List.take_length] at hT
       clear hs hk3 hgo3 hsx3 hTv hnx3 hR2
       have hzl2 : z = (l.length : Int) := by rw [← hz, hDl]
       clear hz
       refine mintT hlp 1 21 rfl ?_
       refine loopT (ι := Int × List (List PV) × Nat) mixed tt_ok hcp hcc hlp [8, 9, 190, 191] (fun p => [(192, .p (.int .i64 p.1)), (21, .tok 3 p.2.1)]) (fun p => [.cells [.p (.int .i64 a), .p (.sl n1), .p (.sl n2), .p (.sl n3)], .cells [.p (.sl U)], .spare m 1, .spare p.2.2 1]) (fun p => 0 ≤ p.1 ∧ p.1 ≤ l.length ∧ ((l.take p.1.toNat).map (fun v => u64 (placeV v u))).map u64c = p.2.1 ∧ p.2.1.length = p.2.2) (fun p => (l.length - p.1).toNat) (0, [], 0) 4 (fun _ => rfl) ⟨Int.le_refl _, by show (0 : Int) ≤ _; omega, rfl, rfl⟩ ⟨rfl, rfl, trivial⟩ rfl ?_
       rintro R ⟨i, L, m2⟩ ⟨hi0, hi1, hL, hm⟩ hR
       replace hi0 : 0 ≤ i := hi0
       replace hi1 : i ≤ l.length := hi1
       replace hL : ((l.take i.toNat).map (fun v => u64 (placeV v u))).map u64c = L := hL
       replace hm : L.length = m2 := hm
       have hLn : L.length ≤ 4096 := by rw [← hL]; simp; omega
       have hok : okEs 1 L = true := by
         rw [← hL]; exact List.all_eq_true.2 fun e he => by obtain ⟨c, _, rfl⟩ := List.mem_map.1 he; rfl
       have hk : decide (i < z) = true → i < l.length := fun h => by have := of_decide_eq_true h; omega
       have hgo : decide (i < z) = true → 0 ≤ i + 1 ∧ i + 1 ≤ l.length ∧ (l.length - (i + 1)).toNat < (l.length - i).toNat ∧ IntKind.i64.wrap (i + 1) = i + 1 ∧ (i + 1).toNat = i.toNat + 1 := by
         intro h
         have := of_decide_eq_true h
         exact ⟨by omega, by omega, by omega, wrap_in (by omega), by omega⟩
       have hend : decide (i < z) = false → i.toNat = l.length := by
         intro h
         have := of_decide_eq_false h
         omega
       have hsd : ∀ {e : List (List PV)}, okEs 1 e = true → e.length ≤ 1 → m2 = L.length ∧ 1 = 1 ∧ okEs 1 L = true ∧ okEs 1 e = true ∧ L.length + e.length ≤ maxLen ∧ (L.length + e.length) * 8 ≤ 140737488355328 := by
         intro e h1 h2
         refine ⟨hm.symm, rfl, hok, h1, ?_, by omega⟩
         show _ ≤ 9223372036854775807
         omega
       have hst : ∀ {x : Val}, l[i.toNat]? = some x → ((l.take (i.toNat + 1)).map (fun v => u64 (placeV v u))).map u64c = L ++ [[PV.int .u64 ((fun v => u64 (placeV v u)) x)]] := by
         intro x hx
         rw [take_snoc hx, List.map_append, List.map_append, hL]; rfl
       have hLe : decide (i < z) = false → (l.map (fun v => u64 (placeV v u))).map u64c = L := by
         intro h; rw [← hL, hend h, List.take_length]
       have hlm : (l.map (fun v => u64 (placeV v u))).length ≤ 4096 := by rw [List.length_map]; exact hl0
       have hpl : ∀ {x : Val}, l[i.toNat]? = some x → u[placeV x u]? = some x := fun h => placeV_ok (hmem (List.mem_of_getElem? h))
       have hTb3 : ∀ {W w : Int} {t : ByteArray}, lenI W = w → toB (bitsB w (l.map (fun v => u64 (placeV v u)))) = t → Txt t (bitsB w (l.map (fun v => u64 (placeV v u)))) 50000 := by
         rintro W w t rfl rfl
         exact ⟨rfl, bits_le (lenI_le W) (by rw [List.length_map]; exact hl0)⟩
       repeat' (first
         | (with_reducible refine Nm.mk ?_; intro z hz)
         | (with_reducible refine IfB.mk ?_ ?_ <;> (intro h; cases h))
         | (with_reducible refine Two.l ?_; refine Asm.mk ?_ ?_; focus (decide +kernel))
         | (with_reducible refine Two.r ?_)
         | (with_reducible refine TwoT.r ?_)
         | (with_reducible refine TwoU.r ?_)
         | (with_reducible refine Asm.mk ?_ ?_; focus (first | exact hT.side (hTb3 (by assumption) (by assumption)) (by decide) (by decide) | exact hsd rfl (Nat.le_refl _) | (show (_ : Bool) = true; kernel_rfl)))
         | (with_reducible refine isCP hcp ?_; first | (refine iP hcp (width_c _ (hu64 (by assumption))) ?_; intro z hz) | (refine sP hcp (bits_c (l.map (fun v => u64 (placeV v u))) L (hLe (by assumption)) hlm _ (hlen (by assumption))) ?_; intro z hz))
         | (with_reducible refine isCC hcc ?_; first | (refine iA hcc (width_c _ (hu64 (by assumption))) rfl ?_; intro z hz) | (refine iR hcc (width_c _ (hu64 (by assumption))) rfl ?_; intro z hz) | (refine sA hcc (bits_c (l.map (fun v => u64 (placeV v u))) L (hLe (by assumption)) hlm _ (hlen (by assumption))) rfl ?_; intro z hz) | (refine sR hcc (bits_c (l.map (fun v => u64 (placeV v u))) L (hLe (by assumption)) hlm _ (hlen (by assumption))) rfl ?_; intro z hz))
         | (with_reducible refine Ix.map hD cells_len (by decide) hi0 (hk (by assumption)) ?_; intro x hx)
         | (with_reducible refine isCC hcc ?_; refine lookCC hcc 1 4 (by decide) hU hrise hu2 (hpl hx) (hUn (by assumption)) rfl rfl rfl ?_; intro q hq)
         | (with_reducible refine Asm.mk2 ?_ ?_)
         | ((fail_if_success (with_reducible first | refine hQ _ ?_ | refine Side.mk ?_ | refine isCP hcp ?_ | refine isCC hcc ?_ | refine isLP hlp ?_ | refine Ix.mk ?_ | refine SIx.mk ?_ | refine SEx.mk ?_ | refine EIx.mk ?_ | refine RIx.mk ?_ | refine LkX.mk ?_ | show False | refine hR ?_ _ ?_ ?_ ?_ ?_ ?_ | refine hR2 ?_ _ ?_ ?_ ?_ ?_ ?_)); cbv))
       · rename_i hiz zn hzn zu hzu zL hzL zm hzm
         obtain ⟨g1, g2, g3, g4, g5⟩ := hgo hiz
         rw [g4] at hz
         subst hz
         refine hR (i + 1, zL, zm) _ ⟨g1, g2, ?_, ?_⟩ g3 ⟨rfl, rfl, trivial⟩ ⟨rfl, rfl, rfl, rfl, trivial⟩ rfl
         · show ((l.take (i + 1).toNat).map (fun v => u64 (placeV v u))).map u64c = zL
           rw [g5, hst hx, ← hzL, ← hzu, ← hq]; rfl
         · show zL.length = zm
           rw [← hzL, ← hzm, List.length_append]
       · rename_i hiz2 z5 h5 z4 h4 z3 h3 z2 h2 w hw t ht
         have hw2 := hwid h5 h4 h3 h2 hw
         have hR3 := hT.app (hTb3 hw ht) hz
         refine hQ _ ?_
         rw [hR3.e, ← hh2, wordsB, hu, hw2]
         simp only [List.append_assoc]
end Go.Proofs.Ytcajncmjlmpkgaa
